/-
  Contracts of functions of the program, over the logic of the texts before. Nothing is assumed.
-/
import Derived.Test.YtkbjecdpgbnkdaaGreatT5

open Go Go.AL Go.Proofs
namespace S
set_option maxRecDepth 100000

theorem alook_some {es : Marks} {x : Node} {r : Int} {k : AV → Prop} (hl : lookO es x = some r) (h : k (.tup [.int .i64 r,.tt])) : ALook (encM es) (nAV x) fun r=>lookK true (.int .i64 0) r k:=by
 refine ⟨some (.int .i64 r),?_,h⟩
 induction es with
 | nil=>simp [lookO] at hl
 | cons e es ih =>
   obtain ⟨y,v⟩:=e
   simp only [lookO] at hl
   by_cases hy : y = x
   ·subst hy
    rw [if_pos rfl] at hl
    obtain rfl:=Option.some.inj hl
    exact ⟨_,List.mem_cons_self,rfl,rfl⟩
   ·rw [if_neg hy] at hl
    obtain ⟨z,hz,h3,h4⟩:=ih hl
    exact ⟨z,by simp only [encM,List.map_cons,List.mem_cons]; exact .inr hz,h3,h4⟩

theorem alook_none {es : Marks} {x : Node} {k : AV → Prop} (hl : lookO es x = none) (h : k (.tup [.int .i64 0,.ff])) : ALook (encM es) (nAV x) fun r=>lookK true (.int .i64 0) r k:=by
 refine ⟨none,?_,h⟩
 induction es with
 | nil=>intro z hz; simp [encM] at hz
 | cons e es ih =>
   obtain ⟨y,v⟩:=e
   simp only [lookO] at hl
   by_cases hy : y = x
   ·subst hy; rw [if_pos rfl] at hl; cases hl
   ·rw [if_neg hy] at hl
    intro z hz
    simp only [encM,List.map_cons,List.mem_cons] at hz
    rcases hz with rfl | hz
    ·exact fun e=>hy (kv_inj.1 e)
    ·exact ih hl z hz

abbrev xT (T : Tb) : AV:=.ag [.sl 1 (T.order.map (.int .i64)) .no,.ms 1 0 T.place.length T.place.length 1,.sl 3 (T.nodes.map nAV) (.own 2),.mp 3,.mp 4]
abbrev hpT (T : Tb) : Heap:=[(4,.amap shN (encM T.memo)),(3,.amap shN (encM T.uq)),(2,.tok 3 T.nodes.length),(1,.arr 1 T.place.length (T.place.map (.int .i64))),(0,.box (xT T))]

theorem c_tMake (T : Tb) (v lo hi : Int) (hn : T.nodes.length ≤ 1000000000) :
  FnH Tryz.prog 132 [.ptr 0 [] 0,.int .i64 v,.int .i64 lo,.int .i64 hi] (hpT T) (.int .i64 (T.make v lo hi).2) (hpT (T.make v lo hi).1):=by
 by_cases he : lo = hi
 ·rw [show T.make v lo hi = (T,lo) from if_pos he]
  refine FnH.intro lay mixed Tryz.func132 (by kernel_rfl) rfl (by kernel_rfl) rfl fun hok=>?_
  (try dsimp only[argC,succC]);(try dsimp only[awp]);conv=>whnf
  refine And.intro (fun _=>?_) (fun h=>absurd he h)
  (try dsimp only[awp]);conv=>whnf
  refine ⟨⟨_,_,.refl _ _,?_⟩⟩
  conv=>whnf
  refine ⟨?_,rfl,by simp [nextId],.mk ?_ (by simp [idsOk])⟩
  ·repeat' first|exact rfl|exact trivial|exact wR|exact lR _|apply aI
   all_goals first | (rw [List.length_map]; done) | skip
  ·repeat' first|exact rfl|exact trivial|exact wR|exact lR _|apply aI
   all_goals first | exact leM_refl _ | exact encM_bnd _ _ | (show leRL _ (List.map _ (_ ++ [_])); rw [List.map_append]; exact leRL_refl _) | (simp; done) | skip
 cases hl : lookO T.uq (v,lo,hi) with
 | some r =>
   rw [show T.make v lo hi = (T,r) from by unfold Tb.make; rw [if_neg he,hl]]
   refine FnH.intro lay mixed Tryz.func132 (by kernel_rfl) rfl (by kernel_rfl) rfl fun hok=>?_
   (try dsimp only[argC,succC]);(try dsimp only[awp]);conv=>whnf
   refine And.intro (fun h=>absurd h he) (fun _=>?_)
   (try dsimp only[awp]);conv=>whnf
   refine ADraw.auto (by kernel_rfl) ?_;conv=>whnf
   refine alook_some (x:=(v,lo,hi)) hl ?_
   (try dsimp only[awp]);conv=>whnf
   refine ⟨⟨_,_,.refl _ _,?_⟩⟩
   conv=>whnf
   refine ⟨?_,rfl,by simp [nextId],.mk ?_ (by simp [idsOk])⟩
   ·repeat' first|exact rfl|exact trivial|exact wR|exact lR _|apply aI
    all_goals first | (rw [List.length_map]; done) | skip
   ·repeat' first|exact rfl|exact trivial|exact wR|exact lR _|apply aI
    all_goals first | exact leM_refl _ | exact encM_bnd _ _ | (show leRL _ (List.map _ (_ ++ [_])); rw [List.map_append]; exact leRL_refl _) | (simp; done) | skip
 | none =>
   rw [show T.make v lo hi = ({ T with nodes:=T.nodes ++ [(v,lo,hi)],uq:=mark T.uq (v,lo,hi) (2 + (T.nodes.length : Int)) },2 + (T.nodes.length : Int)) from by unfold Tb.make; rw [if_neg he,hl]]
   refine FnH.intro lay mixed Tryz.func132 (by kernel_rfl) rfl (by kernel_rfl) rfl fun hok=>?_
   (try dsimp only[argC,succC]);(try dsimp only[awp]);conv=>whnf
   refine And.intro (fun h=>absurd h he) (fun _=>?_)
   (try dsimp only[awp]);conv=>whnf
   refine ADraw.auto (by kernel_rfl) ?_;conv=>whnf
   refine alook_none (x:=(v,lo,hi)) hl ?_
   (try dsimp only[awp]);conv=>whnf
   rw [List.length_map]
   refine ⟨inr64 (by omega) (by omega),?_⟩
   (try dsimp only[awp]);conv=>whnf
   refine ADraw.auto (by kernel_rfl) ?_;conv=>whnf
   refine ⟨by rw [List.length_map],.mk (by simp [maxL]; omega) (by simp; omega) ?_⟩
   (try dsimp only[awp]);conv=>whnf
   refine ADraw.auto (by kernel_rfl) ?_;conv=>whnf
   refine aupd_es (x:=(v,lo,hi)) ?_
   (try dsimp only[awp]);conv=>whnf
   refine ⟨⟨_,_,.refl _ _,?_⟩⟩
   conv=>whnf
   refine ⟨?_,rfl,by simp [nextId],.mk ?_ (by simp [idsOk])⟩
   ·repeat' first|exact rfl|exact trivial|exact wR|exact lR _|apply aI
    all_goals first | (rw [List.length_map]; done) | skip
   ·repeat' first|exact rfl|exact trivial|exact wR|exact lR _|apply aI
    all_goals first | exact leM_refl _ | exact encM_bnd _ _ | (show leRL _ (List.map _ (_ ++ [_])); rw [List.map_append]; exact leRL_refl _) | (simp; done) | skip

theorem c_tEvent (T : Tb) (v : Int) (hn : T.nodes.length ≤ 1000000000) :
  FnH Tryz.prog 129 [.ptr 0 [] 0,.int .i64 v] (hpT T) (.int .i64 (T.make v 0 1).2) (hpT (T.make v 0 1).1):=by
 refine FnH.intro lay mixed Tryz.func129 (by kernel_rfl) rfl (by kernel_rfl) rfl fun hok=>?_
 (try dsimp only[argC,succC]);(try dsimp only[awp]);conv=>whnf
 refine .gen _ _ (c_tMake T v 0 1 hn) fun _=>?_
 (try dsimp only[awp]);conv=>whnf
 refine ⟨⟨_,_,.refl _ _,?_⟩⟩
 conv=>whnf
 refine ⟨?_,rfl,by simp [nextId],.mk ?_ (by simp [idsOk])⟩
 ·repeat' first|exact rfl|exact trivial|exact wR|exact lR _|apply aI
  all_goals first | (rw [List.length_map]; done) | skip
 ·repeat' first|exact rfl|exact trivial|exact wR|exact lR _|apply aI
  all_goals first | exact leM_refl _ | exact encM_bnd _ _ | (show leRL _ (List.map _ (_ ++ [_])); rw [List.map_append]; exact leRL_refl _) | (simp; done) | skip

theorem c_tLevel (T : Tb) (hT : GoodT T) (hn : T.nodes.length ≤ 1000000000) (r : Int) (hr : T.Rf r) :
  FnH Tryz.prog 230 [.ptr 0 [] 0,.int .i64 r] (hpT T) (.int .i64 (T.lvl r)) (hpT T):=by
 have h0:=hr.1
 have h1:=hr.2
 by_cases h2 : r < 2
 ·rw [show T.lvl r = (T.order.length : Int) from if_pos h2]
  refine FnH.intro lay mixed Tryz.func230 (by kernel_rfl) rfl (by kernel_rfl) rfl fun hok=>?_
  (try dsimp only[argC,succC]);(try dsimp only[awp]);conv=>whnf
  refine And.intro (fun _=>?_) (fun h=>absurd h2 h)
  (try dsimp only[awp]);conv=>whnf
  refine ⟨⟨_,_,.refl _ _,?_⟩⟩
  conv=>whnf
  refine ⟨?_,rfl,by simp [nextId],.mk ?_ (by simp [idsOk])⟩
  ·repeat' first|exact rfl|exact trivial|exact wR|exact lR _|apply aI
   all_goals first | (rw [List.length_map]; done) | skip
  ·repeat' first|exact rfl|exact trivial|exact wR|exact lR _|apply aI
   all_goals first | exact leM_refl _ | exact encM_bnd _ _ | (show leRL _ (List.map _ (_ ++ [_])); rw [List.map_append]; exact leRL_refl _) | (simp; done) | skip
 ·have g:=(hT.at hr (by omega)).1
  have hp:=hT.plen
  rw [show T.lvl r = T.pl (T.node r).1 from if_neg h2]
  refine FnH.intro lay mixed Tryz.func230 (by kernel_rfl) rfl (by kernel_rfl) rfl fun hok=>?_
  (try dsimp only[argC,succC]);(try dsimp only[awp]);conv=>whnf
  refine And.intro (fun h=>absurd h h2) (fun _=>?_)
  (try dsimp only[awp]);conv=>whnf
  refine ADraw.auto (by kernel_rfl) ?_;conv=>whnf
  refine ⟨inr64 (by omega) (by omega),?_⟩
  conv=>whnf
  refine aidxD default ⟨by omega,by omega⟩ ?_
  conv=>whnf
  have hv : 0 ≤ (T.nodes.getD (r - 2).toNat default).1 ∧ (T.nodes.getD (r - 2).toNat default).1 < (T.order.length : Int):=g.v
  refine ⟨⟨hv.1,by rw [hp]; exact hv.2⟩,?_⟩
  conv=>whnf
  rw [Nat.zero_add]
  refine aidxD 0 ⟨by omega,by omega⟩ ?_
  conv=>whnf
  refine ⟨rfl,?_⟩
  (try dsimp only[awp]);conv=>whnf
  refine ⟨⟨_,_,.refl _ _,?_⟩⟩
  conv=>whnf
  refine ⟨?_,rfl,by simp [nextId],.mk ?_ (by simp [idsOk])⟩
  ·repeat' first|exact rfl|exact trivial|exact wR|exact lR _|apply aI
   all_goals first | (rw [List.length_map]; done) | skip
  ·repeat' first|exact rfl|exact trivial|exact wR|exact lR _|apply aI
   all_goals first | exact leM_refl _ | exact encM_bnd _ _ | (show leRL _ (List.map _ (_ ++ [_])); rw [List.map_append]; exact leRL_refl _) | (simp; done) | skip

def Tb.kids (T : Tb) (r L : Int) : Int × Int:=if T.lvl r ≠ L then (r,r) else ((T.node r).2.1,(T.node r).2.2)

theorem c_tKids (T : Tb) (hT : GoodT T) (hn : T.nodes.length ≤ 1000000000) (r L : Int) (hr : T.Rf r) (hL : L < T.n) :
  FnH Tryz.prog 231 [.ptr 0 [] 0,.int .i64 r,.int .i64 L] (hpT T) (.tup [.int .i64 (T.kids r L).1,.int .i64 (T.kids r L).2]) (hpT T):=by
 have h0:=hr.1
 have h1:=hr.2
 have cl:=c_tLevel T hT hn r hr
 by_cases h2 : T.lvl r ≠ L
 ·rw [show T.kids r L = (r,r) from if_pos h2]
  refine FnH.intro lay mixed Tryz.func231 (by kernel_rfl) rfl (by kernel_rfl) rfl fun hok=>?_
  (try dsimp only[argC,succC]);(try dsimp only[awp]);conv=>whnf
  refine .gen _ _ cl fun _=>?_
  (try dsimp only[awp]);conv=>whnf
  refine And.intro (fun _=>?_) (fun h=>absurd h2 h)
  (try dsimp only[awp]);conv=>whnf
  refine ⟨⟨_,_,.refl _ _,?_⟩⟩
  conv=>whnf
  refine ⟨?_,rfl,by simp [nextId],.mk ?_ (by simp [idsOk])⟩
  ·repeat' first|exact rfl|exact trivial|exact wR|exact lR _|apply aI
   all_goals first | (rw [List.length_map]; done) | skip
  ·repeat' first|exact rfl|exact trivial|exact wR|exact lR _|apply aI
   all_goals first | exact leM_refl _ | exact encM_bnd _ _ | (show leRL _ (List.map _ (_ ++ [_])); rw [List.map_append]; exact leRL_refl _) | (simp; done) | skip
 ·have h2 : T.lvl r = L:=by simpa using h2
  have hr2 : ¬ r < 2:=by
   intro h
   have : T.lvl r = T.n:=if_pos h
   omega
  rw [show T.kids r L = ((T.node r).2.1,(T.node r).2.2) from if_neg (by omega)]
  refine FnH.intro lay mixed Tryz.func231 (by kernel_rfl) rfl (by kernel_rfl) rfl fun hok=>?_
  (try dsimp only[argC,succC]);(try dsimp only[awp]);conv=>whnf
  refine .gen _ _ cl fun _=>?_
  (try dsimp only[awp]);conv=>whnf
  refine And.intro (fun h=>absurd h2 h) (fun _=>?_)
  (try dsimp only[awp]);conv=>whnf
  refine ⟨inr64 (by omega) (by omega),?_⟩
  (try dsimp only[awp]);conv=>whnf
  refine aidxD default ⟨by omega,by omega⟩ ?_
  (try dsimp only[awp]);conv=>whnf
  refine ADraw.auto (by kernel_rfl) ?_;conv=>whnf
  refine ⟨⟨_,_,.refl _ _,?_⟩⟩
  conv=>whnf
  refine ⟨?_,rfl,by simp [nextId],.mk ?_ (by simp [idsOk])⟩
  ·repeat' first|exact rfl|exact trivial|exact wR|exact lR _|apply aI
   all_goals first | (rw [List.length_map]; done) | skip
  ·repeat' first|exact rfl|exact trivial|exact wR|exact lR _|apply aI
   all_goals first | exact leM_refl _ | exact encM_bnd _ _ | (show leRL _ (List.map _ (_ ++ [_])); rw [List.map_append]; exact leRL_refl _) | (simp; done) | skip

theorem ix_hi {i : Nat} (h : 5 ≤ i) : ix [0,1,2,3,4] i = none:=by
 match i,h with
 | k + 5,_=>rfl

theorem updH_hi {n : Nat} {G Y : Heap} : ∀ {X : Heap},(∀ x ∈ X,5 ≤ x.1) → updH [0,1,2,3,4] n G (X ++ Y) = X ++ updH [0,1,2,3,4] n G Y
 | [],_=>rfl
 | (i,o) :: X,h=>by
   have hi:=h (i,o) (by simp)
   simp only [List.cons_append,updH,ix_hi hi]
   rw [updH_hi fun x hx=>h x (by simp [hx])]

theorem hgetC_hi {n : Nat} {k : HO → Prop} {Y : Heap} (hn : n < 5) : ∀ {X : Heap},(∀ x ∈ X,5 ≤ x.1) → (hgetC (X ++ Y) n k ↔ hgetC Y n k)
 | [],_=>Iff.rfl
 | (i,o) :: X,h=>by
   have hi:=h (i,o) (by simp)
   have : Nat.beq i n = false:=by
    cases hb : Nat.beq i n with
    | false=>rfl
    | true=>have:=Nat.eq_of_beq_eq_true hb; simp at hi; omega
   simp only [List.cons_append,hgetC,this]
   exact hgetC_hi hn fun x hx=>h x (by simp [hx])

theorem nextId_hi {T : Tb} {X : Heap} (h : ∀ x ∈ X,5 ≤ x.1) : 5 ≤ nextId (X ++ hpT T):=by
 cases X with
 | nil=>exact Nat.le_refl _
 | cons x X=>have:=h x (by simp); obtain ⟨i,o⟩:=x; simp [nextId] at this ⊢; omega

theorem frT {f : Nat} {args : List AV} {R : AV} {T T' : Tb} (X : Heap) (hX : ∀ x ∈ X,5 ≤ x.1) (h : FnH Tryz.prog f args (hpT T) R (hpT T'))
  (ha : ∀ n,rnL (sg [0,1,2,3,4] n) args = args) (hR : ∀ n,rnV (sg [0,1,2,3,4] n) R = R) (hb : bndBL 5 args = true) :
  FnH Tryz.prog f args (X ++ hpT T) R (X ++ hpT T'):=by
 have hn:=nextId_hi (T:=T) hX
 have h1 : ∀ (k : Nat),k < 5 → ∀ (q : HO → Prop),hgetC (X ++ hpT T) k q ↔ hgetC (hpT T) k q:=fun k hk q=>hgetC_hi hk hX
 have:=FnH.frame (H:=X ++ hpT T) (args:=args) [0,1,2,3,4] h ⟨?_,rfl,rfl,hb⟩ ?_ (by rw [ha]; exact leL_refl _)
 ·rw [hR] at this
  have e : frH [0,1,2,3,4] (hpT T') (X ++ hpT T) = X ++ hpT T':=by
   unfold frH
   rw [updH_hi hX]
   show X ++ updH _ _ _ _ = _
   congr 1
   show [(4,HO.amap shN (rnM _ (encM T'.memo))),(3,HO.amap shN (rnM _ (encM T'.uq))),_,_,_] = _
   rw [encM_rn,encM_rn]
   rfl
  rwa [e] at this
 ·have : ∀ k,k < 5 → Nat.blt k (nextId (X ++ hpT T)) = true:=fun k hk=>by
   exact Nat.ble_eq_true_of_le (by omega)
  simp only [allLt,this 0 (by decide),this 1 (by decide),this 2 (by decide),this 3 (by decide),this 4 (by decide)]
 ·refine ⟨(h1 4 (by decide) _).2 ⟨⟨rfl,leM_rn _ _⟩,encM_bnd _ _⟩,(h1 3 (by decide) _).2 ⟨⟨rfl,leM_rn _ _⟩,encM_bnd _ _⟩,(h1 2 (by decide) _).2 ⟨⟨rfl,rfl⟩,rfl⟩,(h1 1 (by decide) _).2 ⟨⟨rfl,rfl,leRL_refl _⟩,rfl⟩,(h1 0 (by decide) _).2 ⟨?_,rfl⟩,trivial⟩
  exact le0_refl _

theorem kids_good {T : Tb} (h : GoodT T) {r L : Int} (hr : T.Rf r) (_ : 0 ≤ L) (hL : L ≤ T.lvl r) (hn : L < T.n) :
  T.Rf (T.kids r L).1 ∧ T.Rf (T.kids r L).2 ∧ L < T.lvl (T.kids r L).1 ∧ L < T.lvl (T.kids r L).2 ∧
  ∀ s,ev T.nodes s r = if s (T.order.getD L.toNat 0) then ev T.nodes s (T.kids r L).2 else ev T.nodes s (T.kids r L).1:=by
 unfold Tb.kids
 by_cases he : T.lvl r ≠ L
 ·rw [if_pos he]
  exact ⟨hr,hr,by show L < T.lvl r; omega,by show L < T.lvl r; omega,fun s=>by simp⟩
 ·rw [if_neg he]
  have he : T.lvl r = L:=by simpa using he
  have hr2 : ¬ r < 2:=by
   intro h
   have : T.lvl r = T.n:=if_pos h
   omega
  obtain ⟨k1,k2,k3,k4,_⟩:=h.kid hr (by omega)
  have hv : T.order.getD L.toNat 0 = (T.node r).1:=by
   have e : T.lvl r = T.pl (T.node r).1:=if_neg hr2
   have g:=(h.at hr (by omega)).1
   have:=(h.plc _ g.v.1 g.v.2).2.2
   rw [← e,he] at this
   exact this
  rw [hv]
  exact ⟨k1,k2,by rw [← he]; exact k3,by rw [← he]; exact k4,(h.at hr (by omega)).2⟩

theorem memo_good {T : Tb} (h : GoodT T) {c a b r : Int} (g : T.Rf c ∧ T.Rf a ∧ T.Rf b ∧ T.Rf r ∧ min (min (T.lvl c) (T.lvl a)) (T.lvl b) ≤ T.lvl r ∧ ∀ s,ev T.nodes s r = if ev T.nodes s c then ev T.nodes s a else ev T.nodes s b) :
  GoodT { T with memo:=mark T.memo (c,a,b) r }:=by
 refine ⟨h.small,h.plen,h.ord,h.plc,fun k hk=>?_,h.uq,fun c' a' b' r' hm=>?_⟩
 ·have g:=h.nodes k hk
  exact ⟨g.v,g.lo,g.hi,g.ne,g.llo,g.lhi⟩
 ·rw [lookO_mark] at hm
  split at hm
  ·rename_i e
   obtain rfl:=Option.some.inj hm
   injection e with e1 e2
   injection e2 with e2 e3
   subst e1 e2 e3
   exact g
  ·exact h.memo _ _ _ _ hm

structure ChP (T T' : Tb) (r L : Int) (f : (Int → Bool) → Bool) : Prop where
 good : GoodT T'
 ext : Xt T T'
 rf : T'.Rf r
 lvl : L ≤ T'.lvl r
 val : ∀ s,ev T'.nodes s r = f s

theorem c_chEarly (T : Tb) (hT : GoodT T) (c a b : Int) (hc : T.Rf c) (ha : T.Rf a) (hb : T.Rf b) (e : c = 1 ∨ a = b ∨ c = 0 ∨ (a = 1 ∧ b = 0)) :
  ∃ r,FnH Tryz.prog 133 [.ptr 0 [] 0,.int .i64 c,.int .i64 a,.int .i64 b] (hpT T) (.int .i64 r) (hpT T) ∧
    ChP T T r (min (min (T.lvl c) (T.lvl a)) (T.lvl b)) (fun s=>if ev T.nodes s c then ev T.nodes s a else ev T.nodes s b):=by
 by_cases e1 : c = 1
 ·subst e1
  refine ⟨a,?_,⟨hT,.refl _,ha,by omega,fun s=>rfl⟩⟩
  refine FnH.intro lay mixed Tryz.func133 (by kernel_rfl) rfl (by kernel_rfl) rfl fun hok=>?_
  (try dsimp only[argC,succC]);(try dsimp only[awp]);conv=>whnf
  refine And.intro (fun _=>?_) (fun h=>absurd rfl h)
  (try dsimp only[awp]);conv=>whnf
  refine ⟨⟨_,_,.refl _ _,?_⟩⟩
  conv=>whnf
  refine ⟨?_,rfl,by simp [nextId],.mk ?_ (by simp [idsOk])⟩
  ·repeat' first|exact rfl|exact trivial|exact wR|exact lR _|apply aI
   all_goals first | (rw [List.length_map]; done) | skip
  ·repeat' first|exact rfl|exact trivial|exact wR|exact lR _|apply aI
   all_goals first | exact leM_refl _ | exact encM_bnd _ _ | (show leRL _ (List.map _ (_ ++ [_])); rw [List.map_append]; exact leRL_refl _) | (simp; done) | skip
 by_cases e2 : a = b
 ·subst e2
  refine ⟨a,?_,⟨hT,.refl _,ha,by omega,fun s=>by simp⟩⟩
  refine FnH.intro lay mixed Tryz.func133 (by kernel_rfl) rfl (by kernel_rfl) rfl fun hok=>?_
  (try dsimp only[argC,succC]);(try dsimp only[awp]);conv=>whnf
  refine And.intro (fun h=>absurd h e1) (fun _=>?_)
  (try dsimp only[awp]);conv=>whnf
  refine And.intro (fun _=>?_) (fun h=>absurd rfl h)
  (try dsimp only[awp]);conv=>whnf
  refine ⟨⟨_,_,.refl _ _,?_⟩⟩
  conv=>whnf
  refine ⟨?_,rfl,by simp [nextId],.mk ?_ (by simp [idsOk])⟩
  ·repeat' first|exact rfl|exact trivial|exact wR|exact lR _|apply aI
   all_goals first | (rw [List.length_map]; done) | skip
  ·repeat' first|exact rfl|exact trivial|exact wR|exact lR _|apply aI
   all_goals first | exact leM_refl _ | exact encM_bnd _ _ | (show leRL _ (List.map _ (_ ++ [_])); rw [List.map_append]; exact leRL_refl _) | (simp; done) | skip
 by_cases e3 : c = 0
 ·subst e3
  refine ⟨b,?_,⟨hT,.refl _,hb,by omega,fun s=>rfl⟩⟩
  refine FnH.intro lay mixed Tryz.func133 (by kernel_rfl) rfl (by kernel_rfl) rfl fun hok=>?_
  (try dsimp only[argC,succC]);(try dsimp only[awp]);conv=>whnf
  refine And.intro (fun h=>absurd h e1) (fun _=>?_)
  (try dsimp only[awp]);conv=>whnf
  refine And.intro (fun h=>absurd h e2) (fun _=>?_)
  (try dsimp only[awp]);conv=>whnf
  refine And.intro (fun _=>?_) (fun h=>absurd rfl h)
  (try dsimp only[awp]);conv=>whnf
  refine ⟨⟨_,_,.refl _ _,?_⟩⟩
  conv=>whnf
  refine ⟨?_,rfl,by simp [nextId],.mk ?_ (by simp [idsOk])⟩
  ·repeat' first|exact rfl|exact trivial|exact wR|exact lR _|apply aI
   all_goals first | (rw [List.length_map]; done) | skip
  ·repeat' first|exact rfl|exact trivial|exact wR|exact lR _|apply aI
   all_goals first | exact leM_refl _ | exact encM_bnd _ _ | (show leRL _ (List.map _ (_ ++ [_])); rw [List.map_append]; exact leRL_refl _) | (simp; done) | skip
 have e4 : a = 1 ∧ b = 0:=by
  rcases e with h | h | h | h
  ·exact absurd h e1
  ·exact absurd h e2
  ·exact absurd h e3
  ·exact h
 obtain ⟨rfl,rfl⟩:=e4
 refine ⟨c,?_,⟨hT,.refl _,hc,by omega,fun s=>by rw [ev_one,ev_zero]; cases ev T.nodes s c <;> rfl⟩⟩
 refine FnH.intro lay mixed Tryz.func133 (by kernel_rfl) rfl (by kernel_rfl) rfl fun hok=>?_
 (try dsimp only[argC,succC]);(try dsimp only[awp]);conv=>whnf
 refine And.intro (fun h=>absurd h e1) (fun _=>?_)
 (try dsimp only[awp]);conv=>whnf
 refine And.intro (fun h=>absurd h e2) (fun _=>?_)
 (try dsimp only[awp]);conv=>whnf
 refine And.intro (fun h=>absurd h e3) (fun _=>?_)
 (try dsimp only[awp]);conv=>whnf
 refine And.intro (fun _=>?_) (fun h=>absurd rfl h)
 (try dsimp only[awp]);conv=>whnf
 refine And.intro (fun _=>?_) (fun h=>absurd rfl h)
 (try dsimp only[awp]);conv=>whnf
 refine ⟨⟨_,_,.refl _ _,?_⟩⟩
 conv=>whnf
 refine ⟨?_,rfl,by simp [nextId],.mk ?_ (by simp [idsOk])⟩
 ·repeat' first|exact rfl|exact trivial|exact wR|exact lR _|apply aI
  all_goals first | (rw [List.length_map]; done) | skip
 ·repeat' first|exact rfl|exact trivial|exact wR|exact lR _|apply aI
  all_goals first | exact leM_refl _ | exact encM_bnd _ _ | (show leRL _ (List.map _ (_ ++ [_])); rw [List.map_append]; exact leRL_refl _) | (simp; done) | skip

theorem c_tChoose (d : Nat) : ∀ (T : Tb),GoodT T → ∀ (c a b : Int),T.Rf c → T.Rf a → T.Rf b → T.n - min (min (T.lvl c) (T.lvl a)) (T.lvl b) ≤ d → T.nodes.length + 2 ^ d ≤ 1000000000 →
  ∃ T' r,FnH Tryz.prog 133 [.ptr 0 [] 0,.int .i64 c,.int .i64 a,.int .i64 b] (hpT T) (.int .i64 r) (hpT T') ∧
    ChP T T' r (min (min (T.lvl c) (T.lvl a)) (T.lvl b)) (fun s=>if ev T.nodes s c then ev T.nodes s a else ev T.nodes s b) ∧ T'.nodes.length + 1 ≤ T.nodes.length + 2 ^ d:=by
 induction d with
 | zero =>
   intro T hT c a b hc ha hb hd hN
   have hc2 : c < 2:=by
    have:=hT.kid hc
    omega
   have:=hc.1
   obtain ⟨r,h1,h2⟩:=c_chEarly T hT c a b hc ha hb (by omega)
   exact ⟨T,r,h1,h2,by simp⟩
 | succ d ih =>
   intro T hT c a b hc ha hb hd hN
   have h2d : 0 < 2 ^ d:=Nat.pow_pos (by decide)
   have h2e : 2 ^ (d + 1) = 2 ^ d + 2 ^ d:=by rw [Nat.pow_succ]; omega
   by_cases he : c = 1 ∨ a = b ∨ c = 0 ∨ (a = 1 ∧ b = 0)
   ·obtain ⟨r,h1,h2⟩:=c_chEarly T hT c a b hc ha hb he
    exact ⟨T,r,h1,h2,by omega⟩
   have e1 : ¬ c = 1:=fun h=>he (.inl h)
   have e2 : ¬ a = b:=fun h=>he (.inr (.inl h))
   have e3 : ¬ c = 0:=fun h=>he (.inr (.inr (.inl h)))
   have e4 : ¬ (a = 1 ∧ b = 0):=fun h=>he (.inr (.inr (.inr h)))
   cases hl : lookO T.memo (c,a,b) with
   | some r =>
     obtain ⟨_,_,_,g4,g5,g6⟩:=hT.memo _ _ _ _ hl
     refine ⟨T,r,?_,⟨hT,.refl _,g4,g5,g6⟩,by omega⟩
     refine FnH.intro lay mixed Tryz.func133 (by kernel_rfl) rfl (by kernel_rfl) rfl fun hok=>?_
     (try dsimp only[argC,succC]);(try dsimp only[awp]);conv=>whnf
     refine And.intro (fun h=>absurd h e1) (fun _=>?_)
     (try dsimp only[awp]);conv=>whnf
     refine And.intro (fun h=>absurd h e2) (fun _=>?_)
     (try dsimp only[awp]);conv=>whnf
     refine And.intro (fun h=>absurd h e3) (fun _=>?_)
     (try dsimp only[awp]);conv=>whnf
     refine And.intro (fun h=>?_) (fun h=>?_)
     ·(try dsimp only[awp]);conv=>whnf
      refine And.intro (fun h'=>absurd ⟨h,h'⟩ e4) (fun _=>?_)
      (try dsimp only[awp]);conv=>whnf
      refine ADraw.auto (by kernel_rfl) ?_;conv=>whnf
      refine alook_some (x:=(c,a,b)) hl ?_
      (try dsimp only[awp]);conv=>whnf
      refine ⟨⟨_,_,.refl _ _,?_⟩⟩
      conv=>whnf
      refine ⟨?_,rfl,by simp [nextId],.mk ?_ (by simp [idsOk])⟩
      ·repeat' first|exact rfl|exact trivial|exact wR|exact lR _|apply aI
       all_goals first | (rw [List.length_map]; done) | skip
      ·repeat' first|exact rfl|exact trivial|exact wR|exact lR _|apply aI
       all_goals first | exact leM_refl _ | exact encM_bnd _ _ | (show leRL _ (List.map _ (_ ++ [_])); rw [List.map_append]; exact leRL_refl _) | (simp; done) | skip
     ·(try dsimp only[awp]);conv=>whnf
      refine ADraw.auto (by kernel_rfl) ?_;conv=>whnf
      refine alook_some (x:=(c,a,b)) hl ?_
      (try dsimp only[awp]);conv=>whnf
      refine ⟨⟨_,_,.refl _ _,?_⟩⟩
      conv=>whnf
      refine ⟨?_,rfl,by simp [nextId],.mk ?_ (by simp [idsOk])⟩
      ·repeat' first|exact rfl|exact trivial|exact wR|exact lR _|apply aI
       all_goals first | (rw [List.length_map]; done) | skip
      ·repeat' first|exact rfl|exact trivial|exact wR|exact lR _|apply aI
       all_goals first | exact leM_refl _ | exact encM_bnd _ _ | (show leRL _ (List.map _ (_ ++ [_])); rw [List.map_append]; exact leRL_refl _) | (simp; done) | skip
   | none =>
     generalize hL : min (min (T.lvl c) (T.lvl a)) (T.lvl b) = L at *
     have hc2 : 2 ≤ c:=by have:=hc.1; omega
     have hcn:=hT.kid hc hc2
     have hLc : L ≤ T.lvl c:=by omega
     have hLa : L ≤ T.lvl a:=by omega
     have hLb : L ≤ T.lvl b:=by omega
     have hLn : L < T.n:=by omega
     have hL0 : 0 ≤ L:=by have:=hT.lvl_pos ha; have:=hT.lvl_pos hb; omega
     obtain ⟨c1,c2,c3,c4,c5⟩:=kids_good hT hc hL0 hLc hLn
     obtain ⟨a1,a2,a3,a4,a5⟩:=kids_good hT ha hL0 hLa hLn
     obtain ⟨b1,b2,b3,b4,b5⟩:=kids_good hT hb hL0 hLb hLn
     have qc:=c_tKids T hT (by omega) c L hc hLn
     have qa:=c_tKids T hT (by omega) a L ha hLn
     have qb:=c_tKids T hT (by omega) b L hb hLn
     generalize T.kids c L = kc at *
     generalize T.kids a L = ka at *
     generalize T.kids b L = kb at *
     obtain ⟨T1,lo,f1,p1,n1⟩:=ih T hT kc.1 ka.1 kb.1 c1 a1 b1 (by omega) (by omega)
     have x1:=p1.ext
     obtain ⟨T2,hi,f2,p2,n2⟩:=ih T1 p1.good kc.2 ka.2 kb.2 (x1.rf c2) (x1.rf a2) (x1.rf b2) (by rw [x1.n,x1.lvl c2,x1.lvl a2,x1.lvl b2]; omega) (by omega)
     rw [x1.lvl c2,x1.lvl a2,x1.lvl b2] at p2
     have x2:=p2.ext
     have x12:=x1.trans x2
     obtain ⟨o1,o2,o3⟩:=hT.ord L hL0 hLn
     have hlo : T2.Rf lo:=x2.rf p1.rf
     have hllo : T2.lvl lo = T1.lvl lo:=x2.lvl p1.rf
     have hord2 : T2.order = T.order:=x12.order
     have m:=make_good p2.good (v:=T2.order.getD L.toNat 0) (lo:=lo) (hi:=hi) (by rw [x12.n,hord2]; exact ⟨o1,o2⟩) hlo p2.rf
      (by rw [x12.pl,hord2,o3,hllo]; have:=p1.lvl; omega) (by rw [x12.pl,hord2,o3]; have:=p2.lvl; omega)
     have qm:=c_tMake T2 (T2.order.getD L.toNat 0) lo hi (by omega)
     have hL2 : 0 ≤ L ∧ L < (T2.order.length : Int):=by rw [hord2]; exact ⟨hL0,hLn⟩
     generalize T2.make (T2.order.getD L.toNat 0) lo hi = q at *
     obtain ⟨T3,r⟩:=q
     obtain ⟨m1,m2,m3,m4,m5,m6,m7⟩:=m
     dsimp only at m1 m2 m3 m4 m5 m6 m7 qm
     rw [hord2] at m4
     simp only [hord2] at m7
     have x3:=x12.trans m2
     have hval : ∀ s,ev T3.nodes s r = if ev T.nodes s c then ev T.nodes s a else ev T.nodes s b:=by
      intro s
      rw [m7 s,p2.val s,x2.ev p1.rf,p1.val s,x1.ev c2,x1.ev a2,x1.ev b2,c5 s,a5 s,b5 s]
      by_cases hs : s (T.order.getD L.toNat 0) = true
      ·simp only [if_pos hs]
      ·simp only [if_neg hs]
     have hLr : L ≤ T3.lvl r:=by rw [x12.pl,o3] at m4; exact m4
     have g4:=memo_good m1 (c:=c) (a:=a) (b:=b) (r:=r) ⟨x3.rf hc,x3.rf ha,x3.rf hb,m3,by rw [x3.lvl hc,x3.lvl ha,x3.lvl hb,hL]; exact hLr,fun s=>by rw [hval s,x3.ev hc,x3.ev ha,x3.ev hb]⟩
     have x4 : Xt T { T3 with memo:=mark T3.memo (c,a,b) r }:=x3.trans ⟨rfl,rfl,[],by simp⟩
     refine ⟨{ T3 with memo:=mark T3.memo (c,a,b) r },r,?_,⟨g4,x4,m3,hLr,hval⟩,by show T3.nodes.length + 1 ≤ _; omega⟩
     have hord : T3.order = T.order:=x3.order
     have ql:=c_tLevel T hT (by omega) c hc
     have ql2:=c_tLevel T hT (by omega) a ha
     have ql3:=c_tLevel T hT (by omega) b hb
     clear ih
     refine FnH.intro lay mixed Tryz.func133 (by kernel_rfl) rfl (by kernel_rfl) rfl fun hok=>?_
     (try dsimp only[argC,succC]);(try dsimp only[awp]);conv=>whnf
     refine And.intro (fun h=>absurd h e1) (fun _=>?_)
     (try dsimp only[awp]);conv=>whnf
     refine And.intro (fun h=>absurd h e2) (fun _=>?_)
     (try dsimp only[awp]);conv=>whnf
     refine And.intro (fun h=>absurd h e3) (fun _=>?_)
     (try dsimp only[awp]);conv=>whnf
     refine And.intro (fun h=>?_) (fun h=>?_)
     ·(try dsimp only[awp]);conv=>whnf
      refine And.intro (fun h'=>absurd ⟨h,h'⟩ e4) (fun _=>?_)
      (try dsimp only[awp]);conv=>whnf
      refine ADraw.auto (by kernel_rfl) ?_;conv=>whnf
      refine alook_none (x:=(c,a,b)) hl ?_
      (try dsimp only[awp]);conv=>whnf
      refine .gen _ _ (frT [(5,_)] (by simp) ql (fun _=>rfl) (fun _=>rfl) rfl) fun _=>?_
      (try dsimp only[awp]);conv=>whnf
      refine .gen _ _ (frT [(5,_)] (by simp) ql2 (fun _=>rfl) (fun _=>rfl) rfl) fun _=>?_
      (try dsimp only[awp]);conv=>whnf
      refine .gen _ _ (frT [(5,_)] (by simp) ql3 (fun _=>rfl) (fun _=>rfl) rfl) fun _=>?_
      (try dsimp only[awp]);conv=>whnf
      rw [hL]
      refine .gen _ _ (frT [(5,_)] (by simp) qc (fun _=>rfl) (fun _=>rfl) rfl) fun _=>?_
      (try dsimp only[awp]);conv=>whnf
      refine .gen _ _ (frT [(5,_)] (by simp) qa (fun _=>rfl) (fun _=>rfl) rfl) fun _=>?_
      (try dsimp only[awp]);conv=>whnf
      refine .gen _ _ (frT [(5,_)] (by simp) qb (fun _=>rfl) (fun _=>rfl) rfl) fun _=>?_
      (try dsimp only[awp]);conv=>whnf
      refine .gen _ _ (frT [(5,_)] (by simp) f1 (fun _=>rfl) (fun _=>rfl) rfl) fun _=>?_
      (try dsimp only[awp]);conv=>whnf
      refine .gen _ _ (frT [(5,_)] (by simp) f2 (fun _=>rfl) (fun _=>rfl) rfl) fun _=>?_
      (try dsimp only[awp]);conv=>whnf
      refine aidxD 0 hL2 ?_
      (try dsimp only[awp]);conv=>whnf
      refine .gen _ _ (frT [(5,_)] (by simp) qm (fun _=>rfl) (fun _=>rfl) rfl) fun _=>?_
      (try dsimp only[awp]);conv=>whnf
      refine ADraw.auto (by kernel_rfl) ?_;conv=>whnf
      refine aupd_es (x:=(c,a,b)) ?_
      (try dsimp only[awp]);conv=>whnf
      refine ⟨⟨_,_,.refl _ _,?_⟩⟩
      conv=>whnf
      refine ⟨?_,rfl,by simp [nextId],.mk ?_ (by simp [idsOk])⟩
      ·repeat' first|exact rfl|exact trivial|exact wR|exact lR _|apply aI
       all_goals first | (rw [List.length_map]; done) | skip
      ·repeat' first|exact rfl|exact trivial|exact wR|exact lR _|apply aI
       all_goals first | exact leM_refl _ | exact encM_bnd _ _ | (show leRL _ (List.map _ (_ ++ [_])); rw [List.map_append]; exact leRL_refl _) | (simp; done) | skip
     ·(try dsimp only[awp]);conv=>whnf
      refine ADraw.auto (by kernel_rfl) ?_;conv=>whnf
      refine alook_none (x:=(c,a,b)) hl ?_
      (try dsimp only[awp]);conv=>whnf
      refine .gen _ _ (frT [(5,_)] (by simp) ql (fun _=>rfl) (fun _=>rfl) rfl) fun _=>?_
      (try dsimp only[awp]);conv=>whnf
      refine .gen _ _ (frT [(5,_)] (by simp) ql2 (fun _=>rfl) (fun _=>rfl) rfl) fun _=>?_
      (try dsimp only[awp]);conv=>whnf
      refine .gen _ _ (frT [(5,_)] (by simp) ql3 (fun _=>rfl) (fun _=>rfl) rfl) fun _=>?_
      (try dsimp only[awp]);conv=>whnf
      rw [hL]
      refine .gen _ _ (frT [(5,_)] (by simp) qc (fun _=>rfl) (fun _=>rfl) rfl) fun _=>?_
      (try dsimp only[awp]);conv=>whnf
      refine .gen _ _ (frT [(5,_)] (by simp) qa (fun _=>rfl) (fun _=>rfl) rfl) fun _=>?_
      (try dsimp only[awp]);conv=>whnf
      refine .gen _ _ (frT [(5,_)] (by simp) qb (fun _=>rfl) (fun _=>rfl) rfl) fun _=>?_
      (try dsimp only[awp]);conv=>whnf
      refine .gen _ _ (frT [(5,_)] (by simp) f1 (fun _=>rfl) (fun _=>rfl) rfl) fun _=>?_
      (try dsimp only[awp]);conv=>whnf
      refine .gen _ _ (frT [(5,_)] (by simp) f2 (fun _=>rfl) (fun _=>rfl) rfl) fun _=>?_
      (try dsimp only[awp]);conv=>whnf
      refine aidxD 0 hL2 ?_
      (try dsimp only[awp]);conv=>whnf
      refine .gen _ _ (frT [(5,_)] (by simp) qm (fun _=>rfl) (fun _=>rfl) rfl) fun _=>?_
      (try dsimp only[awp]);conv=>whnf
      refine ADraw.auto (by kernel_rfl) ?_;conv=>whnf
      refine aupd_es (x:=(c,a,b)) ?_
      (try dsimp only[awp]);conv=>whnf
      refine ⟨⟨_,_,.refl _ _,?_⟩⟩
      conv=>whnf
      refine ⟨?_,rfl,by simp [nextId],.mk ?_ (by simp [idsOk])⟩
      ·repeat' first|exact rfl|exact trivial|exact wR|exact lR _|apply aI
       all_goals first | (rw [List.length_map]; done) | skip
      ·repeat' first|exact rfl|exact trivial|exact wR|exact lR _|apply aI
       all_goals first | exact leM_refl _ | exact encM_bnd _ _ | (show leRL _ (List.map _ (_ ++ [_])); rw [List.map_append]; exact leRL_refl _) | (simp; done) | skip

mutual
theorem rnV_id {σ : Nat → Nat} {m : Nat} (hσ : ∀ k,k < m → σ k = k) : ∀ (A : AV),bndB m A = true → rnV σ A = A
 | .bool _,_ | .tt,_ | .ff,_ | .dec _,_ | .int _ _,_ | .str _,_ | .nilI,_ | .nils,_ | .cp _,_ | .nilp,_ | .nilf,_ | .nilm,_ | .und,_ | .sl _ _ .no,_ | .sl _ _ .full,_=>rfl
 | .ifc t x,h=>by simp only [rnV]; rw [rnV_id hσ x (by simpa only [bndB] using h)]
 | .sl _ _ (.own k),h=>by simp only [bndB] at h; simp only [rnV]; rw [hσ k (Nat.le_of_ble_eq_true h)]
 | .ms k _ _ _ _,h=>by simp only [bndB] at h; simp only [rnV]; rw [hσ k (Nat.le_of_ble_eq_true h)]
 | .ptr k _ _,h=>by simp only [bndB] at h; simp only [rnV]; rw [hσ k (Nat.le_of_ble_eq_true h)]
 | .mp k,h=>by simp only [bndB] at h; simp only [rnV]; rw [hσ k (Nat.le_of_ble_eq_true h)]
 | .gs k _,h=>by simp only [bndB] at h; simp only [rnV]; rw [hσ k (Nat.le_of_ble_eq_true h)]
 | .bm _ k,h=>by simp only [bndB] at h; simp only [rnV]; rw [hσ k (Nat.le_of_ble_eq_true h)]
 | .ag l,h=>by simp only [rnV]; rw [rnL_id hσ l (by simpa only [bndB] using h)]
 | .tup l,h=>by simp only [rnV]; rw [rnL_id hσ l (by simpa only [bndB] using h)]
 | .fn _ cap,h=>by simp only [rnV]; rw [rnL_id hσ cap (by simpa only [bndB] using h)]
theorem rnL_id {σ : Nat → Nat} {m : Nat} (hσ : ∀ k,k < m → σ k = k) : ∀ (l : List AV),bndBL m l = true → rnL σ l = l
 | [],_=>rfl
 | x :: l,h=>by
   simp only [bndBL] at h
   cases hx : bndB m x with
   | false=>rw [hx] at h; cases h
   | true=>rw [hx] at h; simp only [rnL]; rw [rnV_id hσ x hx,rnL_id hσ l h]
end

theorem rnM_id {σ : Nat → Nat} {m : Nat} (hσ : ∀ k,k < m → σ k = k) : ∀ (l : List (AV × AV)),bndM m l = true → rnM σ l = l
 | [],_=>rfl
 | (x,y) :: l,h=>by
   simp only [bndM] at h
   cases hx : bndB m x with
   | false=>rw [hx] at h; cases h
   | true =>
     cases hy : bndB m y with
     | false=>rw [hx,hy] at h; cases h
     | true=>rw [hx,hy] at h; simp only [rnM]; rw [rnV_id hσ x hx,rnV_id hσ y hy,rnM_id hσ l h]

def BndH (m : Nat) : Heap → Prop
 | []=>True
 | (_,o) :: H=>(match o with | .amap _ es=>bndM m es = true | o=>bndO m o = true) ∧ BndH m H

theorem BndH.mem {m : Nat} : ∀ {H : Heap},BndH m H → ∀ k o,(k,o) ∈ H → (match o with | .amap _ es=>bndM m es = true | o=>bndO m o = true)
 | [],_,_,_,h=>by simp at h
 | (i,x) :: H,h,k,o,hm=>by
   rcases List.mem_cons.1 hm with e | e
   ·injection e with e1 e2; subst e2; exact h.1
   ·exact h.2.mem k o e

theorem rnO_id {σ : Nat → Nat} {m : Nat} (hσ : ∀ k,k < m → σ k = k) {o : HO} (h : match o with | .amap _ es=>bndM m es = true | o=>bndO m o = true) : rnO σ o = o:=by
 cases o with
 | box A=>simp only [rnO]; rw [rnV_id hσ A h]
 | amap sh es=>simp only [rnO]; rw [rnM_id hσ es h]
 | _=>rfl

theorem full_ids : ∀ {m : Nat} {H : Heap},fullB m H = true → ∀ k o,(k,o) ∈ H → k < m
 | 0,[],_,_,_,h=>by simp at h
 | 0,_ :: _,h,_,_,_=>by simp [fullB] at h
 | _ + 1,[],h,_,_,_=>by simp [fullB] at h
 | m + 1,(i,x) :: H,h,k,o,hm=>by
   simp only [fullB] at h
   cases hb : Nat.beq i m with
   | false=>rw [hb] at h; cases h
   | true =>
     rw [hb] at h
     have:=Nat.eq_of_beq_eq_true hb
     rcases List.mem_cons.1 hm with e | e
     ·injection e with e1 e2; omega
     ·have:=full_ids h k o e; omega

theorem full_get : ∀ {m : Nat} {H : Heap},fullB m H = true → ∀ k o,(k,o) ∈ H → hget H k = some o
 | 0,[],_,_,_,h=>by simp at h
 | 0,_ :: _,h,_,_,_=>by simp [fullB] at h
 | _ + 1,[],h,_,_,_=>by simp [fullB] at h
 | m + 1,(i,x) :: H,h,k,o,hm=>by
   simp only [fullB] at h
   cases hb : Nat.beq i m with
   | false=>rw [hb] at h; cases h
   | true =>
     rw [hb] at h
     have hi:=Nat.eq_of_beq_eq_true hb
     simp only [hget]
     rcases List.mem_cons.1 hm with e | e
     ·injection e with e1 e2; subst e1 e2; simp
     ·have:=full_ids h k o e
      have hbk : Nat.beq i k = false:=by
       cases hb : Nat.beq i k with
       | false=>rfl
       | true=>have:=Nat.eq_of_beq_eq_true hb; omega
      rw [hbk]; exact full_get h k o e

theorem ix_range {m i : Nat} : ix (List.range m) i = if i < m then some i else none:=by
 cases h : ix (List.range m) i with
 | some k =>
   obtain ⟨hk,e⟩:=ix_some h
   have hk' : k < m:=by simpa using hk
   rw [List.getElem_range] at e
   rw [if_pos (by omega),e]
 | none =>
   have:=ix_none h
   rw [if_neg (by simpa using this)]

theorem sg_range {m n k : Nat} (h : k < m) : sg (List.range m) n k = k:=by
 rw [sg_lt (by simpa using h),List.getElem_range]

theorem updH_top {m n : Nat} {G Y : Heap} : ∀ {X : Heap},(∀ x ∈ X,m ≤ x.1) → updH (List.range m) n G (X ++ Y) = X ++ updH (List.range m) n G Y
 | [],_=>rfl
 | (i,o) :: X,h=>by
   have hi:=h (i,o) (by simp)
   simp only [List.cons_append,updH,ix_range]
   rw [if_neg (Nat.not_lt.2 hi),updH_top fun x hx=>h x (by simp [hx])]

theorem updH_full {m n : Nat} {G : Heap} : ∀ {j : Nat} {Hs Gs : Heap},j ≤ m → fullB j Hs = true → fullB j Gs = true → (∀ i o,(i,o) ∈ Gs → hget G i = some o ∧ rnO (sg (List.range m) n) o = o) → updH (List.range m) n G Hs = Gs
 | 0,[],[],_,_,_,_=>rfl
 | 0,_ :: _,_,_,h,_,_=>by simp [fullB] at h
 | 0,[],_ :: _,_,_,h,_=>by simp [fullB] at h
 | _ + 1,[],_,_,h,_,_=>by simp [fullB] at h
 | _ + 1,_ :: _,[],_,_,h,_=>by simp [fullB] at h
 | j + 1,(i,o) :: Hs,(i',o') :: Gs,hj,h,h',hg=>by
   simp only [fullB] at h h'
   cases hb : Nat.beq i j with
   | false=>rw [hb] at h; cases h
   | true =>
     cases hb' : Nat.beq i' j with
     | false=>rw [hb'] at h'; cases h'
     | true =>
       rw [hb] at h; rw [hb'] at h'
       obtain rfl:=Nat.eq_of_beq_eq_true hb
       obtain rfl:=Nat.eq_of_beq_eq_true hb'
       obtain ⟨g1,g2⟩:=hg i' o' (by simp)
       simp only [updH,ix_range]
       rw [if_pos (by omega),updH_full (by omega) h h' fun i o hm=>hg i o (by simp [hm])]
       simp only [g1,g2]

theorem hgetC_top {m n : Nat} {k : HO → Prop} {Y : Heap} (hn : n < m) : ∀ {X : Heap},(∀ x ∈ X,m ≤ x.1) → (hgetC (X ++ Y) n k ↔ hgetC Y n k)
 | [],_=>Iff.rfl
 | (i,o) :: X,h=>by
   have hi:=h (i,o) (by simp)
   have : Nat.beq i n = false:=by
    cases hb : Nat.beq i n with
    | false=>rfl
    | true=>have:=Nat.eq_of_beq_eq_true hb; simp at hi; omega
   simp only [List.cons_append,hgetC,this]
   exact hgetC_top hn fun x hx=>h x (by simp [hx])

theorem FnH.top {f : Nat} {args : List AV} {R : AV} {H G : Heap} (m : Nat) (X : Heap) (hX : ∀ x ∈ X,m ≤ x.1) (h : FnH Tryz.prog f args H R G) (hf : fullB m H = true ∧ fullB m G = true)
  (hH : BndH m H) (hG : BndH m G) (hb : bndBL m args = true ∧ bndB m R = true) (hl : allLt (nextId (X ++ H)) (List.range m) = true ∧ nodupB (List.range m) = true) : FnH Tryz.prog f args (X ++ H) R (X ++ G):=by
 have hσ : ∀ n k,k < m → sg (List.range m) n k = k:=fun n k hk=>sg_range hk
 have hlen : (List.range m).length = m:=List.length_range
 have sub : ∀ K : Heap,(∀ k o,(k,o) ∈ K → hget H k = some o ∧ k < m) → BndH m K → SubH (sg (List.range m) (nextId (X ++ H))) m (X ++ H) K:=by
  intro K
  induction K with
  | nil=>intros; trivial
  | cons y K ih =>
    obtain ⟨k,o⟩:=y
    intro hk hB
    obtain ⟨g1,g2⟩:=hk k o (by simp)
    refine ⟨?_,ih (fun k o hm=>hk k o (by simp [hm])) hB.2⟩
    rw [hσ _ k g2]
    refine (hgetC_top g2 hX).2 (hgetC_iff.2 ⟨o,g1,?_,hB.1⟩)
    rw [rnO_id (hσ _) hB.1]
    exact leO_refl o
 have:=FnH.frame (H:=X ++ H) (args:=args) (List.range m) h ⟨hl.1,hl.2,by rw [hlen]; exact hf.1,by rw [hlen]; exact hb.1⟩
  (by rw [hlen]; exact sub H (fun k o hm=>⟨full_get hf.1 k o hm,full_ids hf.1 k o hm⟩) hH) (by rw [rnL_id (hσ _) args hb.1]; exact leL_refl _)
 rw [rnV_id (hσ _) R hb.2] at this
 have e : frH (List.range m) G (X ++ H) = X ++ G:=by
  unfold frH
  rw [updH_top hX,updH_full (Nat.le_refl m) hf.1 hf.2 fun i o hm=>⟨full_get hf.2 i o hm,rnO_id (hσ _) (hG.mem i o hm)⟩]
  cases G with
  | nil=>rfl
  | cons y G =>
    obtain ⟨k,o⟩:=y
    have hk:=full_ids hf.2 k o (by simp)
    simp only [newH,hlen]
    have : Nat.ble m k = false:=by
     cases hb : Nat.ble m k with
     | false=>rfl
     | true=>have:=Nat.le_of_ble_eq_true hb; omega
    rw [this]
 rwa [e] at this

abbrev MI:=List (Int × Int)

def lookI : MI → Int → Option Int
 | [],_=>none
 | (y,v) :: es,x=>if y = x then some v else lookI es x

def markI : MI → Int → Int → MI
 | [],x,v=>[(x,v)]
 | (y,u) :: es,x,v=>if y = x then (x,v) :: es else (y,u) :: markI es x v

abbrev encI (es : MI) : List (AV × AV):=es.map fun e=>(.int .i64 e.1,.int .i64 e.2)

theorem kvI_inj {x y : Int} : kvC (.int .i64 x) = kvC (.int .i64 y) ↔ x = y:=by simp [kvC]

theorem alookI_some {es : MI} {x r : Int} {k : AV → Prop} (hl : lookI es x = some r) (h : k (.tup [.int .i64 r,.tt])) : ALook (encI es) (.int .i64 x) fun r=>lookK true (.int .i64 0) r k:=by
 refine ⟨some (.int .i64 r),?_,h⟩
 induction es with
 | nil=>simp [lookI] at hl
 | cons e es ih =>
   obtain ⟨y,v⟩:=e
   simp only [lookI] at hl
   by_cases hy : y = x
   ·subst hy
    rw [if_pos rfl] at hl
    obtain rfl:=Option.some.inj hl
    exact ⟨_,List.mem_cons_self,rfl,rfl⟩
   ·rw [if_neg hy] at hl
    obtain ⟨z,hz,h3,h4⟩:=ih hl
    exact ⟨z,by simp only [encI,List.map_cons,List.mem_cons]; exact .inr hz,h3,h4⟩

theorem alookI_none {es : MI} {x : Int} {k : AV → Prop} (hl : lookI es x = none) (h : k (.tup [.int .i64 0,.ff])) : ALook (encI es) (.int .i64 x) fun r=>lookK true (.int .i64 0) r k:=by
 refine ⟨none,?_,h⟩
 induction es with
 | nil=>intro z hz; simp [encI] at hz
 | cons e es ih =>
   obtain ⟨y,v⟩:=e
   simp only [lookI] at hl
   by_cases hy : y = x
   ·subst hy; rw [if_pos rfl] at hl; cases hl
   ·rw [if_neg hy] at hl
    intro z hz
    simp only [encI,List.map_cons,List.mem_cons] at hz
    rcases hz with rfl | hz
    ·exact fun e=>hy (kvI_inj.1 e)
    ·exact ih hl z hz

theorem aupdI {es : MI} {x v : Int} {k : List (AV × AV) → Prop} (h : k (encI (markI es x v))) : AUpd (encI es) (.int .i64 x) (.int .i64 v) k:=by
 refine ⟨_,?_,h⟩
 clear h
 induction es with
 | nil=>exact .inl ⟨by simp [encI],rfl⟩
 | cons e es ih =>
   obtain ⟨y,u⟩:=e
   by_cases hy : y = x
   ·subst hy
    exact .inr ⟨0,(.int .i64 y,.int .i64 u),rfl,rfl,by simp [markI,encI]⟩
   ·simp only [markI,if_neg hy]
    rcases ih with ⟨h1,h2⟩ | ⟨j,z,h1,h2,h3⟩
    ·refine .inl ⟨?_,?_⟩
     ·intro z hz
      simp only [encI,List.map_cons,List.mem_cons] at hz
      rcases hz with rfl | hz
      ·exact fun e=>hy (kvI_inj.1 e)
      ·exact h1 z hz
     ·simp only [encI,List.map_cons,List.cons_append] at h2 ⊢
      rw [h2]
    ·refine .inr ⟨j + 1,z,by simpa [encI] using h1,h2,?_⟩
     simp only [encI,List.map_cons,List.set_cons_succ] at h3 ⊢
     rw [h3]

theorem lookI_mark {es : MI} {x y v : Int} : lookI (markI es x v) y = if x = y then some v else lookI es y:=by
 induction es with
 | nil=>simp [markI,lookI]
 | cons e es ih =>
   obtain ⟨z,u⟩:=e
   simp only [markI]
   by_cases hz : z = x
   ·subst hz
    rw [if_pos rfl]
    simp only [lookI]
    split <;> rfl
   ·rw [if_neg hz]
    simp only [lookI,ih]
    by_cases h1 : z = y
    ·subst h1
     rw [if_pos rfl,if_pos rfl,if_neg (fun e=>hz e.symm)]
    ·rw [if_neg h1,if_neg h1]

theorem encI_bnd (n : Nat) : ∀ es : MI,bndM n (encI es) = true
 | []=>rfl
 | _ :: es=>by
   show (match true,true with | true,true=>bndM n (encI es) | _,_=>false) = true
   exact encI_bnd n es

def setE (s : Int → Bool) (i : Int) (b : Bool) : Int → Bool:=fun j=>if j = i then b else s j

theorem ev_indep {T : Tb} (h : GoodT T) (d : Nat) : ∀ (r : Int),T.Rf r → r ≤ d → ∀ (s s' : Int → Bool),(∀ j,0 ≤ j → j < T.n → T.lvl r ≤ T.pl j → s j = s' j) → ev T.nodes s r = ev T.nodes s' r:=by
 induction d with
 | zero =>
   intro r hr hd s s' _
   have:=hr.1
   obtain rfl : r = 0:=by omega
   rfl
 | succ d ih =>
   intro r hr hd s s' hs
   by_cases h2 : r < 2
   ·have:=hr.1
    rcases (by omega : r = 0 ∨ r = 1) with rfl | rfl <;> rfl
   ·obtain ⟨g,e⟩:=h.at hr (by omega)
    obtain ⟨k1,k2,k3,k4,k5,k6⟩:=h.kid hr (by omega)
    have hv : s (T.node r).1 = s' (T.node r).1:=hs _ g.v.1 g.v.2 (by rw [show T.lvl r = T.pl (T.node r).1 from if_neg h2]; exact Int.le_refl _)
    have hlo:=g.lo.2
    have hhi:=g.hi.2
    have:=hr.2
    rw [e s,e s',hv,ih _ k2 (by omega) s s' fun j a b c=>hs j a b (by omega),ih _ k1 (by omega) s s' fun j a b c=>hs j a b (by omega)]

theorem ev_set {T : Tb} (h : GoodT T) {r i : Int} (hr : T.Rf r) (hi : 0 ≤ i ∧ i < T.n) (hl : T.pl i < T.lvl r) (s : Int → Bool) (b : Bool) : ev T.nodes (setE s i b) r = ev T.nodes s r:=by
 refine ev_indep h r.toNat r hr (by have:=hr.1; omega) _ _ fun j h0 h1 h2=>?_
 unfold setE
 rw [if_neg]
 rintro rfl
 omega

def DoneC (T : Tb) (i : Int) (b : Bool) (D : MI) : Prop :=
 ∀ r x,lookI D r = some x → T.Rf r ∧ T.Rf x ∧ T.lvl r ≤ T.lvl x ∧ ∀ s,ev T.nodes s x = ev T.nodes (setE s i b) r

theorem DoneC.ext {T T' : Tb} {i : Int} {b : Bool} {D : MI} (h : DoneC T i b D) (x : Xt T T') : DoneC T' i b D:=by
 intro r y hl
 obtain ⟨h1,h2,h3,h4⟩:=h r y hl
 exact ⟨x.rf h1,x.rf h2,by rw [x.lvl h1,x.lvl h2]; exact h3,fun s=>by rw [x.ev h2,x.ev h1]; exact h4 s⟩

theorem DoneC.mark {T : Tb} {i : Int} {b : Bool} {D : MI} (h : DoneC T i b D) {r x : Int} (g : T.Rf r ∧ T.Rf x ∧ T.lvl r ≤ T.lvl x ∧ ∀ s,ev T.nodes s x = ev T.nodes (setE s i b) r) : DoneC T i b (markI D r x):=by
 intro r' x' hl
 rw [lookI_mark] at hl
 split at hl
 ·rename_i e
  subst e
  obtain rfl:=Option.some.inj hl
  exact g
 ·exact h r' x' hl

abbrev byI (b : Bool) : Int:=if b = true then 1 else 0
abbrev hpW (T : Tb) (i : Int) (b : Bool) (D : MI) : Heap :=
 [(10,.box (.fn 270 [.ptr 5 [] 0,.ptr 6 [] 0,.ptr 9 [] 0,.ptr 7 [] 0,.ptr 10 [] 0])),(9,.box (.mp 8)),(8,.amap (.int .i64 0) (encI D)),(7,.box (.int .i64 (byI b))),(6,.box (.int .i64 i)),(5,.box (.ptr 0 [] 0))] ++ hpT T

theorem bndT (T : Tb) (m : Nat) (h : 5 ≤ m) : BndH m (hpT T):=by
 have h1 : Nat.blt 1 m = true:=Nat.ble_eq_true_of_le (by omega)
 have h2 : Nat.blt 2 m = true:=Nat.ble_eq_true_of_le (by omega)
 have h3 : Nat.blt 3 m = true:=Nat.ble_eq_true_of_le (by omega)
 have h4 : Nat.blt 4 m = true:=Nat.ble_eq_true_of_le (by omega)
 refine ⟨encM_bnd _ _,encM_bnd _ _,rfl,rfl,?_,trivial⟩
 simp only [bndO,bndB,bndBL,h1,h2,h3,h4]

theorem bndW (T : Tb) (i : Int) (b : Bool) (D : MI) : BndH 11 (hpW T i b D) :=
 ⟨rfl,rfl,encI_bnd _ _,rfl,rfl,rfl,bndT T 11 (by decide)⟩

abbrev argW (r : Int) : List AV:=[.int .i64 r,.ptr 5 [] 0,.ptr 6 [] 0,.ptr 9 [] 0,.ptr 7 [] 0,.ptr 10 [] 0]

structure CmP (N : Nat) (i : Int) (b : Bool) (T T' : Tb) (D' : MI) (r x : Int) : Prop where
 good : GoodT T'
 ext : Xt T T'
 rf : T'.Rf x
 lvl : T.lvl r ≤ T'.lvl x
 val : ∀ s,ev T'.nodes s x = ev T.nodes (setE s i b) r
 done : DoneC T' i b D'

theorem c_cmpKnown (T : Tb) (i : Int) (b : Bool) (D : MI) (hT : GoodT T) (hn : T.nodes.length ≤ 1000000000) (hi0 : 0 ≤ i) (hi : i < T.n) (r x : Int) (hr : T.Rf r) (hlv : ¬ T.pl i < T.lvl r) (hl : lookI D r = some x) :
  FnH Tryz.prog 270 (argW r) (hpW T i b D) (.int .i64 x) (hpW T i b D):=by
 have hpi : T.place.getD ((i.toNat : Nat) : Int).toNat 0 = T.pl i:=by unfold Tb.pl; rw [Int.toNat_natCast]
 have ql:=c_tLevel T hT hn r hr
 refine FnH.intro lay mixed Tryz.func270 (by kernel_rfl) rfl (by kernel_rfl) rfl fun hok=>?_
 (try dsimp only[argC,succC]);(try dsimp only[awp]);conv=>whnf
 refine ADraw.both [] [3,6,7,9] ⟨[false,true,false,false,true,true,false,false,true,false,true],by kernel_rfl,?_⟩
 conv=>whnf
 refine .gen _ _ (frT [(10,_),(9,_),(8,_),(7,_),(6,_),(5,_)] (by simp) ql (fun _=>rfl) (fun _=>rfl) rfl) fun _=>?_
 conv=>whnf
 (refine aI (by (conv=>whnf)<;>exact rfl) ?_;(conv=>whnf))
 (refine aI (by (conv=>whnf)<;>exact rfl) ?_;(conv=>whnf))
 (refine aI (by (conv=>whnf)<;>exact rfl) ?_;(conv=>whnf))
 refine ⟨⟨hi0,by rw [hT.plen]; exact hi⟩,?_⟩
 conv=>whnf
 rw [Nat.zero_add]
 refine aidxD 0 ⟨by omega,by rw [Int.toNat_of_nonneg hi0,hT.plen]; exact hi⟩ ?_
 conv=>whnf
 rw [hpi]
 refine ⟨rfl,?_⟩
 conv=>whnf
 refine aI ?_ ?_
 ·conv=>whnf
  refine aidxD 0 ⟨by omega,by rw [Int.toNat_of_nonneg hi0,hT.plen]; exact hi⟩ ?_
  conv=>whnf
  rw [hpi]
  exact ⟨rfl,rfl⟩
 (try dsimp only[awp]);conv=>whnf
 refine And.intro (fun h=>absurd h hlv) (fun _=>?_)
 (try dsimp only[awp]);conv=>whnf
 refine alookI_some hl ?_
 (try dsimp only[awp]);conv=>whnf
 refine ⟨⟨_,_,.refl _ _,?_⟩⟩
 conv=>whnf
 refine ⟨?_,rfl,by simp [nextId],.mk ?_ (by simp [idsOk])⟩
 ·all_goals exact wk
 ·repeat' first|exact rfl|exact trivial|exact wR|exact lR _|apply aI
  all_goals first | exact leM_refl _ | exact encM_bnd _ _ | exact encI_bnd _ _ | (simp; done) | skip

theorem c_cmpOver (T : Tb) (i : Int) (b : Bool) (D : MI) (hT : GoodT T) (hn : T.nodes.length ≤ 1000000000) (hi0 : 0 ≤ i) (hi : i < T.n) (r : Int) (hr : T.Rf r) (hlv : T.pl i < T.lvl r) :
  FnH Tryz.prog 270 (argW r) (hpW T i b D) (.int .i64 r) (hpW T i b D):=by
 have hpi : T.place.getD ((i.toNat : Nat) : Int).toNat 0 = T.pl i:=by unfold Tb.pl; rw [Int.toNat_natCast]
 have ql:=c_tLevel T hT hn r hr
 refine FnH.intro lay mixed Tryz.func270 (by kernel_rfl) rfl (by kernel_rfl) rfl fun hok=>?_
 (try dsimp only[argC,succC]);(try dsimp only[awp]);conv=>whnf
 refine ADraw.both [] [3,6,7,9] ⟨[false,true,false,false,true,true,false,false,true,false,true],by kernel_rfl,?_⟩
 conv=>whnf
 refine .gen _ _ (frT [(10,_),(9,_),(8,_),(7,_),(6,_),(5,_)] (by simp) ql (fun _=>rfl) (fun _=>rfl) rfl) fun _=>?_
 conv=>whnf
 (refine aI (by (conv=>whnf)<;>exact rfl) ?_;(conv=>whnf))
 (refine aI (by (conv=>whnf)<;>exact rfl) ?_;(conv=>whnf))
 (refine aI (by (conv=>whnf)<;>exact rfl) ?_;(conv=>whnf))
 refine ⟨⟨hi0,by rw [hT.plen]; exact hi⟩,?_⟩
 conv=>whnf
 rw [Nat.zero_add]
 refine aidxD 0 ⟨by omega,by rw [Int.toNat_of_nonneg hi0,hT.plen]; exact hi⟩ ?_
 conv=>whnf
 rw [hpi]
 refine ⟨rfl,?_⟩
 conv=>whnf
 refine aI ?_ ?_
 ·conv=>whnf
  refine aidxD 0 ⟨by omega,by rw [Int.toNat_of_nonneg hi0,hT.plen]; exact hi⟩ ?_
  conv=>whnf
  rw [hpi]
  exact ⟨rfl,rfl⟩
 (try dsimp only[awp]);conv=>whnf
 refine And.intro (fun _=>?_) (fun h=>absurd hlv h)
 (try dsimp only[awp]);conv=>whnf
 refine ⟨⟨_,_,.refl _ _,?_⟩⟩
 conv=>whnf
 refine ⟨?_,rfl,by simp [nextId],.mk ?_ (by simp [idsOk])⟩
 ·all_goals exact wk
 ·repeat' first|exact rfl|exact trivial|exact wR|exact lR _|apply aI
  all_goals first | exact leM_refl _ | exact encM_bnd _ _ | exact encI_bnd _ _ | (simp; done) | skip

theorem c_cmpHere (T T' : Tb) (i : Int) (b : Bool) (D : MI) (hT : GoodT T) (hn : T.nodes.length ≤ 1000000000) (hi0 : 0 ≤ i) (hi : i < T.n) (r x : Int) (hr : T.Rf r) (h2 : 2 ≤ r) (hlv : ¬ T.pl i < T.lvl r) (hl : lookI D r = none)
  (hv : (T.nodes.getD (r - 2).toNat default).1 = i)
  (qc : FnH Tryz.prog 133 [.ptr 0 [] 0,.int .i64 (byI b),.int .i64 (T.nodes.getD (r - 2).toNat default).2.2,.int .i64 (T.nodes.getD (r - 2).toNat default).2.1] (hpT T) (.int .i64 x) (hpT T')) :
  FnH Tryz.prog 270 (argW r) (hpW T i b D) (.int .i64 x) (hpW T' i b (markI D r x)):=by
 have hpi : T.place.getD ((i.toNat : Nat) : Int).toNat 0 = T.pl i:=by unfold Tb.pl; rw [Int.toNat_natCast]
 have ql:=c_tLevel T hT hn r hr
 have hr2:=hr.2
 refine FnH.intro lay mixed Tryz.func270 (by kernel_rfl) rfl (by kernel_rfl) rfl fun hok=>?_
 (try dsimp only[argC,succC]);(try dsimp only[awp]);conv=>whnf
 refine ADraw.both [] [3,6,7,9] ⟨[false,true,false,false,true,true,false,false,true,false,true],by kernel_rfl,?_⟩
 conv=>whnf
 refine .gen _ _ (frT [(10,_),(9,_),(8,_),(7,_),(6,_),(5,_)] (by simp) ql (fun _=>rfl) (fun _=>rfl) rfl) fun _=>?_
 conv=>whnf
 (refine aI (by (conv=>whnf)<;>exact rfl) ?_;(conv=>whnf))
 (refine aI (by (conv=>whnf)<;>exact rfl) ?_;(conv=>whnf))
 (refine aI (by (conv=>whnf)<;>exact rfl) ?_;(conv=>whnf))
 refine ⟨⟨hi0,by rw [hT.plen]; exact hi⟩,?_⟩
 conv=>whnf
 rw [Nat.zero_add]
 refine aidxD 0 ⟨by omega,by rw [Int.toNat_of_nonneg hi0,hT.plen]; exact hi⟩ ?_
 conv=>whnf
 rw [hpi]
 refine ⟨rfl,?_⟩
 conv=>whnf
 refine aI ?_ ?_
 ·conv=>whnf
  refine aidxD 0 ⟨by omega,by rw [Int.toNat_of_nonneg hi0,hT.plen]; exact hi⟩ ?_
  conv=>whnf
  rw [hpi]
  exact ⟨rfl,rfl⟩
 (try dsimp only[awp]);conv=>whnf
 refine And.intro (fun h=>absurd h hlv) (fun _=>?_)
 (try dsimp only[awp]);conv=>whnf
 refine alookI_none hl ?_
 (try dsimp only[awp]);conv=>whnf
 refine ⟨inr64 (by omega) (by omega),?_⟩
 (try dsimp only[awp]);conv=>whnf
 refine aidxD default ⟨by omega,by omega⟩ ?_
 (try dsimp only[awp]);conv=>whnf
 refine And.intro (fun _=>?_) (fun h=>absurd hv h)
 (try dsimp only[awp]);conv=>whnf
 refine .gen _ _ (frT [(11,_),(10,_),(9,_),(8,_),(7,_),(6,_),(5,_)] (by simp) qc (fun _=>rfl) (fun _=>rfl) rfl) fun _=>?_
 (try dsimp only[awp]);conv=>whnf
 refine aupdI ?_
 (try dsimp only[awp]);conv=>whnf
 refine ⟨⟨_,_,.refl _ _,?_⟩⟩
 conv=>whnf
 refine ⟨?_,rfl,by simp [nextId],.mk ?_ (by simp [idsOk])⟩
 ·all_goals exact wk
 ·repeat' first|exact rfl|exact trivial|exact wR|exact lR _|apply aI
  all_goals first | exact leM_refl _ | exact encM_bnd _ _ | exact encI_bnd _ _ | (simp; done) | skip

theorem c_cmpElse (T T0 T1 T2 T3 : Tb) (i : Int) (b : Bool) (D D1 D2 : MI) (hT : GoodT T) (hn : T.nodes.length ≤ 1000000000) (hi0 : 0 ≤ i) (hi : i < T.n) (r e xh xl x : Int) (hr : T.Rf r) (h2 : 2 ≤ r) (hlv : ¬ T.pl i < T.lvl r) (hl : lookI D r = none)
  (hv : ¬ (T.nodes.getD (r - 2).toNat default).1 = i)
  (qe : FnH Tryz.prog 129 [.ptr 0 [] 0,.int .i64 (T.nodes.getD (r - 2).toNat default).1] (hpT T) (.int .i64 e) (hpT T0))
  (qh : FnH Tryz.prog 270 (argW (T.nodes.getD (r - 2).toNat default).2.2) (hpW T0 i b D) (.int .i64 xh) (hpW T1 i b D1))
  (qo : FnH Tryz.prog 270 (argW (T.nodes.getD (r - 2).toNat default).2.1) (hpW T1 i b D1) (.int .i64 xl) (hpW T2 i b D2))
  (qc : FnH Tryz.prog 133 [.ptr 0 [] 0,.int .i64 e,.int .i64 xh,.int .i64 xl] (hpT T2) (.int .i64 x) (hpT T3)) :
  FnH Tryz.prog 270 (argW r) (hpW T i b D) (.int .i64 x) (hpW T3 i b (markI D2 r x)):=by
 have hpi : T.place.getD ((i.toNat : Nat) : Int).toNat 0 = T.pl i:=by unfold Tb.pl; rw [Int.toNat_natCast]
 have ql:=c_tLevel T hT hn r hr
 have hr2:=hr.2
 have th:=fun K : AV=>FnH.top 11 [(11,.box K)] (by simp) qh ⟨rfl,rfl⟩ (bndW _ _ _ _) (bndW _ _ _ _) ⟨rfl,rfl⟩ ⟨rfl,rfl⟩
 have tl:=fun K : AV=>FnH.top 11 [(11,.box K)] (by simp) qo ⟨rfl,rfl⟩ (bndW _ _ _ _) (bndW _ _ _ _) ⟨rfl,rfl⟩ ⟨rfl,rfl⟩
 refine FnH.intro lay mixed Tryz.func270 (by kernel_rfl) rfl (by kernel_rfl) rfl fun hok=>?_
 (try dsimp only[argC,succC]);(try dsimp only[awp]);conv=>whnf
 refine ADraw.both [] [3,6,7,9] ⟨[false,true,false,false,true,true,false,false,true,false,true],by kernel_rfl,?_⟩
 conv=>whnf
 refine .gen _ _ (frT [(10,_),(9,_),(8,_),(7,_),(6,_),(5,_)] (by simp) ql (fun _=>rfl) (fun _=>rfl) rfl) fun _=>?_
 conv=>whnf
 (refine aI (by (conv=>whnf)<;>exact rfl) ?_;(conv=>whnf))
 (refine aI (by (conv=>whnf)<;>exact rfl) ?_;(conv=>whnf))
 (refine aI (by (conv=>whnf)<;>exact rfl) ?_;(conv=>whnf))
 refine ⟨⟨hi0,by rw [hT.plen]; exact hi⟩,?_⟩
 conv=>whnf
 rw [Nat.zero_add]
 refine aidxD 0 ⟨by omega,by rw [Int.toNat_of_nonneg hi0,hT.plen]; exact hi⟩ ?_
 conv=>whnf
 rw [hpi]
 refine ⟨rfl,?_⟩
 conv=>whnf
 refine aI ?_ ?_
 ·conv=>whnf
  refine aidxD 0 ⟨by omega,by rw [Int.toNat_of_nonneg hi0,hT.plen]; exact hi⟩ ?_
  conv=>whnf
  rw [hpi]
  exact ⟨rfl,rfl⟩
 (try dsimp only[awp]);conv=>whnf
 refine And.intro (fun h=>absurd h hlv) (fun _=>?_)
 (try dsimp only[awp]);conv=>whnf
 refine alookI_none hl ?_
 (try dsimp only[awp]);conv=>whnf
 refine ⟨inr64 (by omega) (by omega),?_⟩
 (try dsimp only[awp]);conv=>whnf
 refine aidxD default ⟨by omega,by omega⟩ ?_
 (try dsimp only[awp]);conv=>whnf
 refine And.intro (fun h=>absurd h hv) (fun _=>?_)
 (try dsimp only[awp]);conv=>whnf
 refine ADraw.both [0] [5,7,9,11] ⟨[false,false,true,false,false,false,true,false,false,false,true,false,false,false,true],by kernel_rfl,?_⟩
 conv=>whnf
 refine .gen _ _ (frT [(11,_),(10,_),(9,_),(8,_),(7,_),(6,_),(5,_)] (by simp) qe (fun _=>rfl) (fun _=>rfl) rfl) fun _=>?_
 conv=>whnf
 (refine aI (by (conv=>whnf)<;>exact rfl) ?_;(conv=>whnf))
 (refine aI (by (conv=>whnf)<;>exact rfl) ?_;(conv=>whnf))
 (refine aI (by (conv=>whnf)<;>exact rfl) ?_;(conv=>whnf))
 refine .gen _ _ (th _) fun _=>?_
 conv=>whnf
 (refine aI (by (conv=>whnf)<;>exact rfl) ?_;(conv=>whnf))
 (refine aI (by (conv=>whnf)<;>exact rfl) ?_;(conv=>whnf))
 (refine aI (by (conv=>whnf)<;>exact rfl) ?_;(conv=>whnf))
 (refine aI (by (conv=>whnf)<;>exact rfl) ?_;(conv=>whnf))
 (refine aI (by (conv=>whnf)<;>exact rfl) ?_;(conv=>whnf))
 refine .gen _ _ (tl _) fun _=>?_
 conv=>whnf
 (refine aI (by (conv=>whnf)<;>exact rfl) ?_;(conv=>whnf))
 refine .gen _ _ (frT [(11,_),(10,_),(9,_),(8,_),(7,_),(6,_),(5,_)] (by simp) qc (fun _=>rfl) (fun _=>rfl) rfl) fun _=>?_
 conv=>whnf
 (refine aI (by (conv=>whnf)<;>exact rfl) ?_;(conv=>whnf))
 refine aupdI ?_
 (try dsimp only[awp]);conv=>whnf
 refine ⟨⟨_,_,.refl _ _,?_⟩⟩
 conv=>whnf
 refine ⟨?_,rfl,by simp [nextId],.mk ?_ (by simp [idsOk])⟩
 ·all_goals exact wk
 ·repeat' first|exact rfl|exact trivial|exact wR|exact lR _|apply aI
  all_goals first | exact leM_refl _ | exact encM_bnd _ _ | exact encI_bnd _ _ | (simp; done) | skip

theorem c_compose (N : Nat) (i : Int) (b : Bool) (hi0 : 0 ≤ i) (d : Nat) : ∀ (T : Tb) (D : MI),GoodT T → T.n ≤ N → i < T.n → DoneC T i b D → ∀ (r : Int),T.Rf r → T.n - T.lvl r ≤ d → T.nodes.length + 2 ^ d * (2 ^ N + 2) ≤ 1000000000 →
  ∃ T' D' x,FnH Tryz.prog 270 (argW r) (hpW T i b D) (.int .i64 x) (hpW T' i b D') ∧ CmP N i b T T' D' r x ∧ T'.nodes.length + (2 ^ N + 2) ≤ T.nodes.length + 2 ^ d * (2 ^ N + 2):=by
 have h2N : 0 < 2 ^ N:=Nat.pow_pos (by decide)
 induction d with
 | zero =>
   intro T D hT hN hi hD r hr hd hS
   have hpl:=hT.plc i hi0 hi
   have hlv : T.pl i < T.lvl r:=by omega
   rw [Nat.pow_zero,Nat.one_mul] at hS ⊢
   exact ⟨T,D,r,c_cmpOver T i b D hT (by omega) hi0 hi r hr hlv,⟨hT,.refl _,hr,Int.le_refl _,fun s=>(ev_set hT hr ⟨hi0,hi⟩ hlv s b).symm,hD⟩,Nat.le_refl _⟩
 | succ d ih =>
   intro T D hT hN hi hD r hr hd hS
   have hpl:=hT.plc i hi0 hi
   have hM : 2 ^ (d + 1) * (2 ^ N + 2) = 2 ^ d * (2 ^ N + 2) + 2 ^ d * (2 ^ N + 2):=by rw [Nat.pow_succ,Nat.mul_two,Nat.add_mul]
   have hK : 2 ^ N + 2 ≤ 2 ^ d * (2 ^ N + 2):=Nat.le_mul_of_pos_left _ (Nat.pow_pos (by decide))
   rw [hM] at hS ⊢
   generalize 2 ^ d * (2 ^ N + 2) = M at *
   by_cases hlv : T.pl i < T.lvl r
   ·exact ⟨T,D,r,c_cmpOver T i b D hT (by omega) hi0 hi r hr hlv,⟨hT,.refl _,hr,Int.le_refl _,fun s=>(ev_set hT hr ⟨hi0,hi⟩ hlv s b).symm,hD⟩,by omega⟩
   cases hl : lookI D r with
   | some x =>
     obtain ⟨g1,g2,g3,g4⟩:=hD r x hl
     exact ⟨T,D,x,c_cmpKnown T i b D hT (by omega) hi0 hi r x hr hlv hl,⟨hT,.refl _,g2,g3,g4,hD⟩,by omega⟩
   | none =>
     have h2 : 2 ≤ r:=by
      apply Classical.byContradiction
      intro h
      have : T.lvl r = T.n:=if_pos (by omega)
      omega
     obtain ⟨gn,gev⟩:=hT.at hr h2
     obtain ⟨k1,k2,k3,k4,k5,k6⟩:=hT.kid hr h2
     have hlr : T.lvl r = T.pl (T.node r).1:=if_neg (by omega)
     by_cases hv : (T.node r).1 = i
     ·obtain ⟨x,qc,p⟩:=c_chEarly T hT (byI b) (T.node r).2.2 (T.node r).2.1 (by cases b <;> exact ⟨by decide,by simp [byI]; omega⟩) k2 k1 (by cases b <;> simp [byI])
      have hby : T.lvl (byI b) = T.n:=if_pos (by cases b <;> decide)
      have hval : ∀ s,ev T.nodes s x = ev T.nodes (setE s i b) r:=by
       intro s
       have e1 : setE s i b (T.node r).1 = b:=by rw [hv]; exact if_pos rfl
       rw [p.val s,gev (setE s i b),e1,ev_set hT k1 ⟨hi0,hi⟩ (by rw [← hv,← hlr]; exact k3),ev_set hT k2 ⟨hi0,hi⟩ (by rw [← hv,← hlr]; exact k4)]
       cases b <;> rfl
      have hlx : T.lvl r ≤ T.lvl x:=by have:=p.lvl; omega
      exact ⟨T,markI D r x,x,c_cmpHere T T i b D hT (by omega) hi0 hi r x hr h2 hlv hl hv qc,⟨hT,.refl _,p.rf,hlx,hval,hD.mark ⟨hr,p.rf,hlx,hval⟩⟩,by omega⟩
     ·have qe:=c_tEvent T (T.node r).1 (by omega)
      have m:=make_good hT (v:=(T.node r).1) (lo:=0) (hi:=1) gn.v (.zero T) (.one T) (by rw [← hlr]; exact k6) (by rw [← hlr]; exact k6)
      generalize T.make (T.node r).1 0 1 = q at *
      obtain ⟨T0,e⟩:=q
      obtain ⟨m1,m2,m3,m4,m5,m6,m7⟩:=m
      dsimp only at m1 m2 m3 m4 m5 m6 m7 qe
      obtain ⟨T1,D1,xh,f1,p1,n1⟩:=ih T0 D m1 (by rw [m2.n]; exact hN) (by rw [m2.n]; exact hi) (hD.ext m2) (T.node r).2.2 (m2.rf k2) (by rw [m2.n,m2.lvl k2]; omega) (by omega)
      have x1:=m2.trans p1.ext
      obtain ⟨T2,D2,xl,f2,p2,n2⟩:=ih T1 D1 p1.good (by rw [x1.n]; exact hN) (by rw [x1.n]; exact hi) p1.done (T.node r).2.1 (x1.rf k1) (by rw [x1.n,x1.lvl k1]; omega) (by omega)
      have x2:=x1.trans p2.ext
      have r1 : T2.Rf e:=p2.ext.rf (p1.ext.rf m3)
      have r2 : T2.Rf xh:=p2.ext.rf p1.rf
      have l1 : T.lvl r ≤ T2.lvl e:=by rw [p2.ext.lvl (p1.ext.rf m3),p1.ext.lvl m3,hlr]; exact m4
      have l2 : T.lvl r ≤ T2.lvl xh:=by rw [p2.ext.lvl p1.rf]; have:=p1.lvl; rw [m2.lvl k2] at this; omega
      have l3 : T.lvl r ≤ T2.lvl xl:=by have:=p2.lvl; rw [x1.lvl k1] at this; omega
      have hn2:=x2.n
      obtain ⟨T3,x,qc,p3,n3⟩:=c_tChoose N T2 p2.good e xh xl r1 r2 p2.rf (by rw [hn2]; omega) (by omega)
      have x3:=x2.trans p3.ext
      have hval : ∀ s,ev T3.nodes s x = ev T.nodes (setE s i b) r:=by
       intro s
       have e1 : setE s i b (T.node r).1 = s (T.node r).1:=if_neg hv
       rw [p3.val s,p2.ext.ev (p1.ext.rf m3),p1.ext.ev m3,m7 s,p2.ext.ev p1.rf,p1.val s,p2.val s,m2.ev k2,x1.ev k1,gev (setE s i b),e1,ev_one,ev_zero]
       cases s (T.node r).1 <;> rfl
      have hlx : T.lvl r ≤ T3.lvl x:=by have:=p3.lvl; omega
      refine ⟨T3,markI D2 r x,x,c_cmpElse T T0 T1 T2 T3 i b D D1 D2 hT (by omega) hi0 hi r e xh xl x hr h2 hlv hl hv qe f1 f2 qc,⟨p3.good,x3,p3.rf,hlx,hval,(p2.done.ext p3.ext).mark ⟨x3.rf hr,p3.rf,by rw [x3.lvl hr]; exact hlx,fun s=>by rw [hval s,x3.ev hr]⟩⟩,by omega⟩

theorem sat_ne {T : Tb} (h : GoodT T) (d : Nat) : ∀ (r : Int),T.Rf r → r ≤ d → (r ≠ 0 → ∃ s,ev T.nodes s r = true) ∧ (r ≠ 1 → ∃ s,ev T.nodes s r = false):=by
 induction d with
 | zero =>
   intro r hr hd
   have:=hr.1
   obtain rfl : r = 0:=by omega
   exact ⟨fun h=>absurd rfl h,fun _=>⟨fun _=>false,rfl⟩⟩
 | succ d ih =>
   intro r hr hd
   by_cases h2 : r < 2
   ·have:=hr.1
    rcases (by omega : r = 0 ∨ r = 1) with rfl | rfl
    ·exact ⟨fun h=>absurd rfl h,fun _=>⟨fun _=>false,rfl⟩⟩
    ·exact ⟨fun _=>⟨fun _=>false,rfl⟩,fun h=>absurd rfl h⟩
   ·obtain ⟨g,e⟩:=h.at hr (by omega)
    obtain ⟨k1,k2,k3,k4,k5,k6⟩:=h.kid hr (by omega)
    have hlo:=g.lo.2
    have hhi:=g.hi.2
    have:=hr.2
    obtain ⟨a1,a2⟩:=ih _ k1 (by omega)
    obtain ⟨b1,b2⟩:=ih _ k2 (by omega)
    have hlr : T.lvl r = T.pl (T.node r).1:=if_neg (by omega)
    have low : ∀ v : Bool,(∃ s,ev T.nodes s (T.node r).2.1 = v) → ∃ s,ev T.nodes s r = v:=by
     rintro v ⟨s,hs⟩
     refine ⟨setE s (T.node r).1 false,?_⟩
     rw [e,show setE s (T.node r).1 false (T.node r).1 = false from if_pos rfl,ev_set h k1 g.v (by rw [← hlr]; exact k3)]
     simpa using hs
    have high : ∀ v : Bool,(∃ s,ev T.nodes s (T.node r).2.2 = v) → ∃ s,ev T.nodes s r = v:=by
     rintro v ⟨s,hs⟩
     refine ⟨setE s (T.node r).1 true,?_⟩
     rw [e,show setE s (T.node r).1 true (T.node r).1 = true from if_pos rfl,ev_set h k2 g.v (by rw [← hlr]; exact k4)]
     simpa using hs
    have hne:=g.ne
    refine ⟨fun _=>?_,fun _=>?_⟩
    ·by_cases h0 : (T.node r).2.1 = 0
     ·exact high true (b1 (by omega))
     ·exact low true (a1 h0)
    ·by_cases h0 : (T.node r).2.1 = 1
     ·exact high false (b2 (by omega))
     ·exact low false (a2 h0)

theorem GoodT.sat {T : Tb} (h : GoodT T) {r : Int} (hr : T.Rf r) : r = 0 ↔ ∀ s,ev T.nodes s r = false:=by
 constructor
 ·rintro rfl s; rfl
 ·intro hs
  apply Classical.byContradiction
  intro h0
  obtain ⟨s,hs'⟩:=(sat_ne h r.toNat r hr (by have:=hr.1; omega)).1 h0
  rw [hs s] at hs'; cases hs'

structure RsP (i : Int) (b : Bool) (T T' : Tb) (r x : Int) : Prop where
 good : GoodT T'
 ext : Xt T T'
 rf : T'.Rf x
 lvl : T.lvl r ≤ T'.lvl x
 val : ∀ s,ev T'.nodes s x = ev T.nodes (setE s i b) r

abbrev bbAV (b : Bool) : AV:=if b = true then .tt else .ff

theorem c_tCompose (N : Nat) (i : Int) (b : Bool) (T : Tb) (hT : GoodT T) (hN : T.n ≤ N) (hi0 : 0 ≤ i) (hi : i < T.n) (r : Int) (hr : T.Rf r) (hS : T.nodes.length + 2 ^ N * (2 ^ N + 2) ≤ 1000000000) :
  ∃ T' x,FnH Tryz.prog 232 [.ptr 0 [] 0,.int .i64 r,.int .i64 i,.int .i64 (byI b)] (hpT T) (.int .i64 x) (hpT T') ∧ RsP i b T T' r x ∧ T'.nodes.length ≤ T.nodes.length + 2 ^ N * (2 ^ N + 2):=by
 have hlp:=hT.lvl_pos hr
 obtain ⟨T',D',x,f,p,n⟩:=c_compose N i b hi0 N T [] hT hN hi (fun _ _ h=>by cases h) r hr (by omega) hS
 refine ⟨T',x,?_,⟨p.good,p.ext,p.rf,p.lvl,p.val⟩,Nat.le_trans (Nat.le_add_right _ _) n⟩
 refine FnH.intro lay mixed Tryz.func232 (by kernel_rfl) rfl (by kernel_rfl) rfl fun hok=>?_
 (try dsimp only[argC,succC]);(try dsimp only[awp]);conv=>whnf
 refine .gen _ _ f fun _=>?_
 (try dsimp only[awp]);conv=>whnf
 refine ⟨⟨_,_,.refl _ _,?_⟩⟩
 conv=>whnf
 refine ⟨?_,rfl,by simp [nextId],.mk ?_ (by simp [idsOk])⟩
 ·all_goals exact wk
 ·repeat' first|exact rfl|exact trivial|exact wR|exact lR _|apply aI
  all_goals first | exact leM_refl _ | exact encM_bnd _ _ | (simp; done) | skip

theorem c_tRestrict (N : Nat) (i : Int) (b : Bool) (T : Tb) (hT : GoodT T) (hN : T.n ≤ N) (hi0 : 0 ≤ i) (hi : i < T.n) (r : Int) (hr : T.Rf r) (hS : T.nodes.length + 2 ^ N * (2 ^ N + 2) ≤ 1000000000) :
  ∃ T' x,FnH Tryz.prog 136 [.ptr 0 [] 0,.int .i64 r,.int .i64 i,bbAV b] (hpT T) (.int .i64 x) (hpT T') ∧ RsP i b T T' r x ∧ T'.nodes.length ≤ T.nodes.length + 2 ^ N * (2 ^ N + 2):=by
 obtain ⟨T',x,f,p,n⟩:=c_tCompose N i b T hT hN hi0 hi r hr hS
 refine ⟨T',x,?_,p,n⟩
 cases b with
 | true =>
   refine FnH.intro lay mixed Tryz.func136 (by kernel_rfl) rfl (by kernel_rfl) rfl fun hok=>?_
   (try dsimp only[argC,succC]);(try dsimp only[awp]);conv=>whnf
   refine .gen _ _ f fun _=>?_
   (try dsimp only[awp]);conv=>whnf
   refine ⟨⟨_,_,.refl _ _,?_⟩⟩
   conv=>whnf
   refine ⟨?_,rfl,by simp [nextId],.mk ?_ (by simp [idsOk])⟩
   ·all_goals exact wk
   ·repeat' first|exact rfl|exact trivial|exact wR|exact lR _|apply aI
    all_goals first | exact leM_refl _ | exact encM_bnd _ _ | (simp; done) | skip
 | false =>
   refine FnH.intro lay mixed Tryz.func136 (by kernel_rfl) rfl (by kernel_rfl) rfl fun hok=>?_
   (try dsimp only[argC,succC]);(try dsimp only[awp]);conv=>whnf
   refine .gen _ _ f fun _=>?_
   (try dsimp only[awp]);conv=>whnf
   refine ⟨⟨_,_,.refl _ _,?_⟩⟩
   conv=>whnf
   refine ⟨?_,rfl,by simp [nextId],.mk ?_ (by simp [idsOk])⟩
   ·all_goals exact wk
   ·repeat' first|exact rfl|exact trivial|exact wR|exact lR _|apply aI
    all_goals first | exact leM_refl _ | exact encM_bnd _ _ | (simp; done) | skip

def bitsE (m : Nat) : Int → Bool:=fun j=>m.testBit j.toNat
def ovr (q i : Nat) (s : Int → Bool) : Int → Bool:=fun j=>if (i : Int) ≤ j then q.testBit (j - i).toNat else s j

theorem tb_zero (q : Nat) (b : Bool) : (2 * q + b.toNat).testBit 0 = b:=by
 rw [Nat.testBit_zero]
 cases b <;> simp <;> omega
theorem tb_succ (q : Nat) (b : Bool) (k : Nat) : (2 * q + b.toNat).testBit (k + 1) = q.testBit k:=by
 rw [Nat.testBit_succ]
 congr 1
 cases b <;> simp <;> omega

theorem ovr_step (q i : Nat) (b : Bool) (s : Int → Bool) : ovr (2 * q + b.toNat) i s = ovr q (i + 1) (setE s i b):=by
 funext j
 unfold ovr setE
 by_cases h1 : ((i + 1 : Nat) : Int) ≤ j
 ·rw [if_pos (by omega),if_pos h1,show (j - (i : Int)).toNat = (j - ((i + 1 : Nat) : Int)).toNat + 1 by omega,tb_succ]
 ·rw [if_neg h1]
  by_cases h2 : j = (i : Int)
  ·subst h2
   rw [if_pos (by omega),if_pos rfl,show ((i : Int) - (i : Int)).toNat = 0 by omega,tb_zero]
  ·rw [if_neg (by omega),if_neg h2]

theorem ovr_bits (m i : Nat) : ovr (m / 2 ^ i) i (bitsE m) = bitsE m:=by
 funext j
 unfold ovr bitsE
 split
 ·rw [Nat.testBit_div_two_pow]
  congr 1; omega
 ·rfl

theorem or_shift (q i : Nat) : 2 * q * 2 ^ i ||| 2 ^ i = (2 * q + 1) * 2 ^ i:=by
 apply Nat.eq_of_testBit_eq
 intro j
 rw [Nat.testBit_or,Nat.testBit_mul_two_pow,Nat.testBit_mul_two_pow,Nat.testBit_two_pow]
 by_cases h : i ≤ j
 ·rcases Nat.lt_or_eq_of_le h with h1 | h1
  ·obtain ⟨k,hk⟩ : ∃ k,j - i = k + 1:=⟨j - i - 1,by omega⟩
   have e1:=tb_succ q false k
   have e2:=tb_succ q true k
   simp only [Bool.toNat_false,Bool.toNat_true,Nat.add_zero] at e1 e2
   rw [hk,e1,e2]
   have : ¬ i = j:=by omega
   simp [this]
  ·subst h1
   have e2:=tb_zero q true
   simp only [Bool.toNat_true] at e2
   rw [Nat.sub_self,e2]
   simp
 ·have : ¬ i = j:=by omega
  simp [h,this]

structure LsS where
 i : Nat
 T : Tb
 r : Int
 q : Nat

structure LeI (T : Tb) (r : Int) (S B : Nat) (s : LsS) : Prop where
 good : GoodT s.T
 ext : Xt T s.T
 rf : s.T.Rf s.r
 le : (s.i : Int) ≤ T.n
 sat : s.r ≠ 0
 val : ∀ t,ev s.T.nodes t s.r = ev T.nodes (ovr s.q s.i t) r
 low : ∀ m,ev T.nodes (bitsE m) r = true → s.q ≤ m / 2 ^ s.i
 bnd : s.q < 2 ^ (T.n.toNat - s.i)
 size : s.T.nodes.length + 2 * s.i * S ≤ B

theorem chain_ex {α : Type} (I : Nat → α → Prop) (R : Nat → α → α → Prop) (n : Nat) (s0 : α) (h0 : I 0 s0) (step : ∀ k s,k < n → I k s → ∃ s',I (k + 1) s' ∧ R k s s') :
  ∃ f : Nat → α,f 0 = s0 ∧ (∀ k,k ≤ n → I k (f k)) ∧ ∀ k,k < n → R k (f k) (f (k + 1)):=by
 have : ∀ m,m ≤ n → ∃ f : Nat → α,f 0 = s0 ∧ (∀ k,k ≤ m → I k (f k)) ∧ ∀ k,k < m → R k (f k) (f (k + 1)):=by
  intro m
  induction m with
  | zero =>
    refine fun _=>⟨fun _=>s0,rfl,fun k hk=>?_,fun k hk=>absurd hk (Nat.not_lt_zero _)⟩
    obtain rfl : k = 0:=by omega
    exact h0
  | succ m ih =>
    intro hm
    obtain ⟨f,f0,f1,f2⟩:=ih (by omega)
    obtain ⟨s',g1,g2⟩:=step m (f m) (by omega) (f1 m (Nat.le_refl _))
    refine ⟨fun k=>if k = m + 1 then s' else f k,by simp [f0],fun k hk=>?_,fun k hk=>?_⟩
    ·by_cases h : k = m + 1
     ·subst h; simp only [if_pos]; exact g1
     ·simp only [if_neg h]; exact f1 k (by omega)
    ·by_cases h : k = m
     ·subst h
      simp only [if_pos]
      rw [if_neg (by omega)]
      exact g2
     ·simp only [if_neg (show ¬ k = m + 1 by omega),if_neg (show ¬ k + 1 = m + 1 by omega)]
      exact f2 k (by omega)
 exact this n (Nat.le_refl _)

def LeR (i : Nat) (s s' : LsS) : Prop :=
 ∃ T1 x,FnH Tryz.prog 136 [.ptr 0 [] 0,.int .i64 s.r,.int .i64 i,.ff] (hpT s.T) (.int .i64 x) (hpT T1) ∧
   ((x ≠ 0 ∧ s' = ⟨i,T1,x,2 * s.q⟩) ∨ (x = 0 ∧ ∃ T2 y,FnH Tryz.prog 136 [.ptr 0 [] 0,.int .i64 s.r,.int .i64 i,.tt] (hpT T1) (.int .i64 y) (hpT T2) ∧ s' = ⟨i,T2,y,2 * s.q + 1⟩))

theorem le_step (N : Nat) (T : Tb) (hN : T.n ≤ N) (r : Int) (_ : T.Rf r) (i : Nat) (s : LsS) (B : Nat) (hB : B ≤ 1000000000) (h : LeI T r (2 ^ N * (2 ^ N + 2)) B s) (hi : s.i = i + 1) :
  ∃ s',(LeI T r (2 ^ N * (2 ^ N + 2)) B s' ∧ s'.i = i) ∧ LeR i s s':=by
 obtain ⟨h1,h2,h3,h4,h5,h6,h7,h8,h9⟩:=h
 rw [hi] at h4 h6 h7 h8 h9
 have hn:=h2.n
 have hb2 : 2 ^ (T.n.toNat - i) = 2 * 2 ^ (T.n.toNat - (i + 1)):=by
  rw [show T.n.toNat - i = (T.n.toNat - (i + 1)) + 1 by omega,Nat.pow_succ,Nat.mul_comm]
 have Q:=c_tRestrict N
 have h9' : s.T.nodes.length + (2 * i * (2 ^ N * (2 ^ N + 2)) + (2 ^ N * (2 ^ N + 2) + 2 ^ N * (2 ^ N + 2))) ≤ B:=by
  have : 2 * (i + 1) * (2 ^ N * (2 ^ N + 2)) = 2 * i * (2 ^ N * (2 ^ N + 2)) + (2 ^ N * (2 ^ N + 2) + 2 ^ N * (2 ^ N + 2)):=by rw [Nat.mul_add,Nat.add_mul,Nat.mul_one,Nat.two_mul (2 ^ N * (2 ^ N + 2))]
  rw [← this]; exact h9
 clear h9
 generalize 2 ^ N * (2 ^ N + 2) = S at *
 obtain ⟨W,hW⟩ : ∃ W,W = 2 * i * S:=⟨_,rfl⟩
 rw [← hW] at h9'
 have hsz : ∀ L : Nat,L ≤ s.T.nodes.length + S + S → L + 2 * i * S ≤ B:=fun L hL=>by rw [← hW]; omega
 obtain ⟨T1,x,f1,p1,n1⟩:=Q (i : Int) false s.T h1 (by omega) (by omega) (by omega) s.r h3 (by omega)
 have v1 : ∀ t,ev T1.nodes t x = ev T.nodes (ovr (2 * s.q + false.toNat) i t) r:=by
  intro t
  rw [p1.val,h6,ovr_step]
 by_cases hx : x = 0
 ·obtain ⟨T2,y,f2,p2,n2⟩:=Q (i : Int) true T1 p1.good (by rw [p1.ext.n]; omega) (by omega) (by rw [p1.ext.n]; omega) s.r (p1.ext.rf h3) (by omega)
  have v2 : ∀ t,ev T2.nodes t y = ev T.nodes (ovr (2 * s.q + true.toNat) i t) r:=by
   intro t
   rw [p2.val,p1.ext.ev h3,h6,ovr_step]
  have hz : ∀ t,ev T.nodes (ovr (2 * s.q + false.toNat) i t) r = false:=fun t=>by rw [← v1 t,hx]; rfl
  refine ⟨⟨i,T2,y,2 * s.q + 1⟩,⟨⟨p2.good,(h2.trans p1.ext).trans p2.ext,p2.rf,by show (i : Int) ≤ T.n; omega,fun hy=>?_,v2,fun m hm=>?_,?_,hsz _ (by show T2.nodes.length ≤ _; omega)⟩,rfl⟩,T1,x,f1,.inr ⟨hx,T2,y,f2,rfl⟩⟩
  ·-- one of both is true somewhere
   apply h5
   refine (h1.sat h3).2 fun t=>?_
   rw [h6]
   have e:=ovr_step s.q i (t i) t
   have e2 : setE t i (t i) = t:=by
    funext j; unfold setE; split
    ·rename_i h; rw [h]
    ·rfl
   rw [e2] at e
   rw [← e]
   cases t (i : Int) with
   | false=>exact hz t
   | true =>
     have hy : y = 0:=hy
     rw [← v2 t,hy]; rfl
  ·have h:=h7 m hm
   rw [Nat.pow_succ,← Nat.div_div_eq_div_mul] at h
   have hne : m / 2 ^ i ≠ 2 * s.q:=by
    intro e
    have h':=hz (bitsE m)
    rw [show 2 * s.q + false.toNat = m / 2 ^ i by rw [e]; rfl,ovr_bits,hm] at h'
    cases h'
   show 2 * s.q + 1 ≤ m / 2 ^ i
   omega
  ·show 2 * s.q + 1 < _
   rw [hb2]; omega
 ·refine ⟨⟨i,T1,x,2 * s.q⟩,⟨⟨p1.good,h2.trans p1.ext,p1.rf,by show (i : Int) ≤ T.n; omega,hx,v1,fun m hm=>?_,?_,hsz _ (by show T1.nodes.length ≤ _; omega)⟩,rfl⟩,T1,x,f1,.inl ⟨hx,rfl⟩⟩
  ·have h:=h7 m hm
   rw [Nat.pow_succ,← Nat.div_div_eq_div_mul] at h
   show 2 * s.q ≤ m / 2 ^ i
   omega
  ·show 2 * s.q < _
   rw [hb2]; omega

theorem c_least (N : Nat) (hN60 : N ≤ 60) (T : Tb) (hT : GoodT T) (hN : T.n ≤ N) (r : Int) (hr : T.Rf r) (hr0 : r ≠ 0) (B : Nat) (hB : B ≤ 1000000000) (hS : T.nodes.length + 2 * T.n.toNat * (2 ^ N * (2 ^ N + 2)) ≤ B) :
  ∃ T' q,FnH Tryz.prog 55 [.ptr 0 [] 0,.int .i64 r,.int .i64 T.n] (hpT T) (.int .i64 ((q : Nat) : Int)) (hpT T') ∧ GoodT T' ∧ Xt T T' ∧ ev T.nodes (bitsE q) r = true ∧ (∀ m,ev T.nodes (bitsE m) r = true → q ≤ m) ∧ q < 2 ^ T.n.toNat ∧ T'.nodes.length ≤ B:=by
 have hn0 : 0 ≤ T.n:=by unfold Tb.n; omega
 have hov : ∀ t,ev T.nodes (ovr 0 T.n.toNat t) r = ev T.nodes t r:=fun t=>ev_indep hT r.toNat r hr (by have:=hr.1; omega) _ _ fun j h0 h1 _=>by
  unfold ovr; rw [if_neg (by omega)]
 obtain ⟨f,f0,f1,f2⟩:=chain_ex (fun k s=>LeI T r (2 ^ N * (2 ^ N + 2)) B s ∧ s.i = T.n.toNat - k) (fun k s s'=>LeR (T.n.toNat - (k + 1)) s s') T.n.toNat ⟨T.n.toNat,T,r,0⟩
  ⟨⟨hT,.refl _,hr,by show ((T.n.toNat : Nat) : Int) ≤ T.n; omega,hr0,fun t=>(hov t).symm,fun _ _=>Nat.zero_le _,Nat.pow_pos (by decide),hS⟩,rfl⟩
  (fun k s hk h=>by
   obtain ⟨s',h1,h2⟩:=le_step N T hN r hr (T.n.toNat - (k + 1)) s B hB h.1 (by rw [h.2]; omega)
   exact ⟨s',h1,h2⟩)
 obtain ⟨l1,l2⟩:=f1 T.n.toNat (Nat.le_refl _)
 rw [Nat.sub_self] at l2
 have hfin:=l1.val
 have hlow:=l1.low
 have hb:=l1.bnd
 rw [l2] at hfin hlow hb
 refine ⟨(f T.n.toNat).T,(f T.n.toNat).q,?_,l1.good,l1.ext,?_,fun m hm=>by have:=hlow m hm; rwa [Nat.pow_zero,Nat.div_one] at this,by simpa using hb,by have:=l1.size; omega⟩
 ·generalize hn : T.n.toNat = n at *
  have hnT : T.n = (n : Int):=by omega
  rw [hnT]
  have hn60 : n ≤ 60:=by omega
  refine FnH.intro lay mixed Tryz.func55 (by kernel_rfl) rfl (by kernel_rfl) rfl fun hok=>?_
  (try dsimp only[argC,succC]);(try dsimp only[awp]);conv=>whnf
  refine ⟨inr64 (by omega) (by omega),?_⟩
  (try dsimp only[awp]);conv=>whnf
  refine LoopE.of <| (LoopSpec.inv (.refl _ _) (fun k : Nat=>k ≤ n) (fun k=>[(8,.int .i64 (((n - k : Nat) : Int) - 1)),(7,.int .i64 (((f k).q * 2 ^ (n - k) : Nat) : Int)),(1,.int .i64 (f k).r)]) (fun k=>hpT (f k).T) (fun k=>n - k) 0 (Nat.zero_le _) ?_ ?_ ?_)
  ·exact fun _=>rfl
  ·rw [f0]
   refine ⟨?_,.mk ?_ (by simp [idsOk])⟩
   ·repeat' first|exact rfl|exact trivial|exact wR|exact lR _|apply aI
    all_goals first | (show (_ : Int) = _; simp; done) | skip
   ·repeat' first|exact rfl|exact trivial|exact wR|exact lR _|apply aI
    all_goals first | exact leM_refl _ | exact encM_bnd _ _ | skip
  intro k hk _
  obtain ⟨qk,qi⟩:=f1 k hk
  have qb:=qk.bnd
  rw [qi,hn] at qb
  have hst : (f k).q * 2 ^ (n - k) < 2 ^ n:=by
   have : 2 ^ n = 2 ^ (n - (n - k)) * 2 ^ (n - k):=by rw [← Nat.pow_add]; congr 1; omega
   rw [this]
   exact Nat.mul_lt_mul_of_pos_right qb (Nat.pow_pos (by decide))
  have h60 : 2 ^ n ≤ 2 ^ 60:=Nat.pow_le_pow_right (by decide) hn60
  (try dsimp only[awp]);conv=>whnf
  refine And.intro (fun h=>?_) (fun h=>?_)
  ·have hlt : k < n:=by omega
   have ek : ((n - k : Nat) : Int) - 1 = ((n - (k + 1) : Nat) : Int):=by omega
   obtain ⟨T1,x,g1,alt⟩:=f2 k hlt
   rw [ek]
   (try dsimp only[awp]);conv=>whnf
   refine .gen _ _ g1 fun _=>?_
   (try dsimp only[awp]);conv=>whnf
   have hkk : n - k = (n - (k + 1)) + 1:=by omega
   have hin : n - (k + 1) < 60:=by omega
   have hlast : ((n - (k + 1) : Nat) : Int) - 1 = ((n - (k + 1) : Nat) : Int) - 1:=rfl
   rcases alt with ⟨hx,hs⟩ | ⟨hx,T2,y,g2,hs⟩
   ·refine And.intro (fun h=>absurd h hx) (fun _=>?_)
    (try dsimp only[awp]);conv=>whnf
    refine ⟨inr64 (by omega) (by omega),?_⟩
    (try dsimp only[awp]);conv=>whnf
    refine ⟨k + 1,?_,?_,?_⟩
    ·exact hlt
    ·rw [hs]
     refine ⟨?_,.mk ?_ (by simp [idsOk])⟩
     ·repeat' first|exact rfl|exact trivial|exact wR|exact lR _|apply aI
      all_goals (show (_ : Int) = _; congr 1; rw [hkk,Nat.pow_succ,Nat.mul_comm 2,Nat.mul_assoc,Nat.mul_comm 2])
     ·repeat' first|exact rfl|exact trivial|exact wR|exact lR _|apply aI
      all_goals first | exact leM_refl _ | exact encM_bnd _ _ | skip
    ·omega
   ·refine And.intro (fun _=>?_) (fun h=>absurd hx h)
    (try dsimp only[awp]);conv=>whnf
    refine .gen _ _ g2 fun _=>?_
    (try dsimp only[awp]);conv=>whnf
    refine ⟨by omega,?_⟩
    rw [shl_one (by omega)]
    (try dsimp only[awp]);conv=>whnf
    have hpw : 2 ^ (n - (k + 1)) < 2 ^ 60:=Nat.pow_lt_pow_right (by decide) hin
    rw [or_nat (by omega) (by omega)]
    refine ⟨inr64 (by omega) (by omega),?_⟩
    (try dsimp only[awp]);conv=>whnf
    refine ⟨k + 1,?_,?_,?_⟩
    ·exact hlt
    ·rw [hs]
     refine ⟨?_,.mk ?_ (by simp [idsOk])⟩
     ·repeat' first|exact rfl|exact trivial|exact wR|exact lR _|apply aI
      all_goals (show (_ : Int) = _; congr 1; rw [hkk,Nat.pow_succ,← or_shift]; congr 1; rw [Nat.mul_comm 2,Nat.mul_assoc,Nat.mul_comm 2])
     ·repeat' first|exact rfl|exact trivial|exact wR|exact lR _|apply aI
      all_goals first | exact leM_refl _ | exact encM_bnd _ _ | skip
    ·omega
  ·have hk : k = n:=by omega
   subst hk
   (try dsimp only[awp]);conv=>whnf
   refine ⟨⟨_,_,.refl _ _,?_⟩⟩
   conv=>whnf
   refine ⟨?_,rfl,by simp [nextId],.mk ?_ (by simp [idsOk])⟩
   ·repeat' first|exact rfl|exact trivial|exact wR|exact lR _|apply aI
    all_goals (rw [Nat.sub_self,Nat.pow_zero,Nat.mul_one])
   ·repeat' first|exact rfl|exact trivial|exact wR|exact lR _|apply aI
    all_goals first | exact leM_refl _ | exact encM_bnd _ _ | skip
 ·obtain ⟨t,ht⟩ : ∃ t,ev (f T.n.toNat).T.nodes t (f T.n.toNat).r = true:=by
   apply Classical.byContradiction
   intro hn
   exact l1.sat ((l1.good.sat l1.rf).2 fun t=>by
    cases h : ev (f T.n.toNat).T.nodes t (f T.n.toNat).r with
    | true=>exact absurd ⟨t,h⟩ hn
    | false=>rfl)
  rw [hfin] at ht
  rw [← ht]
  refine ev_indep hT r.toNat r hr (by have:=hr.1; omega) _ _ fun j h0 h1 _=>?_
  unfold ovr bitsE
  rw [if_pos (by omega)]
  congr 1; omega

def cntR (f : (Int → Bool) → Bool) : Nat → (Int → Bool) → Nat
 | 0,s=>(f s).toNat
 | k + 1,s=>cntR f k (setE s k false) + cntR f k (setE s k true)

theorem setE_comm {s : Int → Bool} {i j : Int} {a b : Bool} (h : i ≠ j) : setE (setE s i a) j b = setE (setE s j b) i a:=by
 funext x
 unfold setE
 by_cases h1 : x = j
 ·subst h1; rw [if_pos rfl,if_neg (fun e=>h e.symm),if_pos rfl]
 ·rw [if_neg h1]
  by_cases h2 : x = i
  ·rw [if_pos h2,if_pos h2]
  ·rw [if_neg h2,if_neg h2,if_neg h1]

theorem cntR_congr {f g : (Int → Bool) → Bool} (h : ∀ s,f s = g s) : ∀ (k : Nat) (s : Int → Bool),cntR f k s = cntR g k s
 | 0,s=>by simp only [cntR,h s]
 | k + 1,s=>by simp only [cntR,cntR_congr h k]

theorem cntR_set {f : (Int → Bool) → Bool} {v : Int} {b : Bool} : ∀ (k : Nat) (s : Int → Bool),(k : Int) ≤ v → cntR f k (setE s v b) = cntR (fun t=>f (setE t v b)) k s
 | 0,s,_=>rfl
 | k + 1,s,h=>by
   simp only [cntR]
   rw [setE_comm (s:=s) (i:=v) (j:=(k : Int)) (a:=b) (b:=false) (by omega),setE_comm (s:=s) (i:=v) (j:=(k : Int)) (a:=b) (b:=true) (by omega),cntR_set k (setE s k false) (by omega),cntR_set k (setE s k true) (by omega)]

theorem cntR_node {f l h : (Int → Bool) → Bool} {v : Nat} (hf : ∀ s,f s = if s v then h s else l s) (hl : ∀ s b,l (setE s v b) = l s) (hh : ∀ s b,h (setE s v b) = h s) :
  ∀ (k : Nat) (s : Int → Bool),v < k → 2 * cntR f k s = cntR l k s + cntR h k s
 | 0,_,hk=>by omega
 | k + 1,s,hk=>by
   by_cases hv : v = k
   ·subst hv
    simp only [cntR]
    have e1 : ∀ t,(fun t=>f (setE t v false)) t = l t:=fun t=>by
     show f (setE t v false) = l t
     rw [hf,show setE t (v : Int) false v = false from if_pos rfl,hl]; simp
    have e2 : ∀ t,(fun t=>f (setE t v true)) t = h t:=fun t=>by
     show f (setE t v true) = h t
     rw [hf,show setE t (v : Int) true v = true from if_pos rfl,hh]; simp
    rw [cntR_set v s (Int.le_refl _),cntR_set v s (Int.le_refl _),cntR_congr e1,cntR_congr e2]
    rw [cntR_set (f:=l) v s (Int.le_refl _),cntR_set (f:=l) v s (Int.le_refl _),cntR_set (f:=h) v s (Int.le_refl _),cntR_set (f:=h) v s (Int.le_refl _)]
    rw [cntR_congr (f:=fun t=>l (setE t v false)) (g:=l) (fun t=>hl t false),cntR_congr (f:=fun t=>l (setE t v true)) (g:=l) (fun t=>hl t true),cntR_congr (f:=fun t=>h (setE t v false)) (g:=h) (fun t=>hh t false),cntR_congr (f:=fun t=>h (setE t v true)) (g:=h) (fun t=>hh t true)]
    omega
   ·simp only [cntR]
    have h1:=cntR_node hf hl hh k (setE s k false) (by omega)
    have h2:=cntR_node hf hl hh k (setE s k true) (by omega)
    omega

theorem cntR_range {f : (Int → Bool) → Bool} : ∀ (k : Nat) (s : Int → Bool),cntR f k s = (List.range (2 ^ k)).countP fun m=>f fun j=>if 0 ≤ j ∧ j < (k : Int) then m.testBit j.toNat else s j
 | 0,s=>by
   have : (fun j : Int=>if 0 ≤ j ∧ j < ((0 : Nat) : Int) then (0 : Nat).testBit j.toNat else s j) = s:=by
    funext j; rw [if_neg (by omega)]
   simp only [cntR,Nat.pow_zero,List.range_one,List.countP_cons,List.countP_nil,this]
   cases f s <;> rfl
 | k + 1,s=>by
   simp only [cntR]
   rw [cntR_range k,cntR_range k]
   have e : 2 ^ (k + 1) = 2 ^ k + 2 ^ k:=by rw [Nat.pow_succ]; omega
   rw [e,List.range_add,List.countP_append,List.countP_map]
   congr 1
   ·apply List.countP_congr
    intro m hm
    have hm : m < 2 ^ k:=by simpa using hm
    have : (fun j : Int=>if 0 ≤ j ∧ j < (k : Int) then m.testBit j.toNat else setE s k false j) = fun j : Int=>if 0 ≤ j ∧ j < ((k + 1 : Nat) : Int) then m.testBit j.toNat else s j:=by
     funext j
     by_cases h1 : 0 ≤ j ∧ j < (k : Int)
     ·rw [if_pos h1,if_pos (by omega)]
     ·rw [if_neg h1]
      unfold setE
      by_cases h2 : j = (k : Int)
      ·subst h2
       rw [if_pos rfl,if_pos (by omega),Int.toNat_natCast,Nat.testBit_lt_two_pow hm]
      ·rw [if_neg h2,if_neg (by omega)]
    rw [this]
   ·apply List.countP_congr
    intro m hm
    have hm : m < 2 ^ k:=by simpa using hm
    have : (fun j : Int=>if 0 ≤ j ∧ j < (k : Int) then m.testBit j.toNat else setE s k true j) = fun j : Int=>if 0 ≤ j ∧ j < ((k + 1 : Nat) : Int) then (2 ^ k + m).testBit j.toNat else s j:=by
     funext j
     by_cases h1 : 0 ≤ j ∧ j < (k : Int)
     ·rw [if_pos h1,if_pos (by omega)]
      rw [Nat.testBit_two_pow_add_gt (by omega)]
     ·rw [if_neg h1]
      unfold setE
      by_cases h2 : j = (k : Int)
      ·subst h2
       rw [if_pos rfl,if_pos (by omega),Int.toNat_natCast,Nat.testBit_two_pow_add_eq,Nat.testBit_lt_two_pow hm]
       rfl
      ·rw [if_neg h2,if_neg (by omega)]
    simp only [Function.comp_apply,this]

def zE : Int → Bool:=fun _=>false

def Tb.cnt (T : Tb) (r : Int) : Nat:=cntR (fun s=>ev T.nodes s r) T.n.toNat zE

theorem cntR_le {f : (Int → Bool) → Bool} : ∀ (k : Nat) (s : Int → Bool),cntR f k s ≤ 2 ^ k
 | 0,s=>by simp only [cntR]; cases f s <;> decide
 | k + 1,s=>by
   have h1:=cntR_le (f:=f) k (setE s k false)
   have h2:=cntR_le (f:=f) k (setE s k true)
   simp only [cntR]
   rw [Nat.pow_succ]; omega

theorem cntR_false : ∀ (k : Nat) (s : Int → Bool),cntR (fun _=>false) k s = 0
 | 0,_=>rfl
 | k + 1,s=>by simp only [cntR,cntR_false k]
theorem cntR_true : ∀ (k : Nat) (s : Int → Bool),cntR (fun _=>true) k s = 2 ^ k
 | 0,_=>rfl
 | k + 1,s=>by simp only [cntR,cntR_true k]; rw [Nat.pow_succ]; omega

theorem GoodT.cnt_node {T : Tb} (h : GoodT T) {r : Int} (hr : T.Rf r) (h2 : 2 ≤ r) : T.cnt r = (T.cnt (T.node r).2.1 + T.cnt (T.node r).2.2) / 2:=by
 obtain ⟨g,e⟩:=h.at hr h2
 obtain ⟨k1,k2,k3,k4,k5,k6⟩:=h.kid hr h2
 have hlr : T.lvl r = T.pl (T.node r).1:=if_neg (by omega)
 have hv : (((T.node r).1.toNat : Nat) : Int) = (T.node r).1:=Int.toNat_of_nonneg g.v.1
 have:=cntR_node (f:=fun s=>ev T.nodes s r) (l:=fun s=>ev T.nodes s (T.node r).2.1) (h:=fun s=>ev T.nodes s (T.node r).2.2) (v:=(T.node r).1.toNat)
  (fun s=>by rw [hv]; exact e s) (fun s b=>by rw [hv]; exact ev_set h k1 g.v (by rw [← hlr]; exact k3) s b) (fun s b=>by rw [hv]; exact ev_set h k2 g.v (by rw [← hlr]; exact k4) s b) T.n.toNat zE (by have:=g.v; omega)
 unfold Tb.cnt
 omega

abbrev encS (M : List Int) : List (AV × AV):=M.map fun k=>(.int .i64 k,.tt)

theorem alookS_in {M : List Int} {x : Int} {k : AV → Prop} (hm : x ∈ M) (h : k .tt) : ALook (encS M) (.int .i64 x) fun r=>lookK false .ff r k :=
 ⟨some .tt,⟨(.int .i64 x,.tt),List.mem_map_of_mem (f:=fun k=>(AV.int .i64 k,AV.tt)) hm,rfl,rfl⟩,h⟩

theorem alookS_out {M : List Int} {x : Int} {k : AV → Prop} (hm : x ∉ M) (h : k .ff) : ALook (encS M) (.int .i64 x) fun r=>lookK false .ff r k:=by
 refine ⟨none,?_,h⟩
 intro z hz e
 obtain ⟨y,hy,rfl⟩:=List.mem_map.1 hz
 exact hm (kvI_inj.1 e ▸ hy)

theorem aupdS {M : List Int} {x : Int} {k : List (AV × AV) → Prop} (hm : x ∉ M) (h : k (encS (M ++ [x]))) : AUpd (encS M) (.int .i64 x) .tt k:=by
 refine ⟨_,.inl ⟨fun z hz e=>?_,rfl⟩,by simpa [encS] using h⟩
 obtain ⟨y,hy,rfl⟩:=List.mem_map.1 hz
 exact hm (kvI_inj.1 e ▸ hy)

theorem encS_bnd (n : Nat) : ∀ M : List Int,bndM n (encS M) = true
 | []=>rfl
 | _ :: M=>by
   show (match true,true with | true,true=>bndM n (encS M) | _,_=>false) = true
   exact encS_bnd n M

abbrev argS (r : Int) : List AV:=[.int .i64 r,.ptr 8 [] 0,.ptr 6 [] 0,.ptr 9 [] 0,.ptr 5 [] 0]
abbrev hpS (T : Tb) (most : Int) (M : List Int) : Heap :=
 [(9,.box (.fn 135 [.ptr 8 [] 0,.ptr 6 [] 0,.ptr 9 [] 0,.ptr 5 [] 0])),(8,.box (.mp 7)),(7,.amap (.int .i64 0) (encS M)),(6,.box (.int .i64 most)),(5,.box (.ptr 0 [] 0))] ++ hpT T

theorem c_tSmallW (most : Int) (d : Nat) : ∀ (T : Tb) (M : List Int),GoodT T → T.nodes.length ≤ 1000000000 → ∀ (r : Int),T.Rf r → T.n - T.lvl r ≤ d → ((M.length + 2 ^ d : Nat) : Int) ≤ most + 1 → most ≤ 1000000 →
  ∃ M',FnH Tryz.prog 135 (argS r) (hpS T most M) (.tup []) (hpS T most M') ∧ M'.length + 1 ≤ M.length + 2 ^ d:=by
 have early : ∀ (T : Tb) (M : List Int) (r : Int),(r < 2 ∨ r ∈ M) → (M.length : Int) ≤ most → most ≤ 1000000 → FnH Tryz.prog 135 (argS r) (hpS T most M) (.tup []) (hpS T most M):=by
  intro T M r h hm hmo
  by_cases hr2 : r < 2
  ·refine FnH.intro lay mixed Tryz.func135 (by kernel_rfl) rfl (by kernel_rfl) rfl fun hok=>?_
   (try dsimp only[argC,succC]);(try dsimp only[awp]);conv=>whnf
   refine And.intro (fun _=>?_) (fun h=>absurd hr2 h)
   (try dsimp only[awp]);conv=>whnf
   refine ⟨⟨_,_,.refl _ _,?_⟩⟩
   conv=>whnf
   refine ⟨?_,rfl,by simp [nextId],.mk ?_ (by simp [idsOk])⟩
   ·all_goals exact wk
   ·repeat' first|exact rfl|exact trivial|exact wR|exact lR _|apply aI
    all_goals first | exact leM_refl _ | exact encM_bnd _ _ | exact encS_bnd _ _ | exact encI_bnd _ _ | (simp; done) | skip
  have hmem : r ∈ M:=h.resolve_left hr2
  refine FnH.intro lay mixed Tryz.func135 (by kernel_rfl) rfl (by kernel_rfl) rfl fun hok=>?_
  (try dsimp only[argC,succC]);(try dsimp only[awp]);conv=>whnf
  refine And.intro (fun h=>absurd h hr2) (fun _=>?_)
  (try dsimp only[awp]);conv=>whnf
  refine alookS_in hmem ?_
  (try dsimp only[awp]);conv=>whnf
  refine ⟨⟨_,_,.refl _ _,?_⟩⟩
  conv=>whnf
  refine ⟨?_,rfl,by simp [nextId],.mk ?_ (by simp [idsOk])⟩
  ·all_goals exact wk
  ·repeat' first|exact rfl|exact trivial|exact wR|exact lR _|apply aI
   all_goals first | exact leM_refl _ | exact encM_bnd _ _ | exact encS_bnd _ _ | exact encI_bnd _ _ | (simp; done) | skip
 induction d with
 | zero =>
   intro T M hT hn r hr hd hm hmo
   have hr2 : r < 2:=by
    apply Classical.byContradiction
    intro h
    have:=hT.kid hr (by omega)
    omega
   rw [Nat.pow_zero] at hm ⊢
   exact ⟨M,early T M r (.inl hr2) (by omega) hmo,Nat.le_refl _⟩
 | succ d ih =>
   intro T M hT hn r hr hd hm hmo
   have h2d : 0 < 2 ^ d:=Nat.pow_pos (by decide)
   have h2e : 2 ^ (d + 1) = 2 ^ d + 2 ^ d:=by rw [Nat.pow_succ]; omega
   rw [h2e] at hm ⊢
   by_cases hr2 : r < 2
   ·exact ⟨M,early T M r (.inl hr2) (by omega) hmo,by omega⟩
   by_cases hmem : r ∈ M
   ·exact ⟨M,early T M r (.inr hmem) (by omega) hmo,by omega⟩
   obtain ⟨k1,k2,k3,k4,k5,k6⟩:=hT.kid hr (by omega)
   have hr':=hr.2
   obtain ⟨M2,f1,n1⟩:=ih T (M ++ [r]) hT hn (T.node r).2.1 k1 (by omega) (by rw [List.length_append,List.length_singleton]; omega) hmo
   rw [List.length_append,List.length_singleton] at n1
   obtain ⟨M3,f2,n2⟩:=ih T M2 hT hn (T.node r).2.2 k2 (by omega) (by omega) hmo
   refine ⟨M3,?_,by omega⟩
   refine FnH.intro lay mixed Tryz.func135 (by kernel_rfl) rfl (by kernel_rfl) rfl fun hok=>?_
   (try dsimp only[argC,succC]);(try dsimp only[awp]);conv=>whnf
   refine And.intro (fun h=>absurd h hr2) (fun _=>?_)
   (try dsimp only[awp]);conv=>whnf
   refine alookS_out hmem ?_
   (try dsimp only[awp]);conv=>whnf
   refine ⟨by simp; omega,?_⟩
   (try dsimp only[awp]);conv=>whnf
   refine And.intro (fun h=>by exfalso; simp only [List.length_map] at h; omega) (fun _=>?_)
   (try dsimp only[awp]);conv=>whnf
   refine aupdS hmem ?_
   (try dsimp only[awp]);conv=>whnf
   refine ADraw.mk ⟨[false,false,true,true,false,true,true,true,true,false,false],by kernel_rfl,?_⟩
   conv=>whnf
   refine ⟨inr64 (by omega) (by omega),?_⟩
   conv=>whnf
   refine aidxD default ⟨by omega,by omega⟩ ?_
   conv=>whnf
   refine .gen _ _ f1 fun _=>?_
   (try dsimp only[awp]);conv=>whnf
   refine ADraw.mk ⟨[false,false,true,true,false,true,true,true,true,false,false],by kernel_rfl,?_⟩
   conv=>whnf
   refine ⟨inr64 (by omega) (by omega),?_⟩
   conv=>whnf
   refine aidxD default ⟨by omega,by omega⟩ ?_
   conv=>whnf
   refine .gen _ _ f2 fun _=>?_
   (try dsimp only[awp]);conv=>whnf
   refine ⟨⟨_,_,.refl _ _,?_⟩⟩
   conv=>whnf
   refine ⟨?_,rfl,by simp [nextId],.mk ?_ (by simp [idsOk])⟩
   ·all_goals exact wk
   ·repeat' first|exact rfl|exact trivial|exact wR|exact lR _|apply aI
    all_goals first | exact leM_refl _ | exact encM_bnd _ _ | exact encS_bnd _ _ | exact encI_bnd _ _ | (simp; done) | skip

theorem c_tSmall (N : Nat) (hN : N ≤ 12) (T : Tb) (hT : GoodT T) (hn : T.nodes.length ≤ 1000000000) (hTN : T.n ≤ N) (r : Int) (hr : T.Rf r) :
  FnH Tryz.prog 54 [.ptr 0 [] 0,.int .i64 r,.int .i64 4096] (hpT T) .tt (hpT T):=by
 have hlp:=hT.lvl_pos hr
 have hp : 2 ^ N ≤ 2 ^ 12:=Nat.pow_le_pow_right (by decide) hN
 obtain ⟨M',f,n⟩:=c_tSmallW 4096 N T [] hT hn r hr (by omega) (by simp only [List.length_nil]; omega) (by decide)
 simp only [List.length_nil] at n
 refine FnH.intro lay mixed Tryz.func54 (by kernel_rfl) rfl (by kernel_rfl) rfl fun hok=>?_
 (try dsimp only[argC,succC]);(try dsimp only[awp]);conv=>whnf
 refine .gen _ _ f fun _=>?_
 (try dsimp only[awp]);conv=>whnf
 refine ⟨by simp; omega,?_⟩
 (try dsimp only[awp]);conv=>whnf
 refine ⟨⟨_,_,.refl _ _,?_⟩⟩
 conv=>whnf
 refine ⟨?_,rfl,by simp [nextId],.mk ?_ (by simp [idsOk])⟩
 ·show ((encS M').length : Int) ≤ 4096
  rw [List.length_map]
  omega
 ·repeat' first|exact rfl|exact trivial|exact wR|exact lR _|apply aI
  all_goals first | exact leM_refl _ | exact encM_bnd _ _ | skip

structure DoneK (T : Tb) (D : MI) : Prop where
 zero : lookI D 0 = some 0
 one : lookI D 1 = some ((2 ^ T.n.toNat : Nat) : Int)
 all : ∀ r x,lookI D r = some x → T.Rf r → x = (T.cnt r : Int)

abbrev argK (r : Int) : List AV:=[.int .i64 r,.ptr 7 [] 0,.ptr 8 [] 0,.ptr 5 [] 0]
abbrev hpK (T : Tb) (D : MI) : Heap :=
 [(8,.box (.fn 137 [.ptr 7 [] 0,.ptr 8 [] 0,.ptr 5 [] 0])),(7,.box (.mp 6)),(6,.amap (.int .i64 0) (encI D)),(5,.box (.ptr 0 [] 0))] ++ hpT T

theorem Tb.cnt_le (T : Tb) (r : Int) : T.cnt r ≤ 2 ^ T.n.toNat:=cntR_le _ _
theorem Tb.cnt_zero (T : Tb) : T.cnt 0 = 0:=cntR_false _ _
theorem Tb.cnt_one (T : Tb) : T.cnt 1 = 2 ^ T.n.toNat:=cntR_true _ _

theorem c_tCountW (d : Nat) : ∀ (T : Tb) (D : MI),GoodT T → T.nodes.length ≤ 1000000000 → DoneK T D → ∀ (r : Int),T.Rf r → T.n - T.lvl r ≤ d →
  ∃ D',FnH Tryz.prog 137 (argK r) (hpK T D) (.int .i64 (T.cnt r : Nat)) (hpK T D') ∧ DoneK T D':=by
 have known : ∀ (T : Tb) (D : MI) (r x : Int),lookI D r = some x → FnH Tryz.prog 137 (argK r) (hpK T D) (.int .i64 x) (hpK T D):=by
  intro T D r x hl
  refine FnH.intro lay mixed Tryz.func137 (by kernel_rfl) rfl (by kernel_rfl) rfl fun hok=>?_
  (try dsimp only[argC,succC]);(try dsimp only[awp]);conv=>whnf
  refine alookI_some hl ?_
  (try dsimp only[awp]);conv=>whnf
  refine ⟨⟨_,_,.refl _ _,?_⟩⟩
  conv=>whnf
  refine ⟨?_,rfl,by simp [nextId],.mk ?_ (by simp [idsOk])⟩
  ·all_goals exact wk
  ·repeat' first|exact rfl|exact trivial|exact wR|exact lR _|apply aI
   all_goals first | exact leM_refl _ | exact encM_bnd _ _ | exact encS_bnd _ _ | exact encI_bnd _ _ | (simp; done) | skip
 induction d with
 | zero =>
   intro T D hT hn hD r hr hd
   have hr2 : r < 2:=by
    apply Classical.byContradiction
    intro h
    have:=hT.kid hr (by omega)
    omega
   have hr0:=hr.1
   rcases (by omega : r = 0 ∨ r = 1) with rfl | rfl
   ·exact ⟨D,by rw [T.cnt_zero]; exact known T D 0 0 hD.zero,hD⟩
   ·exact ⟨D,by rw [T.cnt_one]; exact known T D 1 _ hD.one,hD⟩
 | succ d ih =>
   intro T D hT hn hD r hr hd
   cases hl : lookI D r with
   | some x =>
     have:=hD.all r x hl hr
     subst this
     exact ⟨D,known T D r _ hl,hD⟩
   | none =>
     have hr2 : 2 ≤ r:=by
      apply Classical.byContradiction
      intro h
      have hr0:=hr.1
      rcases (by omega : r = 0 ∨ r = 1) with rfl | rfl
      ·rw [hD.zero] at hl; cases hl
      ·rw [hD.one] at hl; cases hl
     obtain ⟨k1,k2,k3,k4,k5,k6⟩:=hT.kid hr hr2
     have hr':=hr.2
     have hsm:=hT.small
     have hnn : T.n.toNat ≤ 60:=by unfold Tb.n; omega
     have h60 : 2 ^ T.n.toNat ≤ 2 ^ 60:=Nat.pow_le_pow_right (by decide) hnn
     have b1:=T.cnt_le (T.node r).2.1
     have b2:=T.cnt_le (T.node r).2.2
     have hc:=hT.cnt_node hr hr2
     obtain ⟨D1,f1,g1⟩:=ih T D hT hn hD (T.node r).2.1 k1 (by omega)
     obtain ⟨D2,f2,g2⟩:=ih T D1 hT hn g1 (T.node r).2.2 k2 (by omega)
     refine ⟨markI D2 r (T.cnt r : Nat),?_,⟨?_,?_,fun r' x' h' hr'=>?_⟩⟩
     ·refine FnH.intro lay mixed Tryz.func137 (by kernel_rfl) rfl (by kernel_rfl) rfl fun hok=>?_
      (try dsimp only[argC,succC]);(try dsimp only[awp]);conv=>whnf
      refine alookI_none hl ?_
      (try dsimp only[awp]);conv=>whnf
      refine ADraw.both [] [11,12,15] ⟨[false,false,true,true,false,true,true,true,true,true,false,false,false,true,true,false,true,true,true,true,true,false,true,true,true],by kernel_rfl,?_⟩
      conv=>whnf
      refine ⟨inr64 (by omega) (by omega),?_⟩
      conv=>whnf
      refine aidxD default ⟨by omega,by omega⟩ ?_
      conv=>whnf
      refine .gen _ _ f1 fun _=>?_
      conv=>whnf
      (refine aI (by (conv=>whnf)<;>exact rfl) ?_;(conv=>whnf))
      (refine aI (by (conv=>whnf)<;>exact rfl) ?_;(conv=>whnf))
      (refine aI (by (conv=>whnf)<;>exact rfl) ?_;(conv=>whnf))
      refine ⟨inr64 (by omega) (by omega),?_⟩
      conv=>whnf
      refine aidxD default ⟨by omega,by omega⟩ ?_
      conv=>whnf
      refine .gen _ _ f2 fun _=>?_
      conv=>whnf
      refine ⟨inr64 (by omega) (by omega),?_⟩
      conv=>whnf
      refine ⟨by decide,?_⟩
      have ec : Int.tdiv (((T.cnt (T.node r).2.1 : Nat) : Int) + ((T.cnt (T.node r).2.2 : Nat) : Int)) 2 = ((T.cnt r : Nat) : Int):=by
       rw [hc,Int.tdiv_eq_ediv_of_nonneg (by omega)]
       omega
      rw [ec]
      have b3:=T.cnt_le r
      refine ⟨inr64 (by omega) (by omega),?_⟩
      (try dsimp only[awp]);conv=>whnf
      refine aupdI ?_
      (try dsimp only[awp]);conv=>whnf
      refine ⟨⟨_,_,.refl _ _,?_⟩⟩
      conv=>whnf
      refine ⟨?_,rfl,by simp [nextId],.mk ?_ (by simp [idsOk])⟩
      ·all_goals exact wk
      ·repeat' first|exact rfl|exact trivial|exact wR|exact lR _|apply aI
       all_goals first | exact leM_refl _ | exact encM_bnd _ _ | exact encS_bnd _ _ | exact encI_bnd _ _ | (simp; done) | skip
     ·rw [lookI_mark,if_neg (by omega)]; exact g2.zero
     ·rw [lookI_mark,if_neg (by omega)]; exact g2.one
     ·rw [lookI_mark] at h'
      split at h'
      ·rename_i e
       subst e
       exact (Option.some.inj h').symm
      ·exact g2.all r' x' h' hr'

theorem c_tCount (T : Tb) (hT : GoodT T) (hn : T.nodes.length ≤ 1000000000) (r : Int) (hr : T.Rf r) :
  FnH Tryz.prog 56 [.ptr 0 [] 0,.int .i64 r] (hpT T) (.int .i64 (T.cnt r : Nat)) (hpT T):=by
 have hlp:=hT.lvl_pos hr
 have hsm:=hT.small
 have h60 : 2 ^ T.n.toNat ≤ 2 ^ 60:=Nat.pow_le_pow_right (by decide) (by unfold Tb.n; omega)
 obtain ⟨D',f,g⟩:=c_tCountW T.n.toNat T [(0,0),(1,((2 ^ T.n.toNat : Nat) : Int))] hT hn ⟨rfl,rfl,fun r x h hr=>by
  simp only [lookI] at h
  split at h
  ·rename_i e; subst e; rw [T.cnt_zero]; exact (Option.some.inj h).symm
  ·split at h
   ·rename_i e; subst e; rw [T.cnt_one]; exact (Option.some.inj h).symm
   ·cases h⟩ r hr (by omega)
 refine FnH.intro lay mixed Tryz.func56 (by kernel_rfl) rfl (by kernel_rfl) rfl fun hok=>?_
 (try dsimp only[argC,succC]);(try dsimp only[awp]);conv=>whnf
 refine aupdI (es:=[]) ?_
 (try dsimp only[awp]);conv=>whnf
 rw [List.length_map]
 refine ⟨by omega,?_⟩
 rw [shl_one (by omega)]
 (try dsimp only[awp]);conv=>whnf
 rw [show 2 ^ T.order.length = 2 ^ T.n.toNat from rfl]
 refine aupdI (es:=[(0,0)]) ?_
 (try dsimp only[awp]);conv=>whnf
 refine .gen _ _ f fun _=>?_
 (try dsimp only[awp]);conv=>whnf
 refine ⟨⟨_,_,.refl _ _,?_⟩⟩
 conv=>whnf
 refine ⟨?_,rfl,by simp [nextId],.mk ?_ (by simp [idsOk])⟩
 ·all_goals exact wk
 ·repeat' first|exact rfl|exact trivial|exact wR|exact lR _|apply aI
  all_goals first | exact leM_refl _ | exact encM_bnd _ _ | exact encS_bnd _ _ | exact encI_bnd _ _ | (simp; done) | skip

def lvlG (T : Tb) (ns : List Node) (r : Int) : Int:=if r < 2 then T.n else T.pl (ns.getD (r - 2).toNat default).1

structure GoodD (T : Tb) (ns : List Node) (k : Nat) (x : Node) : Prop where
 v : 0 ≤ x.1 ∧ x.1 < T.n
 lo : 0 ≤ x.2.1 ∧ x.2.1 < 2 + (k : Int)
 hi : 0 ≤ x.2.2 ∧ x.2.2 < 2 + (k : Int)
 llo : T.pl x.1 < lvlG T ns x.2.1
 lhi : T.pl x.1 < lvlG T ns x.2.2

structure ImS where
 T : Tb
 refs : List Int

def gR (refs : List Int) (r : Int) : Int:=refs.getD r.toNat 0

structure ImI (T : Tb) (ns : List Node) (k : Nat) (s : ImS) : Prop where
 good : GoodT s.T
 ext : Xt T s.T
 len : s.refs.length = 2 + ns.length
 all : ∀ r : Int,0 ≤ r → r < 2 + (k : Int) → s.T.Rf (gR s.refs r) ∧ lvlG T ns r ≤ s.T.lvl (gR s.refs r) ∧ ∀ t,ev s.T.nodes t (gR s.refs r) = ev ns t r
 size : s.T.nodes.length ≤ T.nodes.length + k

def ImR (ns : List Node) (k : Nat) (s s' : ImS) : Prop :=
 ∃ x,FnH Tryz.prog 132 [.ptr 0 [] 0,.int .i64 (ns.getD k default).1,.int .i64 (gR s.refs (ns.getD k default).2.1),.int .i64 (gR s.refs (ns.getD k default).2.2)] (hpT s.T) (.int .i64 x) (hpT s'.T) ∧ s'.refs = s.refs.set (2 + k) x

theorem gR_set {refs : List Int} {k : Nat} {x r : Int} (hk : k < refs.length) (h0 : 0 ≤ r) : gR (refs.set k x) r = if r = (k : Int) then x else gR refs r:=by
 unfold gR
 rw [List.getD_eq_getElem?_getD,List.getElem?_set]
 by_cases h : r = (k : Int)
 ·subst h
  rw [if_pos (by omega),if_pos hk,if_pos rfl]; rfl
 ·rw [if_neg (by omega),if_neg h,List.getD_eq_getElem?_getD]

theorem im_step {T : Tb} {ns : List Node} (_ : GoodT T) (hns : ∀ (k : Nat) (h : k < ns.length),GoodD T ns k ns[k]) (hS : T.nodes.length + ns.length ≤ 1000000000) {k : Nat} (hk : k < ns.length) {s : ImS} (h : ImI T ns k s) :
  ∃ s',ImI T ns (k + 1) s' ∧ ImR ns k s s':=by
 have g:=hns k hk
 have ex : ns.getD k default = ns[k]:=by rw [List.getD_eq_getElem?_getD,List.getElem?_eq_getElem hk]; rfl
 obtain ⟨a1,a2,a3⟩:=h.all _ g.lo.1 g.lo.2
 obtain ⟨b1,b2,b3⟩:=h.all _ g.hi.1 g.hi.2
 have m:=make_good h.good (v:=ns[k].1) (lo:=gR s.refs ns[k].2.1) (hi:=gR s.refs ns[k].2.2) (by rw [h.ext.n]; exact g.v) a1 b1 (by rw [h.ext.pl]; have:=g.llo; omega) (by rw [h.ext.pl]; have:=g.lhi; omega)
 have hsz:=h.size
 have q:=c_tMake s.T ns[k].1 (gR s.refs ns[k].2.1) (gR s.refs ns[k].2.2) (by omega)
 generalize s.T.make ns[k].1 (gR s.refs ns[k].2.1) (gR s.refs ns[k].2.2) = w at *
 obtain ⟨T',x⟩:=w
 obtain ⟨m1,m2,m3,m4,m5,m6,m7⟩:=m
 dsimp only at m1 m2 m3 m4 m5 m6 m7 q
 have hlen:=h.len
 refine ⟨⟨T',s.refs.set (2 + k) x⟩,⟨m1,h.ext.trans m2,by show (s.refs.set (2 + k) x).length = _; rw [List.length_set]; exact hlen,fun r h0 h1=>?_,by show T'.nodes.length ≤ _; omega⟩,x,by rw [ex]; exact q,rfl⟩
 show T'.Rf (gR (s.refs.set (2 + k) x) r) ∧ lvlG T ns r ≤ T'.lvl (gR (s.refs.set (2 + k) x) r) ∧ ∀ t,ev T'.nodes t (gR (s.refs.set (2 + k) x) r) = ev ns t r
 rw [gR_set (by omega) h0]
 by_cases hr : r = ((2 + k : Nat) : Int)
 ·rw [if_pos hr]
  have e1 : (ns.getD (r - 2).toNat default) = ns[k]:=by rw [show (r - 2).toNat = k by omega,ex]
  refine ⟨m3,?_,fun t=>?_⟩
  ·unfold lvlG
   rw [if_neg (by omega),e1,← h.ext.pl]; exact m4
  ·have:=ev_node ns t hk g.lo.2 g.hi.2
   rw [show r = 2 + (k : Int) by omega,this,m7 t,a3 t,b3 t]
 ·rw [if_neg hr]
  obtain ⟨c1,c2,c3⟩:=h.all r h0 (by omega)
  exact ⟨m2.rf c1,by rw [m2.lvl c1]; exact c2,fun t=>by rw [m2.ev c1]; exact c3 t⟩

abbrev diaAV (order : List Int) (ns : List Node) (root : Int) : AV:=.ag [.sl 1 (order.map (.int .i64)) .no,.sl 3 (ns.map nAV) .no,.int .i64 root]

theorem c_tImport (T : Tb) (order : List Int) (ns : List Node) (root : Int) (hT : GoodT T) (hns : ∀ (k : Nat) (h : k < ns.length),GoodD T ns k ns[k]) (hS : T.nodes.length + ns.length ≤ 1000000000) (hr : 0 ≤ root ∧ root < 2 + (ns.length : Int)) :
  ∃ T' x,FnH Tryz.prog 52 [.ptr 0 [] 0,diaAV order ns root] (hpT T) (.int .i64 x) (hpT T') ∧ GoodT T' ∧ Xt T T' ∧ T'.Rf x ∧ (∀ t,ev T'.nodes t x = ev ns t root) ∧ T'.nodes.length ≤ T.nodes.length + ns.length:=by
 obtain ⟨f,f0,f1,f2⟩:=chain_ex (fun k s=>ImI T ns k s) (fun k s s'=>ImR ns k s s') ns.length ⟨T,0 :: 1 :: List.replicate ns.length 0⟩
  ⟨hT,.refl _,by simp; omega,fun r h0 h1=>by
   rcases (by omega : r = 0 ∨ r = 1) with rfl | rfl
   ·exact ⟨.zero T,Int.le_refl _,fun t=>rfl⟩
   ·exact ⟨.one T,Int.le_refl _,fun t=>rfl⟩,Nat.le_refl _⟩
  (fun k s hk h=>im_step hT hns hS hk h)
 have l:=f1 ns.length (Nat.le_refl _)
 obtain ⟨r1,r2,r3⟩:=l.all root hr.1 hr.2
 refine ⟨(f ns.length).T,gR (f ns.length).refs root,?_,l.good,l.ext,r1,r3,l.size⟩
 have hll:=l.len
 refine FnH.intro lay mixed Tryz.func52 (by kernel_rfl) rfl (by kernel_rfl) rfl fun hok=>?_
 (try dsimp only[argC,succC]);(try dsimp only[awp]);conv=>whnf
 rw [List.length_map]
 refine ⟨inr64 (by omega) (by omega),?_⟩
 (try dsimp only[awp]);conv=>whnf
 rw [show (2 : Int) + (ns.length : Int) = ((2 + ns.length : Nat) : Int) by omega]
 refine ⟨⟨by omega,Int.le_refl _,by show ((2 + ns.length : Nat) : Int) * ((8 : Nat) : Int) ≤ 281474976710656; omega,by omega⟩,.wr ?_⟩
 rw [Int.toNat_natCast]
 (try dsimp only[awp]);conv=>whnf
 refine ⟨⟨by omega,by omega⟩,?_⟩
 (try dsimp only[awp]);conv=>whnf
 refine ⟨by simp; omega,rfl,?_⟩
 (try dsimp only[awp]);conv=>whnf
 rw [show (List.replicate (2 + ns.length) (AV.int IntKind.i64 0)).set (0 + Int.toNat 1) (strip (AV.int IntKind.i64 1)) = (f 0).refs.map (.int .i64) from by
  rw [f0,Nat.add_comm 2]
  simp [List.replicate_succ,strip]]
 refine LoopE.of <| (LoopSpec.inv (.refl _ _) (fun k : Nat=>k ≤ ns.length) (fun k=>[(18,.int .i64 k)]) (fun k=>(6,.arr 1 (2 + ns.length) ((f k).refs.map (.int .i64))) :: (5,.box (diaAV order ns root)) :: hpT (f k).T) (fun k=>ns.length - k) 0 (Nat.zero_le _) ?_ ?_ ?_)
 ·exact fun _=>rfl
 ·have hT0 : T = (f 0).T:=by rw [f0]
  refine ⟨?_,.mk ?_ (by simp [idsOk])⟩
  ·all_goals exact wk
  ·rw [← hT0]
   repeat' first|exact rfl|exact trivial|exact wR|exact lR _|apply aI
   all_goals first | exact leM_refl _ | exact encM_bnd _ _ | skip
 intro k hk _
 have lk:=f1 k hk
 have lkl:=lk.len
 (try dsimp only[awp]);conv=>whnf
 refine And.intro (fun h=>?_) (fun h=>?_)
 ·have hlt : k < ns.length:=by simpa using h
  obtain ⟨x,g1,g2⟩:=f2 k hlt
  have gk:=hns k hlt
  have ex : ns.getD k default = ns[k]:=by rw [List.getD_eq_getElem?_getD,List.getElem?_eq_getElem hlt]; rfl
  rw [ex] at g1
  (try dsimp only[awp]);conv=>whnf
  refine aidx hlt ?_
  (try dsimp only[awp]);conv=>whnf
  refine ADraw.mk ⟨[true,true,true,true,true,false,true,true,false,true,false,true,true,false,true,false,false,true,false],by kernel_rfl,?_⟩
  conv=>whnf
  refine ⟨inr64 (by omega) (by omega),?_⟩
  conv=>whnf
  refine ⟨⟨gk.lo.1,by have:=gk.lo.2; omega⟩,?_⟩
  conv=>whnf
  rw [Nat.zero_add]
  refine aidxD 0 ⟨by omega,by have:=gk.lo.2; have:=gk.lo.1; omega⟩ ?_
  conv=>whnf
  refine ⟨rfl,?_⟩
  conv=>whnf
  refine ⟨⟨gk.hi.1,by have:=gk.hi.2; omega⟩,?_⟩
  conv=>whnf
  rw [Nat.zero_add]
  refine aidxD 0 ⟨by omega,by have:=gk.hi.2; have:=gk.hi.1; omega⟩ ?_
  conv=>whnf
  refine ⟨rfl,?_⟩
  conv=>whnf
  rw [Int.toNat_natCast,Int.toNat_natCast]
  refine .gen _ _ (frT [(7,_),(6,_),(5,_)] (by simp) g1 (fun _=>rfl) (fun _=>rfl) rfl) fun _=>?_
  conv=>whnf
  refine ⟨⟨by omega,by omega⟩,?_⟩
  conv=>whnf
  refine ⟨by rw [List.length_map]; omega,rfl,?_⟩
  (try dsimp only[awp]);conv=>whnf
  rw [show 0 + (2 + (k : Int)).toNat = 2 + k by omega]
  refine zA ?_;conv=>whnf
  refine ⟨k + 1,?_,?_,?_⟩
  ·exact hlt
  ·rw [g2]
   refine ⟨?_,.mk ?_ (by simp [idsOk])⟩
   ·all_goals exact wk
   ·repeat' first|exact rfl|exact trivial|exact wR|exact lR _|apply aI
    all_goals first | exact leM_refl _ | exact encM_bnd _ _ | (rw [List.map_set]; exact leRL_refl _) | skip
  ·omega
 ·have hk : k = ns.length:=by (have : ¬ k < ns.length:=by simpa using h); omega
  subst hk
  (try dsimp only[awp]);conv=>whnf
  refine ⟨⟨hr.1,by have:=hr.2; omega⟩,?_⟩
  (try dsimp only[awp]);conv=>whnf
  rw [Nat.zero_add]
  refine aidxD 0 ⟨by omega,by have:=hr.1; have:=hr.2; omega⟩ ?_
  (try dsimp only[awp]);conv=>whnf
  refine ⟨rfl,?_⟩
  (try dsimp only[awp]);conv=>whnf
  rw [Int.toNat_natCast]
  refine ⟨⟨_,_,.refl _ _,?_⟩⟩
  conv=>whnf
  refine ⟨?_,rfl,by simp [nextId],.mk ?_ (by simp [idsOk])⟩
  ·all_goals exact wk
  ·repeat' first|exact rfl|exact trivial|exact wR|exact lR _|apply aI
   all_goals first | exact leM_refl _ | exact encM_bnd _ _ | (simp; done) | skip

theorem lvlD_app {T : Tb} {ns l : List Node} {x : Int} (h : x < 2 + (ns.length : Int)) : lvlG T (ns ++ l) x = lvlG T ns x:=by
 unfold lvlG
 split
 ·rfl
 ·rw [List.getD_eq_getElem?_getD,List.getD_eq_getElem?_getD,List.getElem?_append_left (by omega)]

theorem GoodD.app {T : Tb} {ns l : List Node} {k : Nat} {x : Node} (h : GoodD T ns k x) (hk : k ≤ ns.length) : GoodD T (ns ++ l) k x :=
 ⟨h.v,h.lo,h.hi,by rw [lvlD_app (by have:=h.lo.2; omega)]; exact h.llo,by rw [lvlD_app (by have:=h.hi.2; omega)]; exact h.lhi⟩

structure ExR (T : Tb) (ns : List Node) (r x : Int) : Prop where
 lo : 0 ≤ x
 hi : x < 2 + (ns.length : Int)
 lvl : lvlG T ns x = T.lvl r
 val : ∀ t,ev ns t x = ev T.nodes t r

theorem ExR.app {T : Tb} {ns l : List Node} {r x : Int} (h : ExR T ns r x) : ExR T (ns ++ l) r x :=
 ⟨h.lo,by have:=h.hi; rw [List.length_append]; omega,by rw [lvlD_app h.hi]; exact h.lvl,fun t=>by rw [ev_ext _ _ _ h.hi]; exact h.val t⟩

structure ExI (T : Tb) (D : MI) (ns : List Node) : Prop where
 zero : ∃ x,lookI D 0 = some x
 one : ∃ x,lookI D 1 = some x
 all : ∀ r x,lookI D r = some x → T.Rf r → ExR T ns r x
 nodes : ∀ (k : Nat) (h : k < ns.length),GoodD T ns k ns[k]

abbrev argE (r : Int) : List AV:=[.int .i64 r,.ptr 9 [] 0,.ptr 5 [] 0,.ptr 10 [] 0,.ptr 7 [] 0]
abbrev zDia : AV:=.ag [.nils,.nils,.int .i64 0]
abbrev hpE (T : Tb) (D : MI) (ns : List Node) : Heap :=
 [(11,.tok 3 ns.length),(10,.box (.fn 229 [.ptr 9 [] 0,.ptr 5 [] 0,.ptr 10 [] 0,.ptr 7 [] 0])),(9,.box (.mp 8)),(8,.amap (.int .i64 0) (encI D)),
  (7,.box (.ag [.sl 1 (T.order.map (.int .i64)) .no,.sl 3 (ns.map nAV) (.own 11),.int .i64 0])),(6,.box zDia),(5,.box (.ptr 0 [] 0))] ++ hpT T

theorem bndE (T : Tb) (D : MI) (ns : List Node) : BndH 12 (hpE T D ns):=⟨rfl,rfl,rfl,encI_bnd _ _,rfl,rfl,rfl,bndT T 12 (by decide)⟩

theorem alookI_get {es : MI} {x r : Int} {k : AV → Prop} (hl : lookI es x = some r) (h : k (.int .i64 r)) : ALook (encI es) (.int .i64 x) fun r=>lookK false (.int .i64 0) r k:=by
 refine ⟨some (.int .i64 r),?_,h⟩
 induction es with
 | nil=>simp [lookI] at hl
 | cons e es ih =>
   obtain ⟨y,v⟩:=e
   simp only [lookI] at hl
   by_cases hy : y = x
   ·subst hy
    rw [if_pos rfl] at hl
    obtain rfl:=Option.some.inj hl
    exact ⟨_,List.mem_cons_self,rfl,rfl⟩
   ·rw [if_neg hy] at hl
    obtain ⟨z,hz,h3,h4⟩:=ih hl
    exact ⟨z,by simp only [encI,List.map_cons,List.mem_cons]; exact .inr hz,h3,h4⟩

theorem aupdI2 {es : MI} {x v w : Int} {k : List (AV × AV) → Prop} (e : w = v) (h : k (encI (markI es x v))) : AUpd (encI es) (.int .i64 x) (.int .i64 w) k:=by subst e; exact aupdI h

theorem c_tExportW (T : Tb) (hT : GoodT T) (hn : T.nodes.length ≤ 1000000000) (d : Nat) : ∀ (D : MI) (ns : List Node),ExI T D ns → ∀ (r : Int),T.Rf r → T.n - T.lvl r ≤ d → ns.length + 2 ^ d ≤ 1000000000 →
  ∃ D' ns' x,FnH Tryz.prog 229 (argE r) (hpE T D ns) (.int .i64 x) (hpE T D' ns') ∧ ExI T D' ns' ∧ (∃ l,ns' = ns ++ l) ∧ ExR T ns' r x ∧ ns'.length + 1 ≤ ns.length + 2 ^ d:=by
 have known : ∀ (D : MI) (ns : List Node) (r x : Int),lookI D r = some x → FnH Tryz.prog 229 (argE r) (hpE T D ns) (.int .i64 x) (hpE T D ns):=by
  intro D ns r x hl
  refine FnH.intro lay mixed Tryz.func229 (by kernel_rfl) rfl (by kernel_rfl) rfl fun hok=>?_
  (try dsimp only[argC,succC]);(try dsimp only[awp]);conv=>whnf
  refine alookI_some hl ?_
  (try dsimp only[awp]);conv=>whnf
  refine ⟨⟨_,_,.refl _ _,?_⟩⟩
  conv=>whnf
  refine ⟨?_,rfl,by simp [nextId],.mk ?_ (by simp [idsOk])⟩
  ·all_goals exact wk
  ·repeat' first|exact rfl|exact trivial|exact wR|exact lR _|apply aI
   all_goals first | exact leM_refl _ | exact encM_bnd _ _ | exact encS_bnd _ _ | exact encI_bnd _ _ | (show leRL _ (List.map _ (_ ++ [_])); rw [List.map_append]; exact leRL_refl _) | (simp; done) | skip
 have h2d : ∀ d : Nat,0 < 2 ^ d:=fun d=>Nat.pow_pos (by decide)
 induction d with
 | zero =>
   intro D ns hD r hr hd hS
   have hr2 : r < 2:=by
    apply Classical.byContradiction
    intro h
    have:=hT.kid hr (by omega)
    omega
   have hr0:=hr.1
   obtain ⟨x,hl⟩ : ∃ x,lookI D r = some x:=by
    rcases (by omega : r = 0 ∨ r = 1) with rfl | rfl
    ·exact hD.zero
    ·exact hD.one
   exact ⟨D,ns,x,known D ns r x hl,hD,⟨[],by simp⟩,hD.all r x hl hr,Nat.le_refl _⟩
 | succ d ih =>
   intro D ns hD r hr hd hS
   have h2e : 2 ^ (d + 1) = 2 ^ d + 2 ^ d:=by rw [Nat.pow_succ]; omega
   have hp:=h2d d
   rw [h2e] at hS ⊢
   cases hl : lookI D r with
   | some x=>exact ⟨D,ns,x,known D ns r x hl,hD,⟨[],by simp⟩,hD.all r x hl hr,by omega⟩
   | none =>
     have hr2 : 2 ≤ r:=by
      apply Classical.byContradiction
      intro h
      have hr0:=hr.1
      rcases (by omega : r = 0 ∨ r = 1) with rfl | rfl
      ·obtain ⟨x,h⟩:=hD.zero; rw [h] at hl; cases hl
      ·obtain ⟨x,h⟩:=hD.one; rw [h] at hl; cases hl
     obtain ⟨k1,k2,k3,k4,k5,k6⟩:=hT.kid hr hr2
     obtain ⟨gn,ge⟩:=hT.at hr hr2
     have hr':=hr.2
     have hlr : T.lvl r = T.pl (T.node r).1:=if_neg (by omega)
     obtain ⟨D1,n1,x1,f1,i1,⟨l1,e1⟩,p1,s1⟩:=ih D ns hD (T.node r).2.1 k1 (by omega) (by omega)
     obtain ⟨D2,n2,x2,f2,i2,⟨l2,e2⟩,p2,s2⟩:=ih D1 n1 i1 (T.node r).2.2 k2 (by omega) (by omega)
     have p1' : ExR T n2 (T.node r).2.1 x1:=by rw [e2]; exact p1.app
     have hnew : ∀ h : n2.length < (n2 ++ [((T.node r).1,x1,x2)]).length,(n2 ++ [((T.node r).1,x1,x2)])[n2.length] = ((T.node r).1,x1,x2):=fun h=>by simp
     have gnew : GoodD T (n2 ++ [((T.node r).1,x1,x2)]) n2.length ((T.node r).1,x1,x2) :=
      GoodD.app ⟨gn.v,⟨p1'.lo,p1'.hi⟩,⟨p2.lo,p2.hi⟩,by show T.pl (T.node r).1 < lvlG T n2 x1; rw [p1'.lvl,← hlr]; exact k3,by show T.pl (T.node r).1 < lvlG T n2 x2; rw [p2.lvl,← hlr]; exact k4⟩ (Nat.le_refl _)
     have pnew : ExR T (n2 ++ [((T.node r).1,x1,x2)]) r (2 + (n2.length : Int)):=by
      refine ⟨by omega,by simp; omega,?_,fun t=>?_⟩
      ·unfold lvlG
       rw [if_neg (by omega),show (2 + (n2.length : Int) - 2).toNat = n2.length by omega,List.getD_eq_getElem?_getD,List.getElem?_eq_getElem (by simp),hnew,hlr]; rfl
      ·have:=ev_node (n2 ++ [((T.node r).1,x1,x2)]) t (k:=n2.length) (by simp) (by rw [hnew]; exact p1'.hi) (by rw [hnew]; exact p2.hi)
       rw [hnew] at this
       rw [this,ev_ext _ _ _ p1'.hi,ev_ext _ _ _ p2.hi,p1'.val,p2.val,ge t]
     refine ⟨markI D2 r (2 + (n2.length : Int)),n2 ++ [((T.node r).1,x1,x2)],2 + (n2.length : Int),?_,⟨?_,?_,fun r' x' h' hr''=>?_,fun k hk=>?_⟩,⟨l1 ++ l2 ++ [((T.node r).1,x1,x2)],by rw [e2,e1]; simp⟩,pnew,by simp; omega⟩
     ·have t1:=fun K : AV=>FnH.top 12 [(12,.box K)] (by simp) f1 ⟨rfl,rfl⟩ (bndE _ _ _) (bndE _ _ _) ⟨rfl,rfl⟩ ⟨rfl,rfl⟩
      have t2:=fun K : AV=>FnH.top 12 [(12,.box K)] (by simp) f2 ⟨rfl,rfl⟩ (bndE _ _ _) (bndE _ _ _) ⟨rfl,rfl⟩ ⟨rfl,rfl⟩
      refine FnH.intro lay mixed Tryz.func229 (by kernel_rfl) rfl (by kernel_rfl) rfl fun hok=>?_
      (try dsimp only[argC,succC]);(try dsimp only[awp]);conv=>whnf
      refine alookI_none hl ?_
      (try dsimp only[awp]);conv=>whnf
      refine ⟨inr64 (by omega) (by omega),?_⟩
      (try dsimp only[awp]);conv=>whnf
      refine aidxD default ⟨by omega,by omega⟩ ?_
      (try dsimp only[awp]);conv=>whnf
      refine .gen _ _ (t1 _) fun _=>?_
      (try dsimp only[awp]);conv=>whnf
      refine .gen _ _ (t2 _) fun _=>?_
      (try dsimp only[awp]);conv=>whnf
      refine ⟨by rw [List.length_map],.mk (by simp [maxL]; omega) (by simp; omega) ?_⟩
      (try dsimp only[awp]);conv=>whnf
      refine ⟨inr64 (by simp; omega) (by simp; omega),?_⟩
      (try dsimp only[awp]);conv=>whnf
      refine aupdI2 (v:=2 + (n2.length : Int)) (by simp; omega) ?_
      (try dsimp only[awp]);conv=>whnf
      refine alookI_get (r:=2 + (n2.length : Int)) (by rw [lookI_mark,if_pos rfl]) ?_
      (try dsimp only[awp]);conv=>whnf
      refine ⟨⟨_,_,.refl _ _,?_⟩⟩
      conv=>whnf
      refine ⟨?_,rfl,by simp [nextId],.mk ?_ (by simp [idsOk])⟩
      ·all_goals exact wk
      ·repeat' first|exact rfl|exact trivial|exact wR|exact lR _|apply aI
       all_goals first | exact leM_refl _ | exact encM_bnd _ _ | exact encS_bnd _ _ | exact encI_bnd _ _ | (show leRL _ (List.map _ (_ ++ [_])); rw [List.map_append]; exact leRL_refl _) | (simp; done) | skip
     ·rw [lookI_mark,if_neg (by omega)]; exact i2.zero
     ·rw [lookI_mark,if_neg (by omega)]; exact i2.one
     ·rw [lookI_mark] at h'
      split at h'
      ·rename_i e
       subst e
       obtain rfl:=Option.some.inj h'
       exact pnew
      ·exact (i2.all r' x' h' hr'').app
     ·by_cases hkl : k < n2.length
      ·rw [List.getElem_append_left hkl]; exact (i2.nodes k hkl).app (by omega)
      ·obtain rfl : k = n2.length:=by simp at hk; omega
       rw [hnew]; exact gnew

theorem c_tExport (T : Tb) (hT : GoodT T) (hn : T.nodes.length ≤ 1000000000) (hS : 2 ^ T.n.toNat ≤ 1000000000) (r : Int) (hr : T.Rf r) :
  ∃ ns x,FnH Tryz.prog 131 [.ptr 0 [] 0,.int .i64 r] (hpT T) (diaAV T.order ns x) (hpT T) ∧ (∀ (k : Nat) (h : k < ns.length),GoodD T ns k ns[k]) ∧ 0 ≤ x ∧ x < 2 + (ns.length : Int) ∧ (∀ t,ev ns t x = ev T.nodes t r) ∧ ns.length ≤ 2 ^ T.n.toNat:=by
 have hlp:=hT.lvl_pos hr
 have hsm:=hT.small
 have i0 : ExI T [(0,0),(1,1)] []:=by
  refine ⟨⟨0,rfl⟩,⟨1,rfl⟩,fun r x h hr=>?_,fun k hk=>absurd hk (Nat.not_lt_zero _)⟩
  simp only [lookI] at h
  split at h
  ·rename_i e; subst e
   obtain rfl:=Option.some.inj h
   exact ⟨by omega,by omega,rfl,fun t=>rfl⟩
  ·split at h
   ·rename_i e; subst e
    obtain rfl:=Option.some.inj h
    exact ⟨by omega,by omega,rfl,fun t=>rfl⟩
   ·cases h
 obtain ⟨D',ns',x,f,g,⟨l,e⟩,p,n⟩:=c_tExportW T hT hn T.n.toNat [(0,0),(1,1)] [] i0 r hr (by omega) (by simpa using hS)
 simp only [List.length_nil,Nat.zero_add] at n
 refine ⟨ns',x,?_,g.nodes,p.lo,p.hi,p.val,by omega⟩
 refine FnH.intro lay mixed Tryz.func131 (by kernel_rfl) rfl (by kernel_rfl) rfl fun hok=>?_
 (try dsimp only[argC,succC]);(try dsimp only[awp]);conv=>whnf
 refine .pure (by simp [maxL]; omega) (by simp; omega) ?_
 (try dsimp only[awp]);conv=>whnf
 refine aupdI (es:=[]) ?_
 (try dsimp only[awp]);conv=>whnf
 refine aupdI (es:=[(0,0)]) ?_
 (try dsimp only[awp]);conv=>whnf
 refine .gen _ _ (FnH.pre (.growF 7 [1] 3 [] (.ag [.sl 1 (T.order.map (.int .i64)) .no,.nils,.int .i64 0]) .nils _ rfl rfl (.inl ⟨rfl,rfl⟩) rfl (.refl _ _)) f) fun _=>?_
 (try dsimp only[awp]);conv=>whnf
 refine ⟨⟨_,_,.refl _ _,?_⟩⟩
 conv=>whnf
 refine ⟨?_,rfl,by simp [nextId],.mk ?_ (by simp [idsOk])⟩
 ·all_goals exact wk
 ·repeat' first|exact rfl|exact trivial|exact wR|exact lR _|apply aI
  all_goals first | exact leM_refl _ | exact encM_bnd _ _ | exact encS_bnd _ _ | exact encI_bnd _ _ | (show leRL _ (List.map _ (_ ++ [_])); rw [List.map_append]; exact leRL_refl _) | (simp; done) | skip

structure NdOk (v : Int) (i : Nat) (x : Nd) : Prop where
 kind : 0 ≤ x.kind ∧ x.kind ≤ 5
 num : if x.kind = 0 then x.args.length = 0 else if x.kind = 1 then x.args.length = 1 else 1 ≤ x.args.length ∧ x.args.length ≤ 16
 args : ∀ a ∈ x.args,0 ≤ a ∧ a < v + i
 k : if x.kind = 0 then x.k = 0 ∨ x.k = 1 else if x.kind = 4 then 1 ≤ x.k ∧ x.k ≤ x.args.length else x.k = 0

structure FOk (f : Fo) : Prop where
 vars : 0 ≤ f.vars ∧ f.vars ≤ 24
 len : f.nodes.length ≤ 128
 nodes : ∀ (i : Nat) (h : i < f.nodes.length),NdOk f.vars i f.nodes[i]
 top : 0 ≤ f.top ∧ f.top < f.vars + f.nodes.length

theorem c_farguments (x : Nd) (v : Int) (i : Nat) (h : NdOk v i x) : FnH Tryz.prog 250 [.int .i64 x.kind,.int .i64 x.args.length] [] .tt []:=by
 have h2:=h.num
 refine FnH.intro lay mixed Tryz.func250 (by kernel_rfl) rfl (by kernel_rfl) rfl fun hok=>?_
 (try dsimp only[argC,succC]);(try dsimp only[awp]);conv=>whnf
 refine And.intro (fun g=>?_) (fun g=>?_)
 ·rw [if_pos g] at h2
  (try dsimp only[awp]);conv=>whnf
  refine fM ?_;(conv=>whnf);refine ⟨?_,rfl⟩;conv=>whnf
  show (x.args.length : Int) = 0
  omega
 rw [if_neg g] at h2
 (try dsimp only[awp]);conv=>whnf
 refine And.intro (fun g=>?_) (fun g=>?_)
 ·rw [if_pos g] at h2
  (try dsimp only[awp]);conv=>whnf
  refine fM ?_;(conv=>whnf);refine ⟨?_,rfl⟩;conv=>whnf
  show (x.args.length : Int) = 1
  omega
 rw [if_neg g] at h2
 (try dsimp only[awp]);conv=>whnf
 refine And.intro (fun g=>?_) (fun g=>by exfalso; omega)
 (try dsimp only[awp]);conv=>whnf
 refine fM ?_;(conv=>whnf);refine ⟨?_,rfl⟩;conv=>whnf
 show (x.args.length : Int) ≤ 16
 omega

theorem c_fcheckNode (f : Fo) (hv : 0 ≤ f.vars ∧ f.vars ≤ 24) (i : Nat) (hi : i < f.nodes.length) (hl : f.nodes.length ≤ 128) (h : NdOk f.vars i f.nodes[i]) : FnH Tryz.prog 186 [f.av,.int .i64 i] [] .nilI []:=by
 have ca:=c_farguments _ _ _ h
 obtain ⟨h1,h2,h3,h4⟩:=h
 have hal : f.nodes[i].args.length ≤ 16:=by
  split at h2
  ·omega
  ·split at h2 <;> omega
 refine FnH.intro lay mixed Tryz.func186 (by kernel_rfl) rfl (by kernel_rfl) rfl fun hok=>?_
 (try dsimp only[argC,succC]);(try dsimp only[awp]);conv=>whnf
 refine aidx hi ?_
 generalize f.nodes[i] = x at *
 (try dsimp only[awp]);conv=>whnf
 refine And.intro (fun g=>by exfalso; omega) (fun g=>?_)
 (try dsimp only[awp]);conv=>whnf
 refine And.intro (fun g=>by exfalso; omega) (fun g=>?_)
 (try dsimp only[awp]);conv=>whnf
 rw [show (((x.args.map (AV.int .i64)).length : Nat) : Int) = (x.args.length : Int) by simp]
 refine .pure _ _ ?_ ⟨rfl,rfl⟩ ca fun _=>?_
 ·all_goals exact wk
 (try dsimp only[awp]);conv=>whnf
 refine LoopE.of <| LoopSpec.inv (.refl _ _) (fun (j : Nat)=>j ≤ x.args.length) (fun (j : Nat)=>[(33,.int .i64 j)]) (fun _=>_) (fun (j : Nat)=>x.args.length - j) 0 ?_ (fun _=>rfl) ?_ ?_
 ·exact Nat.zero_le _
 ·all_goals exact wk
 intro j hj _
 (try dsimp only[awp]);conv=>whnf
 refine And.intro (fun g1=>?_) (fun g1=>?_)
 ·have hjl : j < x.args.length:=by simpa using g1
  have ha:=h3 _ (List.getElem_mem hjl)
  (try dsimp only[awp]);conv=>whnf
  refine aidx hjl ?_
  generalize x.args[j] = a at *
  (try dsimp only[awp]);conv=>whnf
  refine And.intro (fun g=>by exfalso; omega) (fun g=>?_)
  (try dsimp only[awp]);conv=>whnf
  refine zA ?_;conv=>whnf
  refine And.intro (fun g=>by exfalso; omega) (fun g=>?_)
  (try dsimp only[awp]);conv=>whnf
  refine zA ?_;conv=>whnf
  refine ⟨j + 1,?_,?_,?_⟩
  ·exact hjl
  ·all_goals exact wk
  ·omega
 (try dsimp only[awp]);conv=>whnf
 refine And.intro (fun g=>?_) (fun g=>?_)
 ·rw [if_pos g] at h4
  (try dsimp only[awp]);conv=>whnf
  refine And.intro (fun g=>?_) (fun g=>?_)
  ·(try dsimp only[awp]);conv=>whnf
   refine And.intro (fun g=>by exfalso; omega) (fun g=>?_)
   (try dsimp only[awp]);conv=>whnf
   refine fM ?_;(conv=>whnf);refine ⟨?_,rfl⟩;conv=>whnf
   all_goals exact wk
  ·(try dsimp only[awp]);conv=>whnf
   refine fM ?_;(conv=>whnf);refine ⟨?_,rfl⟩;conv=>whnf
   all_goals exact wk
 rw [if_neg g] at h4
 (try dsimp only[awp]);conv=>whnf
 refine And.intro (fun g=>?_) (fun g=>?_)
 ·rw [if_pos g] at h4
  (try dsimp only[awp]);conv=>whnf
  refine And.intro (fun g=>by exfalso; omega) (fun g=>?_)
  (try dsimp only[awp]);conv=>whnf
  refine And.intro (fun g=>by exfalso; simp at g; omega) (fun g=>?_)
  (try dsimp only[awp]);conv=>whnf
  refine fM ?_;(conv=>whnf);refine ⟨?_,rfl⟩;conv=>whnf
  all_goals exact wk
 rw [if_neg g] at h4
 (try dsimp only[awp]);conv=>whnf
 refine And.intro (fun g=>by exfalso; omega) (fun g=>?_)
 (try dsimp only[awp]);conv=>whnf
 refine fM ?_;(conv=>whnf);refine ⟨?_,rfl⟩;conv=>whnf
 all_goals exact wk

theorem c_fValid (f : Fo) (h : FOk f) : FnH Tryz.prog 187 [f.av,.int .i64 f.top] [] .tt []:=by
 obtain ⟨h1,h2,_,h4⟩:=h
 refine FnH.intro lay mixed Tryz.func187 (by kernel_rfl) rfl (by kernel_rfl) rfl fun hok=>?_
 (try dsimp only[argC,succC]);(try dsimp only[awp]);conv=>whnf
 refine And.intro (fun _=>?_) (fun g=>by exfalso; omega)
 (try dsimp only[awp]);conv=>whnf
 refine And.intro (fun _=>?_) (fun g=>by exfalso; omega)
 (try dsimp only[awp]);conv=>whnf
 refine And.intro (fun g=>?_) (fun g=>?_)
 ·(try dsimp only[awp]);conv=>whnf
  refine fM ?_;(conv=>whnf);refine ⟨?_,rfl⟩;conv=>whnf
  all_goals exact wk
 ·(try dsimp only[awp]);conv=>whnf
  refine zA ?_;conv=>whnf
  refine fM ?_;(conv=>whnf);refine ⟨?_,rfl⟩;conv=>whnf
  show f.top - f.vars < (((f.nodes.map Nd.av).length : Nat) : Int)
  simp
  omega

theorem c_fCheck (f : Fo) (h : FOk f) : FnH Tryz.prog 98 [f.av] [] .nilI []:=by
 have cv:=c_fValid f h
 obtain ⟨h1,h2,h3,h4⟩:=h
 have cn:=fun i hi=>c_fcheckNode f h1 i hi h2 (h3 i hi)
 refine FnH.intro lay mixed Tryz.func98 (by kernel_rfl) rfl (by kernel_rfl) rfl fun hok=>?_
 (try dsimp only[argC,succC]);(try dsimp only[awp]);conv=>whnf
 refine And.intro (fun g=>by exfalso; omega) (fun g=>?_)
 (try dsimp only[awp]);conv=>whnf
 refine And.intro (fun g=>by exfalso; omega) (fun g=>?_)
 (try dsimp only[awp]);conv=>whnf
 refine And.intro (fun g=>by exfalso; simp at g; omega) (fun g=>?_)
 (try dsimp only[awp]);conv=>whnf
 refine LoopE.of <| LoopSpec.inv (.refl _ _) (fun (i : Nat)=>i ≤ f.nodes.length) (fun (i : Nat)=>[(22,.int .i64 i)]) (fun _=>_) (fun (i : Nat)=>f.nodes.length - i) 0 ?_ (fun _=>rfl) ?_ ?_
 ·exact Nat.zero_le _
 ·all_goals exact wk
 intro i hi _
 (try dsimp only[awp]);conv=>whnf
 refine And.intro (fun g1=>?_) (fun g1=>?_)
 ·have hil : i < f.nodes.length:=by simpa using g1
  (try dsimp only[awp]);conv=>whnf
  refine .pure _ _ ?_ ⟨rfl,rfl⟩ (cn i hil) fun _=>?_
  ·exact leL_refl _
  (try dsimp only[awp]);conv=>whnf
  refine zA ?_;conv=>whnf
  refine ⟨i + 1,?_,?_,?_⟩
  ·exact hil
  ·all_goals exact wk
  ·omega
 (try dsimp only[awp]);conv=>whnf
 refine .pure _ _ ?_ ⟨rfl,rfl⟩ cv fun _=>?_
 ·exact leL_refl _
 (try dsimp only[awp]);conv=>whnf
 refine fM ?_;(conv=>whnf);refine ⟨?_,rfl⟩;conv=>whnf
 all_goals exact wk

theorem c_fcheck (f : Fo) (h : FOk f) (set : Int) (hs : 0 ≤ set ∧ set < 2 ^ f.vars.toNat) : FnH Tryz.prog 66 [f.av,.int .i64 set] [] .nilI []:=by
 have cc:=c_fCheck f h
 obtain ⟨h1,h2,h3,h4⟩:=h
 refine FnH.intro lay mixed Tryz.func66 (by kernel_rfl) rfl (by kernel_rfl) rfl fun hok=>?_
 (try dsimp only[argC,succC]);(try dsimp only[awp]);conv=>whnf
 refine .pure _ _ ?_ ⟨rfl,rfl⟩ cc fun _=>?_
 ·exact leL_refl _
 (try dsimp only[awp]);conv=>whnf
 refine And.intro (fun g=>by exfalso; omega) (fun g=>?_)
 (try dsimp only[awp]);conv=>whnf
 obtain ⟨v,hv⟩ : ∃ v : Nat,f.vars = v:=⟨f.vars.toNat,by omega⟩
 rw [hv] at h1 hs ⊢
 refine ⟨by omega,?_⟩
 rw [shl_one (by omega)]
 (try dsimp only[awp]);conv=>whnf
 refine And.intro (fun g=>?_) (fun g=>?_)
 ·exfalso
  rw [Int.toNat_natCast] at hs
  have:=hs.2
  push_cast at g
  omega
 (try dsimp only[awp]);conv=>whnf
 refine fM ?_;(conv=>whnf);refine ⟨?_,rfl⟩;conv=>whnf
 all_goals exact wk

def cntT (v : List Bool) (args : List Int) : Nat:=args.foldl (fun n a=>if v.getD a.toNat false = true then n + 1 else n) 0

def ndVal (x : Nd) (n : Nat) : Bool :=
 if x.kind = 0 then decide (x.k = 1) else if x.kind = 1 then decide (n = 0) else if x.kind = 2 then decide (n = x.args.length) else if x.kind = 3 then decide (0 < n)
 else if x.kind = 4 then decide (x.k ≤ n) else if x.kind = 5 then decide (n % 2 = 1) else false

def valN (v : List Bool) (x : Nd) : List Bool:=v ++ [ndVal x (cntT v x.args)]
def valsF (vars set : Nat) (nodes : List Nd) : List Bool:=nodes.foldl valN (evs vars set)

theorem vals_len (vars set : Nat) : ∀ (nodes : List Nd),(valsF vars set nodes).length = vars + nodes.length:=by
 have key : ∀ (l : List Nd) (v : List Bool),(l.foldl valN v).length = v.length + l.length:=by
  intro l
  induction l with
  | nil=>intro v; simp
  | cons x l ih=>intro v; simp only [List.foldl_cons,ih,valN,List.length_append,List.length_cons,List.length_nil]; omega
 intro nodes
 unfold valsF
 rw [key]
 simp [evs]

theorem cntT_take {v : List Bool} {args : List Int} {j : Nat} (h : j < args.length) : cntT v (args.take (j + 1)) = if v.getD (args[j]).toNat false = true then cntT v (args.take j) + 1 else cntT v (args.take j):=by
 unfold cntT
 rw [List.take_add_one,List.getElem?_eq_getElem h,List.foldl_append]; rfl

theorem cntT_le (v : List Bool) : ∀ (args : List Int),cntT v args ≤ args.length:=by
 have key : ∀ (l : List Int) (n : Nat),l.foldl (fun n a=>if v.getD a.toNat false = true then n + 1 else n) n ≤ n + l.length:=by
  intro l
  induction l with
  | nil=>intro n; simp
  | cons a l ih =>
    intro n
    simp only [List.foldl_cons,List.length_cons]
    split
    ·have:=ih (n + 1); omega
    ·have:=ih n; omega
 intro args
 have:=key args 0
 unfold cntT
 omega

theorem c_fvalues (f : Fo) (h : FOk f) (set : Nat) (hs : set < 2 ^ 63) : FnH Tryz.prog 67 [f.av,.int .i64 set] [] (.sl 1 ((valsF f.vars.toNat set f.nodes).map .bool) .no) []:=by
 obtain ⟨h1,h2,h3,h4⟩:=h
 refine FnH.intro lay mixed Tryz.func67 (by kernel_rfl) rfl (by kernel_rfl) rfl fun hok=>?_
 (try dsimp only[argC,succC]);(try dsimp only[awp]);conv=>whnf
 refine ⟨inr64 (by simp; omega) (by simp; omega),?_⟩
 (try dsimp only[awp]);conv=>whnf
 refine ⟨by refine ⟨by omega,by omega,by simp; omega,by simp; omega⟩,?_⟩
 refine .wr ?_
 (try dsimp only[awp]);conv=>whnf
 refine LoopE.of <| LoopSpec.inv (.refl _ _) (fun i : Nat=>i ≤ f.vars.toNat) (fun i=>[(24,.int .i64 i)]) (fun i=>[(1,.arr 1 (f.vars + ((f.nodes.map Nd.av).length : Int)).toNat ((List.range i).map (fun j=>AV.bool (set.testBit j)) ++ List.replicate (f.vars.toNat - i) .ff)),(0,.box f.av)]) (fun i=>f.vars.toNat - i) 0 ?_ (fun _=>rfl) ?_ ?_
 ·exact Nat.zero_le _
 ·refine ⟨by (repeat' first|exact rfl|exact trivial|exact wR|exact lR _|apply aI),.mk ?_ ?_⟩
  ·all_goals exact wk
  ·exact ⟨by simp,by simp,trivial⟩
 intro i hi _
 (try dsimp only[awp]);conv=>whnf
 refine And.intro (fun g1=>?_) (fun g1=>?_)
 ·have hlt : i < f.vars.toNat:=by omega
  (try dsimp only[awp]);conv=>whnf
  refine ⟨by omega,?_⟩
  (try dsimp only[awp]);conv=>whnf
  refine ⟨⟨by omega,by omega⟩,?_⟩
  (try dsimp only[awp]);conv=>whnf
  refine ⟨by simp; omega,rfl,?_⟩
  (try dsimp only[awp]);conv=>whnf
  refine zA ?_;conv=>whnf
  refine ⟨i + 1,?_,?_,?_⟩
  ·exact hlt
  ·refine ⟨by (repeat' first|exact rfl|exact trivial|exact wR|exact lR _|apply aI),.mk ?_ ?_⟩
   ·repeat' first|exact rfl|exact trivial|exact wR|exact lR _|apply aI
    ·simp only [Nat.zero_add,Int.toNat_natCast]
     refine set_ev hlt ?_
     show _ ↔ _
     rw [bit_test hs (by omega)]
     cases set.testBit i <;> simp
   ·exact ⟨by simp,by simp,trivial⟩
  ·omega
 have hil : i = f.vars.toNat:=by omega
 subst hil
 clear g1
 have hev : (List.range f.vars.toNat).map (fun j=>AV.bool (set.testBit j)) ++ List.replicate (f.vars.toNat - f.vars.toNat) .ff = (evs f.vars.toNat set).map .bool:=by simp [evs]
 rw [hev]
 (try dsimp only[awp]);conv=>whnf
 refine LoopE.of <| LoopSpec.inv (.keep 5 1 f.vars.toNat _ 1 _ rfl rfl (by simp [evs]) (.refl _ _)) (fun i : Nat=>i ≤ f.nodes.length) (fun i=>[(39,.int .i64 i),(5,.sl 1 ((valsF f.vars.toNat set (f.nodes.take i)).map .bool) (.own 2))]) (fun i=>[(2,.tok 1 (f.vars.toNat + i)),(1,.gone),(0,.box f.av)]) (fun i=>f.nodes.length - i) 0 ?_ (fun _=>rfl) ?_ ?_
 ·exact Nat.zero_le _
 ·refine ⟨?_,.mk ?_ (by simp [idsOk])⟩
  ·repeat' first|exact rfl|exact trivial|exact wR|exact lR _|apply aI
   all_goals (refine leRL_of ?_; simp [evs,valsF]; rw [List.take_of_length_le (by simp)]; done)
  ·all_goals exact wk
 intro i hi _
 (try dsimp only[awp]);conv=>whnf
 refine And.intro (fun g1=>?_) (fun g1=>?_)
 ·have hlt : i < f.nodes.length:=by simpa using g1
  have hok:=h3 i hlt
  have hvl:=vals_len f.vars.toNat set (f.nodes.take i)
  rw [List.length_take,Nat.min_eq_left hi] at hvl
  have hvs : valsF f.vars.toNat set (f.nodes.take (i + 1)) = valN (valsF f.vars.toNat set (f.nodes.take i)) f.nodes[i]:=by
   unfold valsF
   rw [List.take_add_one,List.getElem?_eq_getElem hlt,List.foldl_append]; rfl
  (try dsimp only[awp]);conv=>whnf
  refine aidx hlt ?_
  generalize f.nodes[i] = x at *
  generalize valsF f.vars.toNat set (f.nodes.take i) = V at *
  (try dsimp only[awp]);conv=>whnf
  refine LoopE.of <| LoopSpec.inv (.refl _ _) (fun j : Nat=>j ≤ x.args.length) (fun j=>[(46,.int .i64 j),(9,.int .i64 (cntT V (x.args.take j)))]) (fun _=>(3,.box x.av) :: [(2,.tok 1 (f.vars.toNat + i)),(1,.gone),(0,.box f.av)]) (fun j=>x.args.length - j) 0 ?_ (fun _=>rfl) ?_ ?_
  ·exact Nat.zero_le _
  ·refine ⟨?_,.mk ?_ (by simp [idsOk])⟩
   ·all_goals exact wk
   ·all_goals exact wk
  intro j hj _
  (try dsimp only[awp]);conv=>whnf
  refine And.intro (fun g2=>?_) (fun g2=>?_)
  ·have hjl : j < x.args.length:=by simpa using g2
   have ha:=hok.args _ (List.getElem_mem hjl)
   have hc:=cntT_take (v:=V) hjl
   have hal16 : x.args.length ≤ 16:=by
    have hal:=hok.num
    split at hal
    ·omega
    ·split at hal <;> omega
   (try dsimp only[awp]);conv=>whnf
   refine aidx hjl ?_
   generalize x.args[j] = a at *
   (try dsimp only[awp]);conv=>whnf
   refine aidxD false (by rw [hvl]; omega) ?_
   (try dsimp only[awp]);conv=>whnf
   refine And.intro (fun g3=>?_) (fun g3=>?_)
   ·rw [if_pos g3] at hc
    have hcl:=cntT_le V (x.args.take j)
    rw [List.length_take] at hcl
    (try dsimp only[awp]);conv=>whnf
    refine zA ?_;conv=>whnf
    (try dsimp only[awp]);conv=>whnf
    refine zA ?_;conv=>whnf
    refine ⟨j + 1,?_,?_,?_⟩
    ·exact hjl
    ·rw [hc]
     refine ⟨?_,.mk ?_ (by simp [idsOk])⟩
     ·all_goals exact wk
     ·all_goals exact wk
    ·omega
   ·rw [if_neg (by rw [g3]; simp)] at hc
    (try dsimp only[awp]);conv=>whnf
    refine zA ?_;conv=>whnf
    refine ⟨j + 1,?_,?_,?_⟩
    ·exact hjl
    ·rw [hc]
     refine ⟨?_,.mk ?_ (by simp [idsOk])⟩
     ·all_goals exact wk
     ·all_goals exact wk
    ·omega
  have hjl : j = x.args.length:=by (have : ¬ j < x.args.length:=by simpa using g2); omega
  subst hjl
  clear g2
  rw [List.take_length]
  have hk:=hok.kind
  have hkk:=hok.k
  have hnd : ∀ b : Bool,ndVal x (cntT V x.args) = b → valsF f.vars.toNat set (f.nodes.take (i + 1)) = V ++ [b]:=fun b hb=>by rw [hvs,valN,hb]
  clear hvs
  generalize cntT V x.args = c at *
  (try dsimp only[awp]);conv=>whnf
  refine And.intro (fun k0=>?_) (fun k0=>?_)
  ·(try dsimp only[awp]);conv=>whnf
   have hb:=hnd (decide (x.k = 1)) (by unfold ndVal; rw [if_pos k0])
   (try dsimp only[awp]);conv=>whnf
   refine ⟨by rw [List.length_map,hvl],.mk (by simp [maxL]; omega) (by simp; omega) ?_⟩
   (try dsimp only[awp]);conv=>whnf
   refine zA ?_;conv=>whnf
   refine ⟨i + 1,?_,?_,?_⟩
   ·exact hlt
   ·rw [hb]
    refine ⟨?_,.mk ?_ (by simp [idsOk])⟩
    ·repeat' first|exact rfl|exact trivial|exact wR|exact lR _|apply aI
     all_goals (show leRL _ (List.map _ (_ ++ [_])); rw [List.map_append]; refine leRL_snoc ?_ (lR _); show _ ↔ _; simp; try (first | omega | (rw [show (2 : Int) = ((2 : Nat) : Int) from rfl,tmod_nat]; omega)))
    ·repeat' first|exact rfl|exact trivial|exact wR|exact lR _|apply aI
     all_goals first | (simp [hvl]; done) | (simp [hvl]; omega)
   ·omega
  (try dsimp only[awp]);conv=>whnf
  refine And.intro (fun k1=>?_) (fun k1=>?_)
  ·(try dsimp only[awp]);conv=>whnf
   have hb:=hnd (decide (c = 0)) (by unfold ndVal; rw [if_neg k0,if_pos k1])
   (try dsimp only[awp]);conv=>whnf
   refine ⟨by rw [List.length_map,hvl],.mk (by simp [maxL]; omega) (by simp; omega) ?_⟩
   (try dsimp only[awp]);conv=>whnf
   refine zA ?_;conv=>whnf
   refine ⟨i + 1,?_,?_,?_⟩
   ·exact hlt
   ·rw [hb]
    refine ⟨?_,.mk ?_ (by simp [idsOk])⟩
    ·repeat' first|exact rfl|exact trivial|exact wR|exact lR _|apply aI
     all_goals (show leRL _ (List.map _ (_ ++ [_])); rw [List.map_append]; refine leRL_snoc ?_ (lR _); show _ ↔ _; simp; try (first | omega | (rw [show (2 : Int) = ((2 : Nat) : Int) from rfl,tmod_nat]; omega)))
    ·repeat' first|exact rfl|exact trivial|exact wR|exact lR _|apply aI
     all_goals first | (simp [hvl]; done) | (simp [hvl]; omega)
   ·omega
  (try dsimp only[awp]);conv=>whnf
  refine And.intro (fun k2=>?_) (fun k2=>?_)
  ·(try dsimp only[awp]);conv=>whnf
   have hb:=hnd (decide (c = x.args.length)) (by unfold ndVal; rw [if_neg k0,if_neg k1,if_pos k2])
   (try dsimp only[awp]);conv=>whnf
   refine ⟨by rw [List.length_map,hvl],.mk (by simp [maxL]; omega) (by simp; omega) ?_⟩
   (try dsimp only[awp]);conv=>whnf
   refine zA ?_;conv=>whnf
   refine ⟨i + 1,?_,?_,?_⟩
   ·exact hlt
   ·rw [hb]
    refine ⟨?_,.mk ?_ (by simp [idsOk])⟩
    ·repeat' first|exact rfl|exact trivial|exact wR|exact lR _|apply aI
     all_goals (show leRL _ (List.map _ (_ ++ [_])); rw [List.map_append]; refine leRL_snoc ?_ (lR _); show _ ↔ _; simp; try (first | omega | (rw [show (2 : Int) = ((2 : Nat) : Int) from rfl,tmod_nat]; omega)))
    ·repeat' first|exact rfl|exact trivial|exact wR|exact lR _|apply aI
     all_goals first | (simp [hvl]; done) | (simp [hvl]; omega)
   ·omega
  (try dsimp only[awp]);conv=>whnf
  refine And.intro (fun k3=>?_) (fun k3=>?_)
  ·(try dsimp only[awp]);conv=>whnf
   have hb:=hnd (decide (0 < c)) (by unfold ndVal; rw [if_neg k0,if_neg k1,if_neg k2,if_pos k3])
   (try dsimp only[awp]);conv=>whnf
   refine ⟨by rw [List.length_map,hvl],.mk (by simp [maxL]; omega) (by simp; omega) ?_⟩
   (try dsimp only[awp]);conv=>whnf
   refine zA ?_;conv=>whnf
   refine ⟨i + 1,?_,?_,?_⟩
   ·exact hlt
   ·rw [hb]
    refine ⟨?_,.mk ?_ (by simp [idsOk])⟩
    ·repeat' first|exact rfl|exact trivial|exact wR|exact lR _|apply aI
     all_goals (show leRL _ (List.map _ (_ ++ [_])); rw [List.map_append]; refine leRL_snoc ?_ (lR _); show _ ↔ _; simp; try (first | omega | (rw [show (2 : Int) = ((2 : Nat) : Int) from rfl,tmod_nat]; omega)))
    ·repeat' first|exact rfl|exact trivial|exact wR|exact lR _|apply aI
     all_goals first | (simp [hvl]; done) | (simp [hvl]; omega)
   ·omega
  (try dsimp only[awp]);conv=>whnf
  refine And.intro (fun k4=>?_) (fun k4=>?_)
  ·(try dsimp only[awp]);conv=>whnf
   have hb:=hnd (decide (x.k ≤ c)) (by unfold ndVal; rw [if_neg k0,if_neg k1,if_neg k2,if_neg k3,if_pos k4])
   (try dsimp only[awp]);conv=>whnf
   refine ⟨by rw [List.length_map,hvl],.mk (by simp [maxL]; omega) (by simp; omega) ?_⟩
   (try dsimp only[awp]);conv=>whnf
   refine zA ?_;conv=>whnf
   refine ⟨i + 1,?_,?_,?_⟩
   ·exact hlt
   ·rw [hb]
    refine ⟨?_,.mk ?_ (by simp [idsOk])⟩
    ·repeat' first|exact rfl|exact trivial|exact wR|exact lR _|apply aI
     all_goals (show leRL _ (List.map _ (_ ++ [_])); rw [List.map_append]; refine leRL_snoc ?_ (lR _); show _ ↔ _; simp; try (first | omega | (rw [show (2 : Int) = ((2 : Nat) : Int) from rfl,tmod_nat]; omega)))
    ·repeat' first|exact rfl|exact trivial|exact wR|exact lR _|apply aI
     all_goals first | (simp [hvl]; done) | (simp [hvl]; omega)
   ·omega
  (try dsimp only[awp]);conv=>whnf
  refine And.intro (fun k5=>?_) (fun k5=>by exfalso; omega)
  (try dsimp only[awp]);conv=>whnf
  refine ⟨by decide,?_⟩
  (try dsimp only[awp]);conv=>whnf
  have hb:=hnd (decide (c % 2 = 1)) (by unfold ndVal; rw [if_neg k0,if_neg k1,if_neg k2,if_neg k3,if_neg k4,if_pos k5])
  (try dsimp only[awp]);conv=>whnf
  refine ⟨by rw [List.length_map,hvl],.mk (by simp [maxL]; omega) (by simp; omega) ?_⟩
  (try dsimp only[awp]);conv=>whnf
  refine zA ?_;conv=>whnf
  refine ⟨i + 1,?_,?_,?_⟩
  ·exact hlt
  ·rw [hb]
   refine ⟨?_,.mk ?_ (by simp [idsOk])⟩
   ·repeat' first|exact rfl|exact trivial|exact wR|exact lR _|apply aI
    all_goals (show leRL _ (List.map _ (_ ++ [_])); rw [List.map_append]; refine leRL_snoc ?_ (lR _); show _ ↔ _; simp; try (first | omega | (rw [show (2 : Int) = ((2 : Nat) : Int) from rfl,tmod_nat]; omega)))
   ·repeat' first|exact rfl|exact trivial|exact wR|exact lR _|apply aI
    all_goals first | (simp [hvl]; done) | (simp [hvl]; omega)
  ·omega
 have hil : i = f.nodes.length:=by (have : ¬ i < f.nodes.length:=by simpa using g1); omega
 subst hil
 rw [List.take_length]
 (try dsimp only[awp]);conv=>whnf
 refine ⟨⟨_,_,.refl _ _,?_⟩⟩
 conv=>whnf
 refine ⟨?_,rfl,by simp [nextId],.mk ?_ (by simp [idsOk])⟩
 ·all_goals exact wk
 ·all_goals exact wk

theorem c_fValue (f : Fo) (h : FOk f) (set : Nat) (hs : set < 2 ^ f.vars.toNat) : FnH Tryz.prog 22 [f.av,.int .i64 set] [] (.tup [.bool ((valsF f.vars.toNat set f.nodes).getD f.top.toNat false),.nilI]) []:=by
 have h1:=h.vars
 have hs2 : set < 2 ^ 63:=Nat.lt_of_lt_of_le hs (Nat.pow_le_pow_right (by decide) (by omega))
 have hs3 : (set : Int) < 2 ^ f.vars.toNat:=by
  have : ((set : Nat) : Int) < ((2 ^ f.vars.toNat : Nat) : Int):=by exact_mod_cast hs
  simpa using this
 have cc:=c_fcheck f h set ⟨by omega,hs3⟩
 have cv:=c_fvalues f h set hs2
 have hl:=vals_len f.vars.toNat set f.nodes
 have ht:=h.top
 generalize valsF f.vars.toNat set f.nodes = V at *
 refine FnH.intro lay mixed Tryz.func22 (by kernel_rfl) rfl (by kernel_rfl) rfl fun hok=>?_
 (try dsimp only[argC,succC]);(try dsimp only[awp]);conv=>whnf
 refine .pure _ _ ?_ ⟨rfl,rfl⟩ cc fun _=>?_
 ·exact leL_refl _
 (try dsimp only[awp]);conv=>whnf
 refine ADraw.auto (by kernel_rfl) ?_;conv=>whnf
 refine ACallP.pure _ _ ?_ ⟨rfl,rfl⟩ cv ?_
 ·exact leL_refl _
 (try dsimp only[awp]);conv=>whnf
 refine aidxD false (by rw [hl]; omega) ?_
 (try dsimp only[awp]);conv=>whnf
 refine fM ?_;(conv=>whnf);refine ⟨?_,rfl⟩;conv=>whnf
 all_goals exact wk

structure OpP (T T' : Tb) (r : Int) (f : (Int → Bool) → Bool) (z : Nat) : Prop where
 good : GoodT T'
 ext : Xt T T'
 rf : T'.Rf r
 val : ∀ s,ev T'.nodes s r = f s
 size : T'.nodes.length ≤ T.nodes.length + z

theorem tb_min (T : Tb) (hT : GoodT T) (N : Nat) (hN : T.n ≤ N) (a b c : Int) (ha : T.Rf a) (hb : T.Rf b) (hc : T.Rf c) : T.n - min (min (T.lvl a) (T.lvl b)) (T.lvl c) ≤ N:=by
 have:=hT.lvl_pos ha
 have:=hT.lvl_pos hb
 have:=hT.lvl_pos hc
 omega

theorem c_tNot (N : Nat) (T : Tb) (hT : GoodT T) (hN : T.n ≤ N) (a : Int) (ha : T.Rf a) (hS : T.nodes.length + 2 ^ N ≤ 1000000000) :
  ∃ T' r,FnH Tryz.prog 134 [.ptr 0 [] 0,.int .i64 a] (hpT T) (.int .i64 r) (hpT T') ∧ OpP T T' r (fun s=>!ev T.nodes s a) (2 ^ N):=by
 obtain ⟨T',r,f,p,n⟩:=c_tChoose N T hT a 0 1 ha (.zero T) (.one T) (tb_min T hT N hN _ _ _ ha (.zero T) (.one T)) hS
 refine ⟨T',r,?_,⟨p.good,p.ext,p.rf,fun s=>by rw [p.val s,ev_zero,ev_one]; cases ev T.nodes s a <;> rfl,by omega⟩⟩
 refine FnH.intro lay mixed Tryz.func134 (by kernel_rfl) rfl (by kernel_rfl) rfl fun hok=>?_
 (try dsimp only[argC,succC]);(try dsimp only[awp]);conv=>whnf
 refine .gen _ _ f fun _=>?_
 (try dsimp only[awp]);conv=>whnf
 refine ⟨⟨_,_,.refl _ _,?_⟩⟩
 conv=>whnf
 refine ⟨?_,rfl,by simp [nextId],.mk ?_ (by simp [idsOk])⟩
 ·all_goals exact wk
 ·repeat' first|exact rfl|exact trivial|exact wR|exact lR _|apply aI
  all_goals first | exact leM_refl _ | exact encM_bnd _ _ | (simp; done) | skip

theorem c_tAnd (N : Nat) (T : Tb) (hT : GoodT T) (hN : T.n ≤ N) (a b : Int) (ha : T.Rf a) (hb : T.Rf b) (hS : T.nodes.length + 2 * 2 ^ N ≤ 1000000000) :
  ∃ T' r,FnH Tryz.prog 57 [.ptr 0 [] 0,.int .i64 a,.int .i64 b] (hpT T) (.int .i64 r) (hpT T') ∧ OpP T T' r (fun s=>ev T.nodes s a && ev T.nodes s b) (2 * 2 ^ N):=by
 obtain ⟨T',r,f,p,n⟩:=c_tChoose N T hT a b 0 ha hb (.zero T) (tb_min T hT N hN _ _ _ ha hb (.zero T)) (by omega)
 refine ⟨T',r,?_,⟨p.good,p.ext,p.rf,fun s=>by rw [p.val s,ev_zero]; cases ev T.nodes s a <;> rfl,by omega⟩⟩
 refine FnH.intro lay mixed Tryz.func57 (by kernel_rfl) rfl (by kernel_rfl) rfl fun hok=>?_
 (try dsimp only[argC,succC]);(try dsimp only[awp]);conv=>whnf
 refine .gen _ _ f fun _=>?_
 (try dsimp only[awp]);conv=>whnf
 refine ⟨⟨_,_,.refl _ _,?_⟩⟩
 conv=>whnf
 refine ⟨?_,rfl,by simp [nextId],.mk ?_ (by simp [idsOk])⟩
 ·all_goals exact wk
 ·repeat' first|exact rfl|exact trivial|exact wR|exact lR _|apply aI
  all_goals first | exact leM_refl _ | exact encM_bnd _ _ | (simp; done) | skip

theorem c_tOr (N : Nat) (T : Tb) (hT : GoodT T) (hN : T.n ≤ N) (a b : Int) (ha : T.Rf a) (hb : T.Rf b) (hS : T.nodes.length + 2 * 2 ^ N ≤ 1000000000) :
  ∃ T' r,FnH Tryz.prog 227 [.ptr 0 [] 0,.int .i64 a,.int .i64 b] (hpT T) (.int .i64 r) (hpT T') ∧ OpP T T' r (fun s=>ev T.nodes s a || ev T.nodes s b) (2 * 2 ^ N):=by
 obtain ⟨T',r,f,p,n⟩:=c_tChoose N T hT a 1 b ha (.one T) hb (tb_min T hT N hN _ _ _ ha (.one T) hb) (by omega)
 refine ⟨T',r,?_,⟨p.good,p.ext,p.rf,fun s=>by rw [p.val s,ev_one]; cases ev T.nodes s a <;> rfl,by omega⟩⟩
 refine FnH.intro lay mixed Tryz.func227 (by kernel_rfl) rfl (by kernel_rfl) rfl fun hok=>?_
 (try dsimp only[argC,succC]);(try dsimp only[awp]);conv=>whnf
 refine .gen _ _ f fun _=>?_
 (try dsimp only[awp]);conv=>whnf
 refine ⟨⟨_,_,.refl _ _,?_⟩⟩
 conv=>whnf
 refine ⟨?_,rfl,by simp [nextId],.mk ?_ (by simp [idsOk])⟩
 ·all_goals exact wk
 ·repeat' first|exact rfl|exact trivial|exact wR|exact lR _|apply aI
  all_goals first | exact leM_refl _ | exact encM_bnd _ _ | (simp; done) | skip

theorem c_tXor (N : Nat) (T : Tb) (hT : GoodT T) (hN : T.n ≤ N) (a b : Int) (ha : T.Rf a) (hb : T.Rf b) (hS : T.nodes.length + 2 * 2 ^ N ≤ 1000000000) :
  ∃ T' r,FnH Tryz.prog 53 [.ptr 0 [] 0,.int .i64 a,.int .i64 b] (hpT T) (.int .i64 r) (hpT T') ∧ OpP T T' r (fun s=>ev T.nodes s a ^^ ev T.nodes s b) (2 * 2 ^ N):=by
 obtain ⟨T1,c,f1,p1⟩:=c_tNot N T hT hN b hb (by omega)
 have hs:=p1.size
 obtain ⟨T',r,f,p,n⟩:=c_tChoose N T1 p1.good a c b (p1.ext.rf ha) p1.rf (p1.ext.rf hb) (tb_min T1 p1.good N (by rw [p1.ext.n]; exact hN) _ _ _ (p1.ext.rf ha) p1.rf (p1.ext.rf hb)) (by omega)
 refine ⟨T',r,?_,⟨p.good,p1.ext.trans p.ext,p.rf,fun s=>by rw [p.val s,p1.val s,p1.ext.ev ha,p1.ext.ev hb]; cases ev T.nodes s a <;> cases ev T.nodes s b <;> rfl,by omega⟩⟩
 refine FnH.intro lay mixed Tryz.func53 (by kernel_rfl) rfl (by kernel_rfl) rfl fun hok=>?_
 (try dsimp only[argC,succC]);(try dsimp only[awp]);conv=>whnf
 refine .gen _ _ f1 fun _=>?_
 (try dsimp only[awp]);conv=>whnf
 refine .gen _ _ f fun _=>?_
 (try dsimp only[awp]);conv=>whnf
 refine ⟨⟨_,_,.refl _ _,?_⟩⟩
 conv=>whnf
 refine ⟨?_,rfl,by simp [nextId],.mk ?_ (by simp [idsOk])⟩
 ·all_goals exact wk
 ·repeat' first|exact rfl|exact trivial|exact wR|exact lR _|apply aI
  all_goals first | exact leM_refl _ | exact encM_bnd _ _ | (simp; done) | skip

theorem c_join (f : Nat) (refs : List Int) (g : Nat → Tb × Int) (hg : ∀ k,k < refs.length → FnH Tryz.prog f [.ptr 0 [] 0,.int .i64 (g k).2,.int .i64 (refs.getD k 0)] (hpT (g k).1) (.int .i64 (g (k + 1)).2) (hpT (g (k + 1)).1)) :
  FnH Tryz.prog 226 [iL refs,.int .i64 (g 0).2,.bm f 0] (hpT (g 0).1) (.int .i64 (g refs.length).2) (hpT (g refs.length).1):=by
 refine FnH.intro lay mixed Tryz.func226 (by kernel_rfl) rfl (by kernel_rfl) rfl fun hok=>?_
 have hl : refs.length ≤ 9223372036854775807:=by have:=hok.1.1; simpa [maxL] using this
 (try dsimp only[argC,succC]);(try dsimp only[awp]);conv=>whnf
 refine LoopE.of <| (LoopSpec.inv (.refl _ _) (fun k : Nat=>k ≤ refs.length) (fun k=>[(11,.int .i64 k),(1,.int .i64 (g k).2)]) (fun k=>hpT (g k).1) (fun k=>refs.length - k) 0 (Nat.zero_le _) ?_ ?_ ?_)
 ·exact fun _=>rfl
 ·refine ⟨?_,.mk ?_ (by simp [idsOk])⟩
  ·all_goals exact wk
  ·repeat' first|exact rfl|exact trivial|exact wR|exact lR _|apply aI
   all_goals first | exact leM_refl _ | exact encM_bnd _ _ | skip
 intro k hk _
 (try dsimp only[awp]);conv=>whnf
 refine And.intro (fun h=>?_) (fun h=>?_)
 ·have hlt : k < refs.length:=by simpa using h
  have q:=hg k hlt
  rw [List.getD_eq_getElem?_getD,List.getElem?_eq_getElem hlt] at q
  (try dsimp only[awp]);conv=>whnf
  refine aidx hlt ?_
  (try dsimp only[awp]);conv=>whnf
  refine .gen _ _ q fun _=>?_
  (try dsimp only[awp]);conv=>whnf
  refine zA ?_;conv=>whnf
  refine ⟨k + 1,?_,?_,?_⟩
  ·exact hlt
  ·refine ⟨?_,.mk ?_ (by simp [idsOk])⟩
   ·all_goals exact wk
   ·repeat' first|exact rfl|exact trivial|exact wR|exact lR _|apply aI
    all_goals first | exact leM_refl _ | exact encM_bnd _ _ | skip
  ·omega
 ·have hk : k = refs.length:=by (have : ¬ k < refs.length:=by simpa using h); omega
  subst hk
  (try dsimp only[awp]);conv=>whnf
  refine ⟨⟨_,_,.refl _ _,?_⟩⟩
  conv=>whnf
  refine ⟨?_,rfl,by simp [nextId],.mk ?_ (by simp [idsOk])⟩
  ·all_goals exact wk
  ·repeat' first|exact rfl|exact trivial|exact wR|exact lR _|apply aI
   all_goals first | exact leM_refl _ | exact encM_bnd _ _ | (simp; done) | skip

theorem join_ex (N : Nat) (F : Nat) (op : Bool → Bool → Bool)
  (hop : ∀ (T : Tb),GoodT T → T.n ≤ N → ∀ (a b : Int),T.Rf a → T.Rf b → T.nodes.length + 2 * 2 ^ N ≤ 1000000000 → ∃ T' r,FnH Tryz.prog F [.ptr 0 [] 0,.int .i64 a,.int .i64 b] (hpT T) (.int .i64 r) (hpT T') ∧ OpP T T' r (fun s=>op (ev T.nodes s a) (ev T.nodes s b)) (2 * 2 ^ N))
  (T : Tb) (hT : GoodT T) (hN : T.n ≤ N) (refs : List Int) (hr : ∀ r ∈ refs,T.Rf r) (first : Int) (hf : T.Rf first) (hS : T.nodes.length + (refs.length + 1) * (2 * 2 ^ N) ≤ 1000000000) :
  ∃ T' r,FnH Tryz.prog 226 [iL refs,.int .i64 first,.bm F 0] (hpT T) (.int .i64 r) (hpT T') ∧ OpP T T' r (fun s=>(refs.map (ev T.nodes s)).foldl op (ev T.nodes s first)) (refs.length * (2 * 2 ^ N)):=by
 generalize hZ : 2 * 2 ^ N = Z at *
 obtain ⟨g,g0,g1,g2⟩:=chain_ex (fun k (q : Tb × Int)=>OpP T q.1 q.2 (fun s=>((refs.take k).map (ev T.nodes s)).foldl op (ev T.nodes s first)) (k * Z))
  (fun k q q'=>FnH Tryz.prog F [.ptr 0 [] 0,.int .i64 q.2,.int .i64 (refs.getD k 0)] (hpT q.1) (.int .i64 q'.2) (hpT q'.1)) refs.length (T,first)
  ⟨hT,.refl _,hf,fun s=>rfl,by simp⟩ (fun k q hk h=>by
   have hrk : T.Rf refs[k]:=hr _ (List.getElem_mem hk)
   have hsz:=h.size
   have hle : (k + 1) * Z ≤ (refs.length + 1) * Z:=Nat.mul_le_mul_right _ (by omega)
   have e : (k + 1) * Z = k * Z + Z:=by rw [Nat.add_mul,Nat.one_mul]
   obtain ⟨T',r,f,p⟩:=hop q.1 h.good (by rw [h.ext.n]; exact hN) q.2 refs[k] h.rf (h.ext.rf hrk) (by omega)
   have hps:=p.size
   refine ⟨(T',r),⟨p.good,h.ext.trans p.ext,p.rf,fun s=>?_,by show T'.nodes.length ≤ _; omega⟩,?_⟩
   ·show ev T'.nodes s r = _
    rw [p.val s,h.val s,h.ext.ev hrk,List.take_succ_eq_append_getElem hk,List.map_append,List.foldl_append]; rfl
   ·rw [List.getD_eq_getElem?_getD,List.getElem?_eq_getElem hk]; exact f)
 have l:=g1 refs.length (Nat.le_refl _)
 have q:=c_join F refs g g2
 rw [g0] at q
 refine ⟨(g refs.length).1,(g refs.length).2,q,⟨l.good,l.ext,l.rf,fun s=>?_,l.size⟩⟩
 have:=l.val s
 rw [List.take_length] at this
 exact this

structure VoS where
 T : Tb
 need : List Int

def cB (T : Tb) (t : Int → Bool) (l : List Int) : Nat:=l.countP fun r=>ev T.nodes t r

structure VoI (T : Tb) (refs : List Int) (K Z m i : Nat) (s : VoS) : Prop where
 good : GoodT s.T
 ext : Xt T s.T
 len : s.need.length = K + 1
 all : ∀ j,j ≤ K → s.T.Rf (s.need.getD j 0) ∧ ∀ t,ev s.T.nodes t (s.need.getD j 0) = decide (j ≤ cB T t (refs.take (if K - i < j then m + 1 else m)))
 size : s.T.nodes.length ≤ T.nodes.length + (m * K + i) * Z

def VoR (refs : List Int) (K m i : Nat) (s s' : VoS) : Prop :=
 ∃ x,FnH Tryz.prog 133 [.ptr 0 [] 0,.int .i64 (refs.getD m 0),.int .i64 (s.need.getD (K - (i + 1)) 0),.int .i64 (s.need.getD (K - i) 0)] (hpT s.T) (.int .i64 x) (hpT s'.T) ∧ s'.need = s.need.set (K - i) x

theorem getD_set_nat {l : List Int} {i j : Nat} {x : Int} (hi : i < l.length) : (l.set i x).getD j 0 = if j = i then x else l.getD j 0:=by
 rw [List.getD_eq_getElem?_getD,List.getElem?_set]
 by_cases h : i = j
 ·subst h
  rw [if_pos rfl,if_pos hi,if_pos rfl]; rfl
 ·rw [if_neg h,if_neg (fun e=>h e.symm),List.getD_eq_getElem?_getD]

theorem vo_step (N : Nat) (T : Tb) (hN : T.n ≤ N) (refs : List Int) (hr : ∀ r ∈ refs,T.Rf r) (K m i : Nat) (hm : m < refs.length) (hi : i < K) (hS : T.nodes.length + refs.length * K * 2 ^ N ≤ 1000000000) (s : VoS) (h : VoI T refs K (2 ^ N) m i s) :
  ∃ s',VoI T refs K (2 ^ N) m (i + 1) s' ∧ VoR refs K m i s s':=by
 have hrm : T.Rf refs[m]:=hr _ (List.getElem_mem hm)
 have em : refs.getD m 0 = refs[m]:=by rw [List.getD_eq_getElem?_getD,List.getElem?_eq_getElem hm]; rfl
 obtain ⟨a1,a2⟩:=h.all (K - (i + 1)) (by omega)
 obtain ⟨b1,b2⟩:=h.all (K - i) (by omega)
 have hsz:=h.size
 have hb : (m * K + (i + 1)) * 2 ^ N ≤ refs.length * K * 2 ^ N:=by
  refine Nat.mul_le_mul_right _ ?_
  have : (m + 1) * K ≤ refs.length * K:=Nat.mul_le_mul_right _ (by omega)
  rw [Nat.add_mul,Nat.one_mul] at this
  omega
 have he : (m * K + (i + 1)) * 2 ^ N = (m * K + i) * 2 ^ N + 2 ^ N:=by rw [← Nat.add_assoc,Nat.add_mul (m * K + i),Nat.one_mul]
 have hlen:=h.len
 obtain ⟨T',x,f,p,n⟩:=c_tChoose N s.T h.good refs[m] (s.need.getD (K - (i + 1)) 0) (s.need.getD (K - i) 0) (h.ext.rf hrm) a1 b1 (tb_min s.T h.good N (by rw [h.ext.n]; exact hN) _ _ _ (h.ext.rf hrm) a1 b1) (by omega)
 refine ⟨⟨T',s.need.set (K - i) x⟩,⟨p.good,h.ext.trans p.ext,by show (s.need.set (K - i) x).length = _; rw [List.length_set]; exact hlen,fun j hj=>?_,by show T'.nodes.length ≤ _; omega⟩,x,by rw [em]; exact f,rfl⟩
 show T'.Rf ((s.need.set (K - i) x).getD j 0) ∧ ∀ t,ev T'.nodes t ((s.need.set (K - i) x).getD j 0) = _
 rw [getD_set_nat (by omega)]
 by_cases hji : j = K - i
 ·rw [if_pos hji]
  refine ⟨p.rf,fun t=>?_⟩
  have c1 : (if K - i < K - (i + 1) then m + 1 else m) = m:=if_neg (by omega)
  have c2 : (if K - i < K - i then m + 1 else m) = m:=if_neg (by omega)
  have c3 : (if K - (i + 1) < j then m + 1 else m) = m + 1:=if_pos (by omega)
  rw [p.val t,h.ext.ev hrm,a2 t,b2 t,c1,c2,c3,List.take_succ_eq_append_getElem hm]
  unfold cB
  rw [List.countP_append,List.countP_singleton]
  subst hji
  generalize List.countP (fun r=>ev T.nodes t r) (List.take m refs) = c
  cases ev T.nodes t refs[m] with
  | true=>simp only [if_true]; exact decide_eq_decide.2 (by omega)
  | false=>simp
 ·rw [if_neg hji]
  obtain ⟨c1,c2⟩:=h.all j hj
  refine ⟨p.ext.rf c1,fun t=>?_⟩
  rw [p.ext.ev c1,c2 t]
  by_cases hlt : K - i < j
  ·rw [if_pos hlt,if_pos (by omega)]
  ·rw [if_neg hlt,if_neg (by omega)]

theorem c_vote (N : Nat) (T : Tb) (hT : GoodT T) (hN : T.n ≤ N) (refs : List Int) (hr : ∀ r ∈ refs,T.Rf r) (K : Nat) (hK : K ≤ 1000) (hS : T.nodes.length + refs.length * K * 2 ^ N ≤ 1000000000) :
  ∃ T' r,FnH Tryz.prog 228 [.ptr 0 [] 0,iL refs,.int .i64 K] (hpT T) (.int .i64 r) (hpT T') ∧ OpP T T' r (fun s=>decide (K ≤ cB T s refs)) (refs.length * K * 2 ^ N):=by
 obtain ⟨g,g0,g1,g2⟩:=chain_ex (fun m s=>VoI T refs K (2 ^ N) m 0 s) (fun m s s'=>∃ h : Nat → VoS,h 0 = s ∧ h K = s' ∧ (∀ i,i ≤ K → VoI T refs K (2 ^ N) m i (h i)) ∧ ∀ i,i < K → VoR refs K m i (h i) (h (i + 1))) refs.length ⟨T,1 :: List.replicate K 0⟩
  (by
   refine ⟨hT,.refl _,by simp,fun j hj=>?_,by simp⟩
   cases j with
   | zero=>exact ⟨.one T,fun t=>by simp [ev_one]⟩
   | succ j =>
     have e : (1 :: List.replicate K 0).getD (j + 1) 0 = (0 : Int):=by
      simp [List.getD_eq_getElem?_getD,List.getElem?_replicate]
      split <;> rfl
     show T.Rf ((1 :: List.replicate K 0).getD (j + 1) 0) ∧ _
     rw [e]
     exact ⟨.zero T,fun t=>by rw [if_neg (by omega)]; simp [cB,ev_zero]⟩)
  (fun m s hm h=>by
   obtain ⟨f,f0,f1,f2⟩:=chain_ex (fun i s=>VoI T refs K (2 ^ N) m i s) (fun i s s'=>VoR refs K m i s s') K s h (fun i s hi h=>vo_step N T hN refs hr K m i hm hi hS s h)
   have l:=f1 K (Nat.le_refl _)
   refine ⟨f K,⟨l.good,l.ext,l.len,fun j hj=>?_,?_⟩,f,f0,rfl,f1,f2⟩
   ·obtain ⟨a,b⟩:=l.all j hj
    refine ⟨a,fun t=>?_⟩
    rw [b t]
    cases j with
    | zero=>simp
    | succ j =>
      have c1 : (if K - K < j + 1 then m + 1 else m) = m + 1:=if_pos (by omega)
      have c2 : (if K - 0 < j + 1 then m + 1 + 1 else m + 1) = m + 1:=if_neg (by omega)
      rw [c1,c2]
   ·have:=l.size
    rw [Nat.add_zero,Nat.add_mul m 1 K,Nat.one_mul]
    exact this)
 have l:=g1 refs.length (Nat.le_refl _)
 obtain ⟨r1,r2⟩:=l.all K (Nat.le_refl _)
 refine ⟨(g refs.length).T,(g refs.length).need.getD K 0,?_,⟨l.good,l.ext,r1,fun s=>?_,by have:=l.size; rwa [Nat.add_zero] at this⟩⟩
 ·have hll:=l.len
  refine FnH.intro lay mixed Tryz.func228 (by kernel_rfl) rfl (by kernel_rfl) rfl fun hok=>?_
  have hrl : refs.length ≤ 9223372036854775807:=by have:=hok.2.1.1; simpa [maxL] using this
  (try dsimp only[argC,succC]);(try dsimp only[awp]);conv=>whnf
  rw [show (K : Int) + 1 = ((K + 1 : Nat) : Int) by omega]
  refine ⟨inr64 (by omega) (by omega),?_⟩
  (try dsimp only[awp]);conv=>whnf
  refine ⟨⟨by omega,Int.le_refl _,by show ((K + 1 : Nat) : Int) * ((8 : Nat) : Int) ≤ 281474976710656; omega,by omega⟩,.wr ?_⟩
  rw [Int.toNat_natCast]
  (try dsimp only[awp]);conv=>whnf
  refine ⟨⟨by omega,by omega⟩,?_⟩
  (try dsimp only[awp]);conv=>whnf
  refine ⟨by simp,rfl,?_⟩
  (try dsimp only[awp]);conv=>whnf
  rw [show (List.replicate (K + 1) (AV.int IntKind.i64 0)).set (0 + Int.toNat 0) (strip (AV.int IntKind.i64 1)) = (g 0).need.map (.int .i64) from by
   rw [g0]
   simp [List.replicate_succ,strip]]
  refine LoopE.of <| (LoopSpec.inv (.refl _ _) (fun m : Nat=>m ≤ refs.length) (fun m=>[(18,.int .i64 m)]) (fun m=>(5,.arr 1 (K + 1) ((g m).need.map (.int .i64))) :: hpT (g m).T) (fun m=>refs.length - m) 0 (Nat.zero_le _) ?_ ?_ ?_)
  ·exact fun _=>rfl
  ·have hT0 : T = (g 0).T:=by rw [g0]
   refine ⟨?_,.mk ?_ (by simp [idsOk])⟩
   ·all_goals exact wk
   ·rw [← hT0]
    repeat' first|exact rfl|exact trivial|exact wR|exact lR _|apply aI
    all_goals first | exact leM_refl _ | exact encM_bnd _ _ | skip
  intro m hm _
  (try dsimp only[awp]);conv=>whnf
  refine And.intro (fun h=>?_) (fun h=>?_)
  ·have hlt : m < refs.length:=by simpa using h
   obtain ⟨f,f0,fK,f1,f2⟩:=g2 m hlt
   have em : refs.getD m 0 = refs[m]:=by rw [List.getD_eq_getElem?_getD,List.getElem?_eq_getElem hlt]; rfl
   (try dsimp only[awp]);conv=>whnf
   refine aidx hlt ?_
   (try dsimp only[awp]);conv=>whnf
   refine LoopE.of <| (LoopSpec.inv (.refl _ _) (fun i : Nat=>i ≤ K) (fun i=>[(10,.int .i64 ((K - i : Nat) : Int))]) (fun i=>(5,.arr 1 (K + 1) ((f i).need.map (.int .i64))) :: hpT (f i).T) (fun i=>K - i) 0 (Nat.zero_le _) ?_ ?_ ?_)
   ·exact fun _=>rfl
   ·rw [← f0]
    refine ⟨?_,.mk ?_ (by simp [idsOk])⟩
    ·all_goals exact wk
    ·repeat' first|exact rfl|exact trivial|exact wR|exact lR _|apply aI
     all_goals first | exact leM_refl _ | exact encM_bnd _ _ | skip
   intro i hi _
   have lf:=(f1 i hi).len
   (try dsimp only[awp]);conv=>whnf
   refine And.intro (fun h=>?_) (fun h=>?_)
   ·have hilt : i < K:=by omega
    obtain ⟨x,q1,q2⟩:=f2 i hilt
    rw [em] at q1
    (try dsimp only[awp]);conv=>whnf
    refine ADraw.mk ⟨[true,true,true,true,true,true,true,true,false,true,true,true,false,false,true,false],by kernel_rfl,?_⟩
    conv=>whnf
    refine ⟨inr64 (by omega) (by omega),?_⟩
    conv=>whnf
    rw [show ((K - i : Nat) : Int) - 1 = ((K - (i + 1) : Nat) : Int) by omega]
    refine ⟨⟨by omega,by omega⟩,?_⟩
    conv=>whnf
    rw [Nat.zero_add]
    refine aidxD 0 ⟨by omega,by omega⟩ ?_
    conv=>whnf
    refine ⟨rfl,?_⟩
    conv=>whnf
    refine ⟨⟨by omega,by omega⟩,?_⟩
    conv=>whnf
    rw [Nat.zero_add]
    refine aidxD 0 ⟨by omega,by omega⟩ ?_
    conv=>whnf
    refine ⟨rfl,?_⟩
    conv=>whnf
    rw [Int.toNat_natCast,Int.toNat_natCast,Int.toNat_natCast,Int.toNat_natCast]
    refine .gen _ _ (frT [(5,_)] (by simp) q1 (fun _=>rfl) (fun _=>rfl) rfl) fun _=>?_
    conv=>whnf
    refine ⟨⟨by omega,by omega⟩,?_⟩
    conv=>whnf
    refine ⟨by rw [List.length_map]; omega,rfl,?_⟩
    (try dsimp only[awp]);conv=>whnf
    refine ⟨inr64 (by omega) (by omega),?_⟩
    (try dsimp only[awp]);conv=>whnf
    refine ⟨i + 1,?_,?_,?_⟩
    ·exact hilt
    ·rw [q2]
     refine ⟨?_,.mk ?_ (by simp [idsOk])⟩
     ·repeat' first|exact rfl|exact trivial|exact wR|exact lR _|apply aI
      all_goals (show (_ : Int) = _; omega)
     ·repeat' first|exact rfl|exact trivial|exact wR|exact lR _|apply aI
      all_goals first | exact leM_refl _ | exact encM_bnd _ _ | (refine leRL_of ?_; rw [List.map_set]; congr 1; omega) | skip
    ·omega
   ·have hiK : i = K:=by omega
    subst hiK
    (try dsimp only[awp]);conv=>whnf
    refine zA ?_;conv=>whnf
    rw [fK]
    refine ⟨m + 1,?_,?_,?_⟩
    ·exact hlt
    ·refine ⟨?_,.mk ?_ (by simp [idsOk])⟩
     ·all_goals exact wk
     ·repeat' first|exact rfl|exact trivial|exact wR|exact lR _|apply aI
      all_goals first | exact leM_refl _ | exact encM_bnd _ _ | skip
    ·omega
  ·have hk : m = refs.length:=by (have : ¬ m < refs.length:=by simpa using h); omega
   subst hk
   (try dsimp only[awp]);conv=>whnf
   refine ⟨⟨by omega,by omega⟩,?_⟩
   (try dsimp only[awp]);conv=>whnf
   rw [Nat.zero_add]
   refine aidxD 0 ⟨by omega,by omega⟩ ?_
   (try dsimp only[awp]);conv=>whnf
   refine ⟨rfl,?_⟩
   (try dsimp only[awp]);conv=>whnf
   rw [Int.toNat_natCast,Int.toNat_natCast]
   refine ⟨⟨_,_,.refl _ _,?_⟩⟩
   conv=>whnf
   refine ⟨?_,rfl,by simp [nextId],.mk ?_ (by simp [idsOk])⟩
   ·all_goals exact wk
   ·repeat' first|exact rfl|exact trivial|exact wR|exact lR _|apply aI
    all_goals first | exact leM_refl _ | exact encM_bnd _ _ | (simp; done) | skip
 ·have:=r2 s
  rw [if_neg (by omega),List.take_length] at this
  exact this

theorem fold_and (l : List Bool) (b : Bool) : l.foldl (fun a c=>a && c) b = (b && l.all id):=by
 induction l generalizing b with
 | nil=>simp
 | cons x l ih=>rw [List.foldl_cons,ih]; simp [Bool.and_assoc]
theorem fold_or (l : List Bool) (b : Bool) : l.foldl (fun a c=>a || c) b = (b || l.any id):=by
 induction l generalizing b with
 | nil=>simp
 | cons x l ih=>rw [List.foldl_cons,ih]; simp [Bool.or_assoc]
theorem fold_xor (l : List Bool) (b : Bool) : l.foldl (fun a c=>a ^^ c) b = (b ^^ decide (l.countP id % 2 = 1)):=by
 induction l generalizing b with
 | nil=>simp
 | cons x l ih =>
   rw [List.foldl_cons,ih,List.countP_cons]
   have h : (List.countP id l) % 2 = 0 ∨ (List.countP id l) % 2 = 1:=by omega
   rcases h with h | h <;> cases x <;> cases b <;> simp [h,Nat.add_mod]

theorem all_count (l : List Bool) : l.all id = decide (l.countP id = l.length):=by
 rw [Bool.eq_iff_iff]
 simp [List.countP_eq_length]
theorem any_count (l : List Bool) : l.any id = decide (0 < l.countP id):=by
 rw [Bool.eq_iff_iff]
 simp [List.countP_pos_iff]

theorem cB_map (T : Tb) (s : Int → Bool) (refs : List Int) : (refs.map (ev T.nodes s)).countP id = cB T s refs:=by
 unfold cB; rw [List.countP_map]; rfl

theorem c_dnode (N : Nat) (T : Tb) (hT : GoodT T) (hN : T.n ≤ N) (v : Int) (i : Nat) (x : Nd) (hx : NdOk v i x) (refs : List Int) (hl : refs.length = x.args.length) (hr : ∀ r ∈ refs,T.Rf r) (hS : T.nodes.length + 600 * 2 ^ N ≤ 1000000000) :
  ∃ T' r,FnH Tryz.prog 130 [.ptr 0 [] 0,x.av,iL refs] (hpT T) (.int .i64 r) (hpT T') ∧ OpP T T' r (fun s=>ndVal x (cB T s refs)) (600 * 2 ^ N):=by
 obtain ⟨kind,k,args⟩:=x
 obtain ⟨hk,hn,_,hkk⟩:=hx
 dsimp only at hk hn hkk hl
 have hl16 : refs.length ≤ 16:=by
  rw [hl]; split at hn
  ·omega
  ·split at hn <;> omega
 have hp : 0 < 2 ^ N:=Nat.pow_pos (by decide)
 have weak : ∀ {T' : Tb} {r : Int} {f : (Int → Bool) → Bool} {z : Nat},z ≤ 600 * 2 ^ N → OpP T T' r f z → (∀ s,f s = ndVal ⟨kind,k,args⟩ (cB T s refs)) → OpP T T' r (fun s=>ndVal ⟨kind,k,args⟩ (cB T s refs)) (600 * 2 ^ N) :=
  fun hz p hf=>⟨p.good,p.ext,p.rf,fun s=>by rw [p.val s]; exact hf s,Nat.le_trans p.size (by omega)⟩
 have hm : refs.length * (2 * 2 ^ N) ≤ 32 * 2 ^ N:=by
  rw [← Nat.mul_assoc]; exact Nat.mul_le_mul_right _ (by omega)
 have hS1 : T.nodes.length + (refs.length + 1) * (2 * 2 ^ N) ≤ 1000000000:=by
  rw [Nat.add_mul,Nat.one_mul]; omega
 rcases (by omega : kind = 0 ∨ kind = 1 ∨ kind = 2 ∨ kind = 3 ∨ kind = 4 ∨ kind = 5) with rfl | rfl | rfl | rfl | rfl | rfl
 ·-- a constant
  have hkk : k = 0 ∨ k = 1:=by simpa using hkk
  have rfk : T.Rf k:=by
   rcases hkk with h | h
   ·rw [h]; exact .zero T
   ·rw [h]; exact .one T
  refine ⟨T,k,?_,⟨hT,.refl _,rfk,fun s=>by rcases hkk with rfl | rfl <;> rfl,by omega⟩⟩
  refine FnH.intro lay mixed Tryz.func130 (by kernel_rfl) rfl (by kernel_rfl) rfl fun hok=>?_
  (try dsimp only[argC,succC]);(try dsimp only[awp]);conv=>whnf
  refine And.intro (fun _=>?_) (fun h=>absurd rfl h)
  (try dsimp only[awp]);conv=>whnf
  refine ⟨⟨_,_,.refl _ _,?_⟩⟩
  conv=>whnf
  refine ⟨?_,rfl,by simp [nextId],.mk ?_ (by simp [idsOk])⟩
  ·all_goals exact wk
  ·repeat' first|exact rfl|exact trivial|exact wR|exact lR _|apply aI
   all_goals first | exact leM_refl _ | exact encM_bnd _ _ | (simp; done) | skip
 ·have hn : args.length = 1:=by simpa using hn
  obtain ⟨a,rfl⟩ : ∃ a,refs = [a]:=List.length_eq_one_iff.1 (by omega)
  obtain ⟨T',r,f,p⟩:=c_tNot N T hT hN a (hr a (by simp)) (by omega)
  refine ⟨T',r,?_,weak (by omega) p fun s=>by simp [ndVal,cB]⟩
  refine FnH.intro lay mixed Tryz.func130 (by kernel_rfl) rfl (by kernel_rfl) rfl fun hok=>?_
  (try dsimp only[argC,succC]);(try dsimp only[awp]);conv=>whnf
  refine And.intro (fun h=>absurd h (by simp)) (fun _=>?_)
  (try dsimp only[awp]);conv=>whnf
  refine And.intro (fun _=>?_) (fun h=>absurd rfl h)
  (try dsimp only[awp]);conv=>whnf
  refine AIdx.mk ⟨_,⟨by decide,rfl⟩,?_⟩
  (try dsimp only[awp]);conv=>whnf
  refine .gen _ _ (frT [(5,_)] (by simp) f (fun _=>rfl) (fun _=>rfl) rfl) fun _=>?_
  (try dsimp only[awp]);conv=>whnf
  refine ⟨⟨_,_,.refl _ _,?_⟩⟩
  conv=>whnf
  refine ⟨?_,rfl,by simp [nextId],.mk ?_ (by simp [idsOk])⟩
  ·all_goals exact wk
  ·repeat' first|exact rfl|exact trivial|exact wR|exact lR _|apply aI
   all_goals first | exact leM_refl _ | exact encM_bnd _ _ | (simp; done) | skip
 ·obtain ⟨T',r,f,p⟩:=join_ex N 57 (fun a b=>a && b) (fun T hT hN a b ha hb hS=>c_tAnd N T hT hN a b ha hb hS) T hT hN refs hr 1 (.one T) hS1
  refine ⟨T',r,?_,weak (by omega) p fun s=>by rw [fold_and,ev_one,Bool.true_and,all_count,cB_map,List.length_map,hl]; simp [ndVal]⟩
  refine FnH.intro lay mixed Tryz.func130 (by kernel_rfl) rfl (by kernel_rfl) rfl fun hok=>?_
  (try dsimp only[argC,succC]);(try dsimp only[awp]);conv=>whnf
  refine And.intro (fun h=>absurd h (by simp)) (fun _=>?_)
  (try dsimp only[awp]);conv=>whnf
  refine And.intro (fun h=>absurd h (by simp)) (fun _=>?_)
  (try dsimp only[awp]);conv=>whnf
  refine And.intro (fun _=>?_) (fun h=>absurd rfl h)
  (try dsimp only[awp]);conv=>whnf
  refine .gen _ _ (frT [(5,_)] (by simp) f (fun _=>rfl) (fun _=>rfl) rfl) fun _=>?_
  (try dsimp only[awp]);conv=>whnf
  refine ⟨⟨_,_,.refl _ _,?_⟩⟩
  conv=>whnf
  refine ⟨?_,rfl,by simp [nextId],.mk ?_ (by simp [idsOk])⟩
  ·all_goals exact wk
  ·repeat' first|exact rfl|exact trivial|exact wR|exact lR _|apply aI
   all_goals first | exact leM_refl _ | exact encM_bnd _ _ | (simp; done) | skip
 ·obtain ⟨T',r,f,p⟩:=join_ex N 227 (fun a b=>a || b) (fun T hT hN a b ha hb hS=>c_tOr N T hT hN a b ha hb hS) T hT hN refs hr 0 (.zero T) hS1
  refine ⟨T',r,?_,weak (by omega) p fun s=>by rw [fold_or,ev_zero,Bool.false_or,any_count,cB_map]; simp [ndVal]⟩
  refine FnH.intro lay mixed Tryz.func130 (by kernel_rfl) rfl (by kernel_rfl) rfl fun hok=>?_
  (try dsimp only[argC,succC]);(try dsimp only[awp]);conv=>whnf
  refine And.intro (fun h=>absurd h (by simp)) (fun _=>?_)
  (try dsimp only[awp]);conv=>whnf
  refine And.intro (fun h=>absurd h (by simp)) (fun _=>?_)
  (try dsimp only[awp]);conv=>whnf
  refine And.intro (fun h=>absurd h (by simp)) (fun _=>?_)
  (try dsimp only[awp]);conv=>whnf
  refine And.intro (fun _=>?_) (fun h=>absurd rfl h)
  (try dsimp only[awp]);conv=>whnf
  refine .gen _ _ (frT [(5,_)] (by simp) f (fun _=>rfl) (fun _=>rfl) rfl) fun _=>?_
  (try dsimp only[awp]);conv=>whnf
  refine ⟨⟨_,_,.refl _ _,?_⟩⟩
  conv=>whnf
  refine ⟨?_,rfl,by simp [nextId],.mk ?_ (by simp [idsOk])⟩
  ·all_goals exact wk
  ·repeat' first|exact rfl|exact trivial|exact wR|exact lR _|apply aI
   all_goals first | exact leM_refl _ | exact encM_bnd _ _ | (simp; done) | skip
 ·have hkk : 1 ≤ k ∧ k ≤ args.length:=by simpa using hkk
  obtain ⟨K,rfl⟩ : ∃ K : Nat,k = (K : Int):=⟨k.toNat,by omega⟩
  have hmk : refs.length * K * 2 ^ N ≤ 256 * 2 ^ N:=Nat.mul_le_mul_right _ (by
   have : refs.length * K ≤ 16 * 16:=Nat.mul_le_mul (by omega) (by omega)
   omega)
  obtain ⟨T',r,f,p⟩:=c_vote N T hT hN refs hr K (by omega) (by omega)
  refine ⟨T',r,?_,weak (by omega) p fun s=>by simp [ndVal]⟩
  refine FnH.intro lay mixed Tryz.func130 (by kernel_rfl) rfl (by kernel_rfl) rfl fun hok=>?_
  (try dsimp only[argC,succC]);(try dsimp only[awp]);conv=>whnf
  refine And.intro (fun h=>absurd h (by simp)) (fun _=>?_)
  (try dsimp only[awp]);conv=>whnf
  refine And.intro (fun h=>absurd h (by simp)) (fun _=>?_)
  (try dsimp only[awp]);conv=>whnf
  refine And.intro (fun h=>absurd h (by simp)) (fun _=>?_)
  (try dsimp only[awp]);conv=>whnf
  refine And.intro (fun h=>absurd h (by simp)) (fun _=>?_)
  (try dsimp only[awp]);conv=>whnf
  refine And.intro (fun h=>absurd h (by simp)) (fun _=>?_)
  (try dsimp only[awp]);conv=>whnf
  refine .gen _ _ (frT [(5,_)] (by simp) f (fun _=>rfl) (fun _=>rfl) rfl) fun _=>?_
  (try dsimp only[awp]);conv=>whnf
  refine ⟨⟨_,_,.refl _ _,?_⟩⟩
  conv=>whnf
  refine ⟨?_,rfl,by simp [nextId],.mk ?_ (by simp [idsOk])⟩
  ·all_goals exact wk
  ·repeat' first|exact rfl|exact trivial|exact wR|exact lR _|apply aI
   all_goals first | exact leM_refl _ | exact encM_bnd _ _ | (simp; done) | skip
 ·obtain ⟨T',r,f,p⟩:=join_ex N 53 (fun a b=>a ^^ b) (fun T hT hN a b ha hb hS=>c_tXor N T hT hN a b ha hb hS) T hT hN refs hr 0 (.zero T) hS1
  refine ⟨T',r,?_,weak (by omega) p fun s=>by rw [fold_xor,ev_zero,Bool.false_xor,cB_map]; simp [ndVal]⟩
  refine FnH.intro lay mixed Tryz.func130 (by kernel_rfl) rfl (by kernel_rfl) rfl fun hok=>?_
  (try dsimp only[argC,succC]);(try dsimp only[awp]);conv=>whnf
  refine And.intro (fun h=>absurd h (by simp)) (fun _=>?_)
  (try dsimp only[awp]);conv=>whnf
  refine And.intro (fun h=>absurd h (by simp)) (fun _=>?_)
  (try dsimp only[awp]);conv=>whnf
  refine And.intro (fun h=>absurd h (by simp)) (fun _=>?_)
  (try dsimp only[awp]);conv=>whnf
  refine And.intro (fun h=>absurd h (by simp)) (fun _=>?_)
  (try dsimp only[awp]);conv=>whnf
  refine And.intro (fun _=>?_) (fun h=>absurd rfl h)
  (try dsimp only[awp]);conv=>whnf
  refine .gen _ _ (frT [(5,_)] (by simp) f (fun _=>rfl) (fun _=>rfl) rfl) fun _=>?_
  (try dsimp only[awp]);conv=>whnf
  refine ⟨⟨_,_,.refl _ _,?_⟩⟩
  conv=>whnf
  refine ⟨?_,rfl,by simp [nextId],.mk ?_ (by simp [idsOk])⟩
  ·all_goals exact wk
  ·repeat' first|exact rfl|exact trivial|exact wR|exact lR _|apply aI
   all_goals first | exact leM_refl _ | exact encM_bnd _ _ | (simp; done) | skip


end S

open Go Go.AL Go.Proofs
namespace Go.AL
section
variable {P : Program} {ops : Array Oper} {Q : Exit → Act → World → Prop} {a : Act} {w : World} {o : Oper} {l : List Oper}

structure Ext (w w' : World) : Prop where
 size : w.heap.size ≤ w'.heap.size
 old : ∀ b,b < w.heap.size → w'.heap[b]? = w.heap[b]?
 os : w'.os = w.os
 tape : w'.tape = w.tape
 output : w'.output = w.output

end
end Go.AL

namespace S
set_option maxRecDepth 100000

def exEv : Array Value:=#[.string ⟨#[97]⟩,.bool false,.slice none 0 0,.slice none 0 0,.bool false,.slice none 0 0,.slice none 0 0,.bool false,.slice none 0 0,.slice none 0 0,.int .i64 0,.string ⟨#[98]⟩,.bool false,.slice none 0 0,.slice none 0 0,.bool false,.slice none 0 0,.slice none 0 0,.bool false,.slice none 0 0,.slice none 0 0,.int .i64 0,.string ⟨#[99]⟩,.bool false,.slice none 0 0,.slice none 0 0,.bool false,.slice none 0 0,.slice none 0 0,.bool false,.slice none 0 0,.slice none 0 0,.int .i64 0]
def exI0 : Array Value:=#[.string ⟨#[97]⟩,.string ⟨#[64,112]⟩]
def exG0 (n : Nat) : Array Value:=#[.string ⟨#[103]⟩,.int .i64 0,.int .i64 0,.slice (some ⟨n,0,none⟩) 2 2,.bool false,.slice none 0 0,.slice none 0 0]
def exI1 : Array Value:=#[.string ⟨#[98]⟩,.string ⟨#[99]⟩]
def exG1 (n : Nat) : Array Value:=#[.string ⟨#[104]⟩,.int .i64 1,.int .i64 0,.slice (some ⟨n,0,none⟩) 2 2,.bool false,.slice none 0 0,.slice none 0 0]
def exP (n : Nat) : Array Value:=#[.string ⟨#[112]⟩,.string ⟨#[104]⟩,.slice (some ⟨n,0,none⟩) 1 1]
structure ExW (w w' : World) : Prop where
 ext : Ext w w'
 size : w'.heap.size = w.heap.size + 7
 ev : w'.heap[w.heap.size + 1]? = some (.cells exEv 142)
 i0 : w'.heap[w.heap.size + 2]? = some (.cells exI0 9)
 g0 : w'.heap[w.heap.size + 3]? = some (.cells (exG0 (w.heap.size + 2)) 163)
 i1 : w'.heap[w.heap.size + 4]? = some (.cells exI1 9)
 g1 : w'.heap[w.heap.size + 5]? = some (.cells (exG1 (w.heap.size + 4)) 163)
 pg : w'.heap[w.heap.size + 6]? = some (.cells (exP (w.heap.size + 5)) 144)

end S

open Go Go.AL Go.Proofs
namespace Go.AL
section
variable {P : Program} {L : Lay} {ops : Array Oper} {Q : Exit → Act → World → Prop} {a : Act} {w : World} {o : Oper} {l : List Oper}

structure PutA (a a' : Act) (d : Nat) (v : Value) : Prop where
 size : a'.tmps.size = a.tmps.size
 defers : a'.defers = a.defers
 new : a'.eval (.tmp d) = v
 old : ∀ t : Nat,t ≠ d → a'.eval (.tmp t) = a.eval (.tmp t)

end
end Go.AL

namespace S
set_option maxRecDepth 100000

section
variable {w : World} {Im : Nat → Nat → Prop}

end


structure CInv (m : Md) (st : CS) : Prop where
 len : st.nodes.length = st.es.length
 nd : (st.es.map (·.1)).Nodup
 ok : ∀ e ∈ st.es,okN m e.1 ∧ e.1.1 ≠ 0

theorem nodup_sub {α : Type} [DecidableEq α] : ∀ {l u : List α},l.Nodup → (∀ x ∈ l,x ∈ u) → l.length ≤ u.length
 | [],_,_,_=>Nat.zero_le _
 | x :: l,u,hn,hs=>by
   rw [List.nodup_cons] at hn
   have hx:=hs x (by simp)
   have:=nodup_sub (u:=u.erase x) hn.2 fun y hy=>(List.mem_erase_of_ne (fun e=>hn.1 (by rw [← e]; exact hy))).2 (hs y (by simp [hy]))
   rw [List.length_erase_of_mem hx] at this
   have:=List.length_pos_of_mem hx
   simp only [List.length_cons]; omega


structure PermO (o : List Int) (n : Nat) : Prop where
 len : o.length = n
 rng : ∀ x ∈ o,0 ≤ x ∧ x < (n : Int)
 nd : o.Nodup

theorem PermO.mem {o : List Int} {n : Nat} (h : PermO o n) {i : Int} (h0 : 0 ≤ i) (h1 : i < (n : Int)) : i ∈ o:=by
 apply Classical.byContradiction
 intro hi
 have:=nodup_sub (l:=i :: o) (u:=(List.range n).map (fun k : Nat=>(k : Int))) (List.nodup_cons.2 ⟨hi,h.nd⟩) (fun x hx=>by
  have hr : 0 ≤ x ∧ x < (n : Int):=by
   rcases List.mem_cons.1 hx with rfl | hx
   ·exact ⟨h0,h1⟩
   ·exact h.rng x hx
  exact List.mem_map.2 ⟨x.toNat,List.mem_range.2 (by omega),by omega⟩)
 simp [h.len] at this
 omega

def plcF (o : List Int) : Nat → List Int
 | 0=>List.replicate o.length 0
 | k + 1=>(plcF o k).set (o.getD k 0).toNat k

theorem plcF_len (o : List Int) : ∀ k,(plcF o k).length = o.length
 | 0=>by simp [plcF]
 | k + 1=>by simp [plcF,plcF_len o k]

theorem plcF_at {o : List Int} {n : Nat} (h : PermO o n) : ∀ (k : Nat),k ≤ n → ∀ (j : Nat),j < k → (plcF o k).getD (o.getD j 0).toNat 0 = (j : Int):=by
 intro k
 induction k with
 | zero=>intro _ j hj; omega
 | succ k ih =>
   intro hk j hj
   have hlk : k < o.length:=by rw [h.len]; omega
   have hlj : j < o.length:=by rw [h.len]; omega
   have ek : o.getD k 0 = o[k]:=by rw [List.getD_eq_getElem?_getD,List.getElem?_eq_getElem hlk]; rfl
   have ej : o.getD j 0 = o[j]:=by rw [List.getD_eq_getElem?_getD,List.getElem?_eq_getElem hlj]; rfl
   have rk:=h.rng _ (List.getElem_mem hlk)
   have rj:=h.rng _ (List.getElem_mem hlj)
   show ((plcF o k).set (o.getD k 0).toNat k).getD _ 0 = _
   rw [getD_set_nat (by rw [plcF_len,h.len,ek]; omega)]
   split
   ·rename_i e
    rw [ek,ej] at e
    have e2 : o[j] = o[k]:=by omega
    by_cases hjk : j = k
    ·rw [hjk]
    ·exact absurd e2 (List.pairwise_iff_getElem.1 h.nd j k hlj hlk (by omega))
   ·rename_i e
    have hjk : j ≠ k:=fun e'=>e (by rw [e'])
    exact ih (by omega) j (by omega)

def Tb.new (o : List Int) : Tb:=⟨o,plcF o o.length,[],[],[]⟩

theorem new_good {o : List Int} {n : Nat} (h : PermO o n) (hn : n ≤ 60) : GoodT (Tb.new o):=by
 have hl:=h.len
 have at':=plcF_at h n (Nat.le_refl _)
 refine ⟨by show o.length ≤ 60; omega,plcF_len _ _,fun k h0 h1=>?_,fun i h0 h1=>?_,fun k hk=>absurd hk (Nat.not_lt_zero _),fun x r=>?_,fun c a b r hh=>by cases hh⟩
 ·have h1 : k < (o.length : Int):=h1
  have hlk : k.toNat < o.length:=by omega
  have ek : o.getD k.toNat 0 = o[k.toNat]:=by rw [List.getD_eq_getElem?_getD,List.getElem?_eq_getElem hlk]; rfl
  have rk:=h.rng _ (List.getElem_mem hlk)
  refine ⟨?_,?_,?_⟩
  ·show 0 ≤ o.getD k.toNat 0; rw [ek]; exact rk.1
  ·show o.getD k.toNat 0 < (o.length : Int); rw [ek,hl]; exact rk.2
  ·show (plcF o o.length).getD (o.getD k.toNat 0).toNat 0 = k
   rw [hl,at' k.toNat (by omega)]; omega
 ·have h1 : i < (o.length : Int):=h1
  obtain ⟨k,hk,e⟩:=List.mem_iff_getElem.1 (h.mem h0 (by omega))
  have ek : o.getD k 0 = i:=by rw [List.getD_eq_getElem?_getD,List.getElem?_eq_getElem hk]; exact e
  have:=at' k (by omega)
  rw [ek] at this
  have hp : (Tb.new o).pl i = (k : Int):=by show (plcF o o.length).getD i.toNat 0 = _; rw [hl]; exact this
  rw [hp]
  refine ⟨by omega,by show (k : Int) < (o.length : Int); omega,?_⟩
  show o.getD (k : Int).toNat 0 = i
  rw [Int.toNat_natCast]; exact ek
 ·constructor
  ·intro hh; cases hh
  ·rintro ⟨k,hk,_⟩; exact absurd hk (Nat.not_lt_zero _)

abbrev xN (o : List Int) (nd : AV) : AV:=.ag [.sl 1 (o.map (.int .i64)) .no,.ms 0 0 o.length o.length 1,nd,.mp 1,.mp 2]
abbrev hpN0 (o : List Int) (p : List Int) : Heap:=[(3,.box (xN o .nils)),(2,.amap shN []),(1,.amap shN []),(0,.arr 1 o.length (p.map (.int .i64)))]
abbrev hpN (o : List Int) : Heap:=[(4,.tok 3 0),(3,.box (xN o (.sl 3 [] (.own 4)))),(2,.amap shN []),(1,.amap shN []),(0,.arr 1 o.length ((plcF o o.length).map (.int .i64)))]

theorem c_tNew0 {o : List Int} {n : Nat} (h : PermO o n) (hn : n ≤ 60) :
  FnH Tryz.prog 50 [iL o] [] (.ptr 3 [] 0) (hpN0 o (plcF o o.length)):=by
 have hl:=h.len
 refine FnH.intro lay mixed Tryz.func50 (by kernel_rfl) rfl (by kernel_rfl) rfl fun hok=>?_
 (try dsimp only[argC,succC]);(try dsimp only[awp]);conv=>whnf
 refine ADraw.mk ⟨[true,true,true,true,false,false,false,true,false,true],by kernel_rfl,?_⟩
 conv=>whnf
 refine .pure (by simp [maxL]; omega) (by simp; omega) ?_
 refine ⟨rfl,?_⟩
 conv=>whnf
 rw [List.length_map]
 refine ⟨⟨by omega,Int.le_refl _,by show (o.length : Int) * ((8 : Nat) : Int) ≤ 281474976710656; omega,by omega⟩,.wr ?_⟩
 rw [Int.toNat_natCast]
 conv=>whnf
 refine LoopE.of <| (LoopSpec.inv (.refl _ _) (fun k : Nat=>k ≤ o.length) (fun k=>[(17,.int .i64 k)]) (fun k=>hpN0 o (plcF o k)) (fun k=>o.length - k) 0 (Nat.zero_le _) ?_ ?_ ?_)
 ·exact fun _=>rfl
 ·refine ⟨?_,.mk ?_ (by simp [idsOk])⟩
  ·all_goals exact wk
  ·repeat' first|exact rfl|exact trivial|exact wR|exact lR _|apply aI
   all_goals first | (show leRL (List.replicate o.length _) (List.map _ (List.replicate o.length 0)); rw [List.map_replicate]; exact leRL_refl _) | skip
 intro k hk _
 have hpl:=plcF_len o k
 (try dsimp only[awp]);conv=>whnf
 refine And.intro (fun g=>?_) (fun g=>?_)
 ·have hlt : k < o.length:=by simpa using g
  have rk:=h.rng _ (List.getElem_mem hlt)
  have ek : o.getD k 0 = o[k]:=by rw [List.getD_eq_getElem?_getD,List.getElem?_eq_getElem hlt]; rfl
  have es : plcF o (k + 1) = (plcF o k).set (o[k]).toNat k:=by show (plcF o k).set (o.getD k 0).toNat k = _; rw [ek]
  (try dsimp only[awp]);conv=>whnf
  refine aidx hlt ?_
  (try dsimp only[awp]);conv=>whnf
  refine ⟨⟨rk.1,by omega⟩,?_⟩
  (try dsimp only[awp]);conv=>whnf
  refine ⟨by rw [List.length_map]; omega,rfl,?_⟩
  (try dsimp only[awp]);conv=>whnf
  refine zA ?_;conv=>whnf
  refine ⟨k + 1,?_,?_,?_⟩
  ·exact hlt
  ·rw [es]
   refine ⟨?_,.mk ?_ (by simp [idsOk])⟩
   ·all_goals exact wk
   ·repeat' first|exact rfl|exact trivial|exact wR|exact lR _|apply aI
    all_goals first | (rw [Nat.zero_add,List.map_set]; exact leRL_refl _) | skip
  ·omega
 ·have hk : k = o.length:=by (have : ¬ k < o.length:=by simpa using g); omega
  subst hk
  (try dsimp only[awp]);conv=>whnf
  refine ⟨⟨_,_,.refl _ _,?_⟩⟩
  conv=>whnf
  refine ⟨?_,rfl,by simp [nextId],.mk ?_ (by simp [idsOk])⟩
  ·all_goals exact wk
  ·all_goals exact wk

theorem c_tNew {o : List Int} {n : Nat} (h : PermO o n) (hn : n ≤ 60) : FnH Tryz.prog 50 [iL o] [] (.ptr 3 [] 0) (hpN o) :=
 FnH.cv (c_tNew0 h hn) (.growF 3 [2] 3 [] (xN o .nils) .nils _ rfl rfl (.inl ⟨rfl,rfl⟩) rfl (.refl _ _)) rfl
end S
