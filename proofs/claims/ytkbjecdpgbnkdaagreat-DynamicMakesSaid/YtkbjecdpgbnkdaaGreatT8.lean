/-
  Contracts of functions of the program, over the logic of the texts before. Nothing is assumed.
-/
import Derived.Test.YtkbjecdpgbnkdaaGreatT7

open Go Go.AL Go.Proofs
namespace S
set_option maxRecDepth 100000

theorem good_of {ve : Int} {n : Nat} {sp : List Int} {k : Int} {al : List Int} (h1 : 0 ≤ k ∧ k ≤ 8) (h2 : argsR k al.length = true) (h3 : ∀ a ∈ al,0 ≤ a ∧ a < ve + n) (h7 : k ≠ 7) (h8 : k ≠ 8) (hk : k ≠ 2) : gateErr (dv ve) n ⟨k,0,al,zq⟩ sp = 0:=by
 have a1 : ¬ (al.any fun a=>decide (a < 0) || decide (ve + (n : Int) ≤ a)) = true:=by
  rw [Bool.not_eq_true,List.any_eq_false]
  intro a ha
  have:=h3 a ha
  simp; omega
 have hz : zeroR zq = true:=rfl
 exact (if_neg (by show ¬ k < 0; omega)).trans ((if_neg (by show ¬ 8 < k; omega)).trans ((if_neg (by show ¬ argsR k al.length = false; rw [h2]; simp)).trans ((if_neg a1).trans ((if_neg (by rintro (h | h); exact h7 h.1; exact h8 h.1)).trans ((if_neg (fun h=>h7 h.1)).trans
  ((if_neg (fun h=>hk h.1)).trans ((if_neg (fun h=>h.2 rfl)).trans ((if_neg (fun h=>h7 h.1)).trans (if_neg (fun h=>by have:=h.2; rw [show (⟨k,0,al,zq⟩ : Gate).dorm = zq from rfl,hz] at this; cases this))))))))))

theorem house_good {ve : Int} (hv : 1 ≤ ve) (n : Nat) (sp : List Int) : gateErr (dv ve) n ⟨3,0,[0],zq⟩ sp = 0 :=
 good_of (by decide) rfl (fun a ha=>by simp at ha; omega) (by decide) (by decide) (by decide)

theorem house_good2 {ve : Int} (hv : 1 ≤ ve) (on : Bool) (n : Nat) (sp : List Int) : gateErr (dv ve) (n + 1) ⟨if on = true then 1 else 0,0,[0,ve + n],zq⟩ sp = 0:=by
 refine good_of ?_ ?_ (fun a ha=>?_) ?_ ?_ ?_
 ·cases on <;> decide
 ·cases on <;> rfl
 ·simp at ha; omega
 all_goals cases on <;> decide

theorem house_T {m : Md} {ve : Int} (hv : 1 ≤ ve) {s : DS} (hT : TInv m ve s) {x : Node} (hn : lookO s.es x = none) (on : Bool) :
  TInv m ve ⟨s.gates ++ houseG on (ve + s.gates.length),mark s.es x (ve + s.gates.length + 1)⟩:=by
 have t1:=hT.pushG (g:=⟨3,0,[0],zq⟩) (house_good hv _ _) (by simp) (.inl rfl)
 have t2:=t1.pushM (by omega) (g:=⟨if on = true then 1 else 0,0,[0,ve + s.gates.length],zq⟩) (x:=x) hn (by rw [List.length_append,List.length_singleton]; exact house_good2 hv on _ _)
  (fun h=>by cases on <;> simp at h) (.inl rfl)
 dsimp only at t2
 rw [List.append_assoc,List.length_append,List.length_singleton] at t2
 have e : ve + ((s.gates.length + 1 : Nat) : Int) = ve + s.gates.length + 1:=by omega
 rw [e] at t2
 exact t2

theorem compD_T {m : Md} (hM : MOk m) (hv : 1 ≤ m.evs.length) {rank : Node → Nat} (hr : RankM m rank) : ∀ (n : Nat) (x : Node) (s : DS),okN m x → lvlD rank x < n → DInv m s → TInv m m.evs.length s →
  TInv m m.evs.length (compD m m.evs.length n x s).2 ∧ s.gates.length ≤ (compD m m.evs.length n x s).2.gates.length ∧
  (0 ≤ (compD m m.evs.length n x s).1 ∧ (compD m m.evs.length n x s).1 < (m.evs.length : Int) + (compD m m.evs.length n x s).2.gates.length) ∧ (x.1 = 0 → (compD m m.evs.length n x s).1 = x.2.2):=by
 intro n
 induction n with
 | zero=>intro x s _ h; omega
 | succ n ih =>
   intro x st hx hn hI hT
   have hcl:=hM.closed
   unfold compD
   split
   ·rename_i h0
    refine ⟨hT,Nat.le_refl _,?_,fun _=>rfl⟩
    rcases hx with h | h | h
    ·have:=h.2.2; dsimp only; omega
    ·omega
    ·have:=(mem_all.1 h).1; omega
   rename_i h0
   split
   ·rename_i a ha
    have:=hT.val _ (lookO_memD ha)
    exact ⟨hT,Nat.le_refl _,this,fun h=>absurd h h0⟩
   rename_i hno
   split
   ·refine ⟨house_T (by omega) hT hno _,by dsimp only; rw [List.length_append]; omega,?_,fun h=>absurd h h0⟩
    dsimp only
    rw [List.length_append,show (houseG (houseAt m x).on ((m.evs.length : Int) + st.gates.length)).length = 2 from rfl]
    omega
   rename_i h1
   have h2 : x.1 = 2:=by
    rcases hx with h | h | h
    ·omega
    ·omega
    ·exact (mem_all.1 h).1
   obtain ⟨hxa,hk⟩:=okN_kids hcl hx h2
   have hlv : rank x < n:=by unfold lvlD at hn; rw [if_pos h2] at hn; omega
   have hInv:=compD_inv hcl hr m.evs.length n
   have key : ∀ (l : List Node) (s : DS) (acc : List Int),(∀ y ∈ l,okN m y ∧ (y.1 = 2 → rank y < rank x)) → DInv m s → TInv m m.evs.length s → ∃ bs,(compDL (compD m m.evs.length n) l s acc).1 = acc ++ bs ∧ bs.length = l.length ∧
     (∀ (j : Nat) (h : j < l.length),l[j].1 = 0 → bs[j]? = some l[j].2.2) ∧ (∀ b ∈ bs,0 ≤ b ∧ b < (m.evs.length : Int) + (compDL (compD m m.evs.length n) l s acc).2.gates.length) ∧
     TInv m m.evs.length (compDL (compD m m.evs.length n) l s acc).2 ∧ s.gates.length ≤ (compDL (compD m m.evs.length n) l s acc).2.gates.length ∧
     ∀ z : Node,z.1 = 2 → rank x ≤ rank z → lookO s.es z = none → lookO (compDL (compD m m.evs.length n) l s acc).2.es z = none:=by
    intro l
    induction l with
    | nil=>intro s acc _ _ h; exact ⟨[],by simp [compDL],rfl,fun j hj=>by simp at hj,fun b hb=>by simp at hb,h,Nat.le_refl _,fun _ _ _ h=>h⟩
    | cons y l ihl =>
      intro s acc hl hI hT
      obtain ⟨hy,hyr⟩:=hl y (by simp)
      obtain ⟨hI',g'⟩:=hInv y s hy hI
      obtain ⟨t1,t2,t3,t4⟩:=ih y s hy (by unfold lvlD; split <;> first | (rename_i e; have:=hyr e; omega) | omega) hI hT
      obtain ⟨bs,b1,b2,b3,b4,b5,b6,b7⟩:=ihl (compD m m.evs.length n y s).2 (acc ++ [(compD m m.evs.length n y s).1]) (fun z hz=>hl z (by simp [hz])) hI' t1
      rw [show compDL (compD m m.evs.length n) (y :: l) s acc = compDL (compD m m.evs.length n) l (compD m m.evs.length n y s).2 (acc ++ [(compD m m.evs.length n y s).1]) from rfl]
      refine ⟨(compD m m.evs.length n y s).1 :: bs,by rw [b1]; simp,by simp [b2],?_,?_,b5,by omega,fun z hz hxz hs=>b7 z hz hxz (g' z hz (fun e=>by have:=hyr e; omega) hs)⟩
      ·intro j hj hz
       cases j with
       | zero=>exact congrArg some (t4 hz)
       | succ j=>exact b3 j (by simpa using hj) hz
      ·intro b hb
       rcases List.mem_cons.1 hb with rfl | hb
       ·omega
       ·exact b4 b hb
   obtain ⟨bs,b1,b2,b3,b4,b5,b6,b7⟩:=key (kidsM m x) st [] (fun y hy=>⟨hk y hy,hr x hx h2 y hy⟩) hI hT
   have hno2:=b7 x h2 (Nat.le_refl _) hno
   rw [List.nil_append] at b1
   obtain ⟨g1,g2⟩:=gate_good hM hxa hno2 b5 b2 b3 b4
   rw [b1]
   refine ⟨b5.pushM (by omega) hno2 g1 (fun h7=>⟨hxa,g2 h7⟩) (.inr ⟨x,hxa,rfl⟩),by dsimp only; rw [List.length_append]; omega,?_,fun h=>absurd h h0⟩
   dsimp only
   rw [List.length_append,List.length_singleton]
   omega

theorem dynL_T {m : Md} (hM : MOk m) (hv : 1 ≤ m.evs.length) {rank : Node → Nat} (hr : RankM m rank) (hlv : ∀ x,lvlD rank x < fuelD m) : ∀ (l : List Node) (s : DS),(∀ x ∈ l,x ∈ allNodes m) → DInv m s → TInv m m.evs.length s →
  TInv m m.evs.length (dynL m l s) ∧ s.gates.length ≤ (dynL m l s).gates.length
 | [],s,_,_,h=>⟨h,Nat.le_refl _⟩
 | x :: l,s,hl,hI,hT=>by
   rw [dynL_cons]
   have hx : okN m x:=.inr (.inr (hl x (by simp)))
   split
   ·obtain ⟨t1,t2,_,_⟩:=compD_T hM hv hr (fuelD m) x s hx (hlv x) hI hT
    obtain ⟨k1,k2⟩:=dynL_T hM hv hr hlv l _ (fun y hy=>hl y (by simp [hy])) (compD_inv hM.closed hr _ _ x s hx hI).1 t1
    exact ⟨k1,by omega⟩
   ·exact dynL_T hM hv hr hlv l s (fun y hy=>hl y (by simp [hy])) hI hT

theorem tree_T {m : Md} (hM : MOk m) (hv : 1 ≤ m.evs.length) : gatesErr (treeD m) (treeD m).gates 0 [] = 0 ∧ (0 ≤ (treeD m).top ∧ (treeD m).top < (m.evs.length : Int) + (treeD m).gates.length) ∧ ∀ g ∈ (treeD m).gates,g.dorm = zq ∨ ∃ y ∈ allNodes m,g.dorm = (gateAt m y).dorm:=by
 obtain ⟨rank,hr,hlv⟩:=rank_bdD hM
 have hin:=hM.inOk (.inl rfl) hM.top
 have hI0 : DInv m ⟨[],[]⟩:=⟨by simp,by simp,by simp⟩
 have hT0 : TInv m m.evs.length ⟨[],[]⟩:=⟨rfl,fun e he=>by simp at he,fun a ha=>by simp [spAllG] at ha,fun g hg=>by simp at hg⟩
 obtain ⟨t1,t2,t3,t4⟩:=compD_T hM hv hr (fuelD m) (resR m (-1) m.top) ⟨[],[]⟩ hin.ok (hlv _) hI0 hT0
 obtain ⟨k1,k2⟩:=dynL_T hM hv hr hlv (allNodes m) _ (fun _ h=>h) (compD_inv hM.closed hr m.evs.length (fuelD m) (resR m (-1) m.top) ⟨[],[]⟩ hin.ok hI0).1 t1
 refine ⟨?_,?_,k1.dorm⟩
 ·rw [gatesErr_dv]; exact k1.ok
 ·show 0 ≤ (compD m m.evs.length (fuelD m) (resR m (-1) m.top) ⟨[],[]⟩).1 ∧ (compD m m.evs.length (fuelD m) (resR m (-1) m.top) ⟨[],[]⟩).1 < (m.evs.length : Int) + (dynL m (allNodes m) (compD m m.evs.length (fuelD m) (resR m (-1) m.top) ⟨[],[]⟩).2).gates.length
  omega

theorem tree_ok {m : Md} (h : makeE m = 0) : checkR (treeD m) = 0:=by
 unfold makeE at h
 split at h
 ·rename_i h1; exact absurd h h1
 rename_i h1
 have hM:=checkM_ok (by simpa using h1)
 split at h
 ·cases h
 rename_i h2
 split at h
 ·cases h
 rename_i h3
 obtain ⟨g1,g2,_⟩:=tree_T hM (by omega)
 have hev:=hM.lens.1
 have hra : ∀ x ∈ m.evs,badRat x.fail = false ∧ badRat x.repair = false:=by
  intro x hx
  obtain ⟨i,hi,rfl⟩:=List.getElem_of_mem hx
  have:=(eventsErr_zero hM.evs).2.2.1 i hi
  unfold evErr at this
  split at this
  ·cases this
  split at this
  ·cases this
  split at this
  ·cases this
  split at this
  ·cases this
  rename_i r1
  split at this
  ·cases this
  rename_i r2
  have key : ∀ y,¬ rateB y = false → badRat y = false:=by
   intro y hy
   simp [rateB] at hy
   simp [badRat,hy.1]
   exact hy.2
  exact ⟨key _ r1,key _ r2⟩
 have hvs : (treeD m).vars = (m.evs.length : Int):=rfl
 have hf : (treeD m).fail = m.evs.map Ev.fail:=rfl
 have hre : (treeD m).repair = m.evs.map Ev.repair:=rfl
 unfold checkR
 rw [hvs,hf,hre,g1,if_neg (by omega),if_neg (by omega),if_neg h3,if_neg (by simp),if_neg (by simp),if_neg,if_neg (by simp),if_neg (by omega),if_neg (by omega)]
 intro h
 simp only [Bool.or_eq_true,List.any_eq_true,List.mem_map] at h
 rcases h with ⟨y,⟨x,hx,rfl⟩,hb⟩ | ⟨y,⟨x,hx,rfl⟩,hb⟩
 ·rw [(hra x hx).1] at hb; cases hb
 ·rw [(hra x hx).2] at hb; cases hb

theorem ratSelf (a : Rat) : FnH Tryz.prog 20 [a.av,a.av] [] .tt []:=(c_ratEq a a).weak (R':=.tt) (by show decide _ = true; simp)

theorem c_rats1 (a : List Rat) : FnH Tryz.prog 93 [.sl 3 (a.map Rat.av) .no,.sl 3 (a.map Rat.av) .no] [] .tt []:=by
 refine FnH.intro lay mixed Tryz.func93 (by kernel_rfl) rfl (by kernel_rfl) rfl fun hok=>?_
 have ha : a.length ≤ 9223372036854775807:=by simpa [OkL,Ok,maxL] using hok.1.1
 (try dsimp only[argC,succC]);(try dsimp only[awp]);conv=>whnf
 refine And.intro (fun h=>absurd rfl h) (fun _=>?_)
 (try dsimp only[awp]);conv=>whnf
 refine LoopE.of <| LoopSpec.inv (.refl _ _) (fun (i : Nat)=>i ≤ a.length) (fun (i : Nat)=>[(13,.int .i64 i)]) (fun _=>_) (fun (i : Nat)=>a.length - i) 0 ?_ (fun _=>rfl) ?_ ?_
 ·exact Nat.zero_le _
 ·all_goals exact wk
 intro i hi _
 (try dsimp only[awp]);conv=>whnf
 refine And.intro (fun h1=>?_) (fun h1=>?_)
 ·have hlt : i < a.length:=by simpa using h1
  (try dsimp only[awp]);conv=>whnf
  refine ADraw.auto (by kernel_rfl) ?_;conv=>whnf
  refine aidx hlt ?_
  (try dsimp only[awp]);conv=>whnf
  refine aidx hlt ?_
  (try dsimp only[awp]);conv=>whnf
  refine ACallP.pure _ _ ?_ ⟨rfl,rfl⟩ (ratSelf a[i]) ?_
  ·exact leL_refl _
  (try dsimp only[awp]);conv=>whnf
  refine zA ?_;conv=>whnf
  refine ⟨i + 1,?_,?_,?_⟩
  ·exact hlt
  ·all_goals exact wk
  ·omega
 ·have hl : i = a.length:=by (have : ¬ i < a.length:=by simpa using h1); omega
  subst hl
  clear h1
  (try dsimp only[awp]);conv=>whnf
  refine fM ?_;(conv=>whnf);refine ⟨?_,rfl⟩;conv=>whnf
  all_goals exact wk

theorem one : OneC:=r_of

theorem intsSelfD (a : List Int) : FnH Tryz.prog 79 [iL a,iL a] [] .tt []:=(c_ints a a).weak (R':=.tt) (by show decide _ = true; simp)

theorem c_sameDyn (d : Dyn) : FnH Tryz.prog 31 [d.av,d.av] [] .tt []:=by
 have cf:=c_rats1 d.fail
 have cr:=c_rats1 d.repair
 refine FnH.intro lay mixed Tryz.func31 (by kernel_rfl) rfl (by kernel_rfl) rfl fun hok=>?_
 have hg : d.gates.length ≤ 9223372036854775807:=by have:=hok.1.2.1.1; simpa [maxL] using this
 (try dsimp only[argC,succC]);(try dsimp only[awp]);conv=>whnf
 refine And.intro (fun h=>absurd rfl h) (fun _=>?_)
 (try dsimp only[awp]);conv=>whnf
 refine And.intro (fun h=>absurd rfl h) (fun _=>?_)
 (try dsimp only[awp]);conv=>whnf
 refine And.intro (fun h=>absurd rfl h) (fun _=>?_)
 (try dsimp only[awp]);conv=>whnf
 refine .pure _ _ ?_ ⟨rfl,rfl⟩ cf fun _=>?_
 ·exact leL_refl _
 (try dsimp only[awp]);conv=>whnf
 refine .pure _ _ ?_ ⟨rfl,rfl⟩ cr fun _=>?_
 ·exact leL_refl _
 (try dsimp only[awp]);conv=>whnf
 refine LoopE.of <| LoopSpec.inv (.refl _ _) (fun (i : Nat)=>i ≤ d.gates.length) (fun (i : Nat)=>[(48,.int .i64 i)]) (fun _=>_) (fun (i : Nat)=>d.gates.length - i) 0 ?_ (fun _=>rfl) ?_ ?_
 ·exact Nat.zero_le _
 ·all_goals exact wk
 intro i hi _
 (try dsimp only[awp]);conv=>whnf
 refine And.intro (fun h1=>?_) (fun h1=>?_)
 ·have hlt : i < d.gates.length:=by simpa using h1
  (try dsimp only[awp]);conv=>whnf
  refine aidx hlt ?_
  (try dsimp only[awp]);conv=>whnf
  refine aidx hlt ?_
  generalize d.gates[i] = g at *
  (try dsimp only[awp]);conv=>whnf
  refine And.intro (fun h=>absurd rfl h) (fun _=>?_)
  (try dsimp only[awp]);conv=>whnf
  refine And.intro (fun h=>absurd rfl h) (fun _=>?_)
  (try dsimp only[awp]);conv=>whnf
  refine .pure _ _ ?_ ⟨rfl,rfl⟩ (intsSelfD g.args) fun _=>?_
  ·exact leL_refl _
  (try dsimp only[awp]);conv=>whnf
  refine .pure _ _ ?_ ⟨rfl,rfl⟩ (ratSelf g.dorm) fun _=>?_
  ·exact leL_refl _
  (try dsimp only[awp]);conv=>whnf
  refine zA ?_;conv=>whnf
  refine ⟨i + 1,?_,?_,?_⟩
  ·exact hlt
  ·refine ⟨?_,.mk ?_ (by simp [idsOk])⟩
   ·all_goals exact wk
   ·all_goals exact wk
  ·omega
 ·(try dsimp only[awp]);conv=>whnf
  refine fM ?_;(conv=>whnf);refine ⟨?_,rfl⟩;conv=>whnf
  all_goals exact wk

theorem treeC {m : Md} (hC : MdC m) (hM : MOk m) (hv : 1 ≤ m.evs.length) : DynC (treeD m):=by
 refine ⟨fun x hx=>?_,fun x hx=>?_,fun g hg=>?_⟩
 ·obtain ⟨y,hy,rfl⟩:=List.mem_map.1 hx
  exact (hC.evs y hy).2.1
 ·obtain ⟨y,hy,rfl⟩:=List.mem_map.1 hx
  exact (hC.evs y hy).2.2
 ·rcases (tree_T hM hv).2.2 g hg with h | ⟨y,hy,h⟩
  ·rw [h]; exact ratC_zero
  ·rw [h]
   obtain ⟨_,hpg,hix⟩:=mem_all.1 hy
   exact hC.gatesM hpg _ (by show (gatesM m y.2.1).getD y.2.2.toNat default ∈ _; exact getD_mem (by omega))

theorem c_DynamicMakes (h1c : OneC) (m : Md) : FnH Tryz.prog 6 [m.av] [] (.bool true) []:=by
 have c0:=(c_awake h1c).weak (R':=.tt) rfl
 have cl:=c_LightM m _ rfl
 cases hL : lightM m with
 | false =>
   rw [hL] at cl
   have cl:=cl.weak (R':=.ff) rfl
   refine FnH.intro lay mixed Tryz.func6 (by kernel_rfl) rfl (by kernel_rfl) rfl fun hok=>?_
   (try dsimp only[argC,succC]);(try dsimp only[awp]);conv=>whnf
   refine .pure _ _ ?_ ⟨rfl,rfl⟩ c0 fun _=>?_
   ·exact leL_refl _
   (try dsimp only[awp]);conv=>whnf
   refine .pure _ _ ?_ ⟨rfl,rfl⟩ cl fun _=>?_
   ·exact leL_refl _
   (try dsimp only[awp]);conv=>whnf
   refine .pure _ _ ?_ ⟨rfl,rfl⟩ c0 fun _=>?_
   ·exact leL_refl _
   (try dsimp only[awp]);conv=>whnf
   refine fM ?_;(conv=>whnf);refine ⟨?_,rfl⟩;conv=>whnf
   all_goals exact wk
 | true =>
 rw [hL] at cl
 have cl:=cl.weak (R':=.tt) rfl
 obtain ⟨hB,hC⟩:=lightM_B hL
 have hX:=lightM_X hL
 have cr:=c_refCheck h1c m hX hB _ rfl
 have cg:=g_Make m hC hB hX _ rfl
 by_cases hc : checkM m ≠ 0
 ·have hE : makeE m = checkM m:=if_pos hc
  unfold makeAV at cg
  rw [hE,if_neg hc] at cg
  have cN:=c_Num (checkM m)
  rw [errAV_ne hc] at cN
  refine FnH.intro lay mixed Tryz.func6 (by kernel_rfl) rfl (by kernel_rfl) rfl fun hok=>?_
  (try dsimp only[argC,succC]);(try dsimp only[awp]);conv=>whnf
  refine .pure _ _ ?_ ⟨rfl,rfl⟩ c0 fun _=>?_
  ·exact leL_refl _
  (try dsimp only[awp]);conv=>whnf
  refine .pure _ _ ?_ ⟨rfl,rfl⟩ cl fun _=>?_
  ·exact leL_refl _
  (try dsimp only[awp]);conv=>whnf
  refine .pure _ _ ?_ ⟨rfl,rfl⟩ cg fun _=>?_
  ·exact leL_refl _
  (try dsimp only[awp]);conv=>whnf
  refine .pure _ _ ?_ ⟨rfl,rfl⟩ cr fun _=>?_
  ·exact leL_refl _
  (try dsimp only[awp]);conv=>whnf
  refine And.intro (fun _=>?_) (fun h=>absurd hc h)
  (try dsimp only[awp]);conv=>whnf
  refine .pure _ _ ?_ ⟨rfl,rfl⟩ (c_sameDyn ⟨0,[],0,[],[]⟩) fun _=>?_
  ·all_goals exact wk
  (try dsimp only[awp]);conv=>whnf
  refine .pure _ _ ?_ ⟨rfl,rfl⟩ cN fun _=>?_
  ·exact leL_refl _
  (try dsimp only[awp]);conv=>whnf
  refine fM ?_;(conv=>whnf);refine ⟨?_,rfl⟩;conv=>whnf
  show _ ↔ _
  simp
 have hc0 : checkM m = 0:=by simpa using hc
 have cm:=c_rMake48 m hc0 hB _ rfl
 have cN:=c_Num (makeE m)
 unfold makeAV at cg
 unfold rmakeAV at cm
 rw [hc0] at cr
 by_cases hE : makeE m = 0
 ·rw [if_pos hE] at cg cm
  rw [hE] at cm cN
  rw [errAV_zero] at cN
  have hv : 1 ≤ m.evs.length:=by
   unfold makeE at hE
   rw [if_neg hc] at hE
   split at hE
   ·cases hE
   ·omega
  have cs:=c_sameDyn (treeD m)
  have cC:=c_Check (treeD m) (treeC hC (checkM_ok hc0) hv) _ rfl
  rw [tree_ok hE,errAV_zero] at cC
  generalize treeD m = d at *
  refine FnH.intro lay mixed Tryz.func6 (by kernel_rfl) rfl (by kernel_rfl) rfl fun hok=>?_
  (try dsimp only[argC,succC]);(try dsimp only[awp]);conv=>whnf
  refine .pure _ _ ?_ ⟨rfl,rfl⟩ c0 fun _=>?_
  ·exact leL_refl _
  (try dsimp only[awp]);conv=>whnf
  refine .pure _ _ ?_ ⟨rfl,rfl⟩ cl fun _=>?_
  ·exact leL_refl _
  (try dsimp only[awp]);conv=>whnf
  refine .pure _ _ ?_ ⟨rfl,rfl⟩ cg fun _=>?_
  ·exact leL_refl _
  (try dsimp only[awp]);conv=>whnf
  refine .pure _ _ ?_ ⟨rfl,rfl⟩ cr fun _=>?_
  ·exact leL_refl _
  (try dsimp only[awp]);conv=>whnf
  refine And.intro (fun h=>absurd rfl h) (fun _=>?_)
  (try dsimp only[awp]);conv=>whnf
  refine .pure _ _ ?_ ⟨rfl,rfl⟩ cm fun _=>?_
  ·exact leL_refl _
  (try dsimp only[awp]);conv=>whnf
  refine .pure _ _ ?_ ⟨rfl,rfl⟩ cN fun _=>?_
  ·exact leL_refl _
  (try dsimp only[awp]);conv=>whnf
  refine And.intro (fun _=>?_) (fun h=>absurd rfl h)
  (try dsimp only[awp]);conv=>whnf
  refine .pure _ _ ?_ ⟨rfl,rfl⟩ cs fun _=>?_
  ·exact leL_refl _
  (try dsimp only[awp]);conv=>whnf
  refine And.intro (fun h=>absurd rfl h) (fun _=>?_)
  (try dsimp only[awp]);conv=>whnf
  refine .pure _ _ ?_ ⟨rfl,rfl⟩ cC fun _=>?_
  ·exact leL_refl _
  (try dsimp only[awp]);conv=>whnf
  refine fM ?_;(conv=>whnf);refine ⟨?_,rfl⟩;conv=>whnf
  all_goals exact wk
 ·rw [if_neg hE] at cg cm
  rw [errAV_ne hE] at cN
  generalize makeE m = e at *
  refine FnH.intro lay mixed Tryz.func6 (by kernel_rfl) rfl (by kernel_rfl) rfl fun hok=>?_
  (try dsimp only[argC,succC]);(try dsimp only[awp]);conv=>whnf
  refine .pure _ _ ?_ ⟨rfl,rfl⟩ c0 fun _=>?_
  ·exact leL_refl _
  (try dsimp only[awp]);conv=>whnf
  refine .pure _ _ ?_ ⟨rfl,rfl⟩ cl fun _=>?_
  ·exact leL_refl _
  (try dsimp only[awp]);conv=>whnf
  refine .pure _ _ ?_ ⟨rfl,rfl⟩ cg fun _=>?_
  ·exact leL_refl _
  (try dsimp only[awp]);conv=>whnf
  refine .pure _ _ ?_ ⟨rfl,rfl⟩ cr fun _=>?_
  ·exact leL_refl _
  (try dsimp only[awp]);conv=>whnf
  refine And.intro (fun h=>absurd rfl h) (fun _=>?_)
  (try dsimp only[awp]);conv=>whnf
  refine .pure _ _ ?_ ⟨rfl,rfl⟩ cm fun _=>?_
  ·exact leL_refl _
  (try dsimp only[awp]);conv=>whnf
  refine .pure _ _ ?_ ⟨rfl,rfl⟩ cN fun _=>?_
  ·exact leL_refl _
  (try dsimp only[awp]);conv=>whnf
  refine And.intro (fun _=>?_) (fun h=>absurd rfl h)
  (try dsimp only[awp]);conv=>whnf
  refine .pure _ _ ?_ ⟨rfl,rfl⟩ (c_sameDyn ⟨0,[],0,[],[]⟩) fun _=>?_
  ·all_goals exact wk
  (try dsimp only[awp]);conv=>whnf
  refine And.intro (fun _=>?_) (fun h=>absurd hE h)
  (try dsimp only[awp]);conv=>whnf
  refine fM ?_;(conv=>whnf);refine ⟨?_,rfl⟩;conv=>whnf
  all_goals exact wk
end S
