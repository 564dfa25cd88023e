/-
  Contracts of functions of the program, over the logic of the texts before. Nothing is assumed.
-/
import Derived.Test.YtkbjecdpgbnkdaaGreatT5

open Go Go.AL Go.Proofs
namespace S
set_option maxRecDepth 100000

def gatesErrAll (m : Md) : Int:=errL (fun _ a=>errL (gateErrM m a) 0 (gatesM m a)) 0 (atsM m)

def insAll (m : Md) : List Int → List Str → Int
 | [],_=>0
 | a :: l,sp=>if (pageIns m a sp).1 ≠ 0 then (pageIns m a sp).1 else insAll m l (pageIns m a sp).2

def checkM (m : Md) : Int :=
 if nameR m.name = false then 5 else if eventsErr m ≠ 0 then eventsErr m else if pagesErr m ≠ 0 then pagesErr m
 else if gatesErrAll m ≠ 0 then gatesErrAll m else if insAll m (atsM m) [] ≠ 0 then insAll m (atsM m) []
 else if isInR m (-1) m.top = false then 5 else if groupsErr m ≠ 0 then groupsErr m else if phasesErr m ≠ 0 then phasesErr m
 else if cycR m = true then 14 else 0

theorem insErr_in {m : Md} {a : Int} {g : Mg} : ∀ {l : List Str} {k : Nat} {sp : List Str},(insErr m a g k l sp).1 = 0 → ∀ s ∈ l,isInR m a s = true
 | [],_,_,_,s,hs=>by simp at hs
 | x :: l,k,sp,h,s,hs=>by
   simp only [insErr] at h
   split at h
   ·cases h
   rename_i h1
   split at h
   ·cases h
   have hx : isInR m a x = true:=by simpa using h1
   rcases List.mem_cons.1 hs with rfl | hs
   ·exact hx
   split at h
   ·split at h
    ·cases h
    ·exact insErr_in h s hs
   ·exact insErr_in h s hs

theorem gatesIns_in {m : Md} {a : Int} : ∀ {l : List Mg} {sp : List Str},(gatesIns m a l sp).1 = 0 → ∀ g ∈ l,∀ s ∈ g.ins,isInR m a s = true
 | [],_,_,g,hg=>by simp at hg
 | x :: l,sp,h,g,hg=>by
   simp only [gatesIns] at h
   split at h
   ·rename_i h1; exact absurd h h1
   rename_i h1
   have h1 : (insErr m a x 0 x.ins sp).1 = 0:=by simpa using h1
   rcases List.mem_cons.1 hg with rfl | hg
   ·exact insErr_in h1
   ·exact gatesIns_in h g hg

theorem pageIns_in {m : Md} {a : Int} {sp : List Str} (h : (pageIns m a sp).1 = 0) : (∀ g ∈ gatesM m a,∀ s ∈ g.ins,isInR m a s = true) ∧ (a ≠ -1 → 0 ≤ i_gate (gatesM m a) (pageTop m a) ∨ 0 ≤ i_event m.evs (pageTop m a)):=by
 unfold pageIns at h
 split at h
 ·rename_i h1; exact absurd h h1
 rename_i h1
 have h1 : (gatesIns m a (gatesM m a) sp).1 = 0:=by simpa using h1
 split at h
 ·cases h
 rename_i h2
 exact ⟨gatesIns_in h1,fun ha=>by
  rcases Int.lt_or_le (i_gate (gatesM m a) (pageTop m a)) 0 with h3 | h3
  ·rcases Int.lt_or_le (i_event m.evs (pageTop m a)) 0 with h4 | h4
   ·exact absurd ⟨ha,h3,h4⟩ h2
   ·exact .inr h4
  ·exact .inl h3⟩

theorem insAll_in {m : Md} : ∀ {l : List Int} {sp : List Str},insAll m l sp = 0 → ∀ a ∈ l,∃ sp',(pageIns m a sp').1 = 0
 | [],_,_,a,ha=>by simp at ha
 | x :: l,sp,h,a,ha=>by
   simp only [insAll] at h
   split at h
   ·rename_i h1; exact absurd h h1
   rename_i h1
   rcases List.mem_cons.1 ha with rfl | ha
   ·exact ⟨sp,by simpa using h1⟩
   ·exact insAll_in h a ha

theorem nameR_pos {s : Str} (h : nameR s = true) : 0 < s.length:=by
 unfold nameR at h
 simp only [Bool.and_eq_true,decide_eq_true_eq] at h
 exact h.1.1.1

theorem idx_name {α : Type} {f : α → Str} {l : List α} {s : Str} (h : 0 ≤ idxP (fun x=>decide (f x = s)) l) : ∃ (i : Nat) (hi : i < l.length),idxP (fun x=>decide (f x = s)) l = i ∧ f l[i] = s:=by
 rcases idxP_cases (fun x=>decide (f x = s)) l with ⟨h1,_⟩ | ⟨i,hi,h1,h2,_⟩
 ·omega
 ·exact ⟨i,hi,h1,of_decide_eq_true h2⟩

theorem eventsErr_zero {m : Md} (h : eventsErr m = 0) : m.evs.length ≤ 24 ∧ m.hs.length ≤ 16 ∧ (∀ (k : Nat) (hk : k < m.evs.length),evErr m k m.evs[k] = 0) ∧ (∀ (k : Nat) (hk : k < m.hs.length),hsErr m k m.hs[k] = 0):=by
 unfold eventsErr at h
 split at h
 ·cases h
 split at h
 ·rename_i h1; exact absurd h h1
 rename_i h1
 split at h
 ·cases h
 have h1 : errL (evErr m) 0 m.evs = 0:=by simpa using h1
 refine ⟨by omega,by omega,fun k hk=>?_,fun k hk=>?_⟩
 ·have:=errL_zero.1 h1 k hk; simpa using this
 ·have:=errL_zero.1 h k hk; simpa using this

theorem gatesErrAll_zero {m : Md} (h : gatesErrAll m = 0) {a : Int} (ha : a = -1 ∨ (0 ≤ a ∧ a < (m.pages.length : Int))) : ∀ (k : Nat) (hk : k < (gatesM m a).length),gateErrM m a k (gatesM m a)[k] = 0:=by
 intro k hk
 have hm:=ats_mem.2 ha
 obtain ⟨j,hj,rfl⟩:=List.getElem_of_mem hm
 have:=errL_zero.1 h j hj
 have:=errL_zero.1 this k hk
 simpa using this

theorem ev_name {m : Md} (h : eventsErr m = 0) {s : Str} (hs : 0 ≤ i_event m.evs s) : 0 < s.length:=by
 obtain ⟨i,hi,_,h2⟩:=idx_name hs
 have:=(eventsErr_zero h).2.2.1 i hi
 unfold evErr at this
 split at this
 ·cases this
 rename_i h3
 rw [← h2]
 exact nameR_pos (by simpa using h3)

theorem hs_name {m : Md} (h : eventsErr m = 0) {s : Str} (hs : 0 ≤ i_house m.hs s) : 0 < s.length:=by
 obtain ⟨i,hi,_,h2⟩:=idx_name hs
 have:=(eventsErr_zero h).2.2.2 i hi
 unfold hsErr at this
 split at this
 ·cases this
 rename_i h3
 rw [← h2]
 exact nameR_pos (by simpa using h3)

theorem gate_name {m : Md} (h : gatesErrAll m = 0) {a : Int} (ha : a = -1 ∨ (0 ≤ a ∧ a < (m.pages.length : Int))) {s : Str} (hs : 0 ≤ i_gate (gatesM m a) s) : 0 < s.length:=by
 obtain ⟨i,hi,_,h2⟩:=idx_name hs
 have:=gatesErrAll_zero h ha i hi
 unfold gateErrM at this
 split at this
 ·cases this
 rename_i h3
 rw [← h2]
 exact nameR_pos (by simpa using h3)

theorem resOn_ok {m : Md} {a : Int} {s : Str} (ha : a = -1 ∨ (0 ≤ a ∧ a < (m.pages.length : Int))) (h : 0 ≤ i_event m.evs s ∨ 0 ≤ i_house m.hs s ∨ 0 ≤ i_gate (gatesM m a) s) : okN m (resOn m a s):=by
 unfold resOn
 split
 ·rename_i h1; exact .inl ⟨rfl,rfl,h1,idxP_lt _ _⟩
 split
 ·rename_i h2; exact .inr (.inl ⟨rfl,rfl,h2,idxP_lt _ _⟩)
 ·exact .inr (.inr (mem_all.2 ⟨rfl,ha,by show 0 ≤ i_gate _ _; omega,idxP_lt _ _⟩))

structure InOk (m : Md) (a : Int) (s : Str) : Prop where
 pos : 0 < s.length
 pg : atS s = true → 0 ≤ i_page m.pages (s.drop 1)
 ok : okN m (resR m a s)

theorem inOk {m : Md} (h1 : eventsErr m = 0) (h2 : gatesErrAll m = 0) (h3 : insAll m (atsM m) [] = 0) {a : Int} (ha : a = -1 ∨ (0 ≤ a ∧ a < (m.pages.length : Int))) {s : Str} (hs : isInR m a s = true) : InOk m a s:=by
 unfold isInR at hs
 by_cases hat : atS s = true
 ·rw [if_pos hat] at hs
  have hs : 0 ≤ i_page m.pages (s.drop 1):=of_decide_eq_true hs
  have hp : i_page m.pages (s.drop 1) < (m.pages.length : Int):=idxP_lt _ _
  refine ⟨?_,fun _=>hs,?_⟩
  ·unfold atS at hat
   simp only [Bool.and_eq_true,decide_eq_true_eq] at hat
   exact hat.1
  ·unfold resR
   rw [if_pos hat]
   obtain ⟨sp,h4⟩:=insAll_in h3 _ (ats_mem.2 (.inr ⟨hs,hp⟩))
   refine resOn_ok (.inr ⟨hs,hp⟩) ?_
   rcases (pageIns_in h4).2 (by omega) with h5 | h5
   ·exact .inr (.inr h5)
   ·exact .inl h5
 ·rw [if_neg hat] at hs
  have hs : 0 ≤ i_event m.evs s ∨ 0 ≤ i_house m.hs s ∨ 0 ≤ i_gate (gatesM m a) s:=by
   simp only [Bool.or_eq_true,decide_eq_true_eq] at hs
   rcases hs with (h | h) | h
   ·exact .inl h
   ·exact .inr (.inl h)
   ·exact .inr (.inr h)
  refine ⟨?_,fun h=>absurd h hat,?_⟩
  ·rcases hs with h | h | h
   ·exact ev_name h1 h
   ·exact hs_name h1 h
   ·exact gate_name h2 ha h
  ·unfold resR
   rw [if_neg hat]
   exact resOn_ok ha hs

theorem closed_of {m : Md} (h1 : eventsErr m = 0) (h2 : gatesErrAll m = 0) (h3 : insAll m (atsM m) [] = 0) : ClosedM m:=by
 intro x hx s hs
 obtain ⟨_,ha,hi⟩:=mem_all.1 hx
 obtain ⟨sp,h4⟩:=insAll_in h3 _ (ats_mem.2 ha)
 have hin:=(pageIns_in h4).1 (gateAt m x) (getD_mem (by omega)) s hs
 have:=inOk h1 h2 h3 ha hin
 exact ⟨this.pos,this.pg,this.ok⟩

theorem MdC.gatesM {m : Md} (hC : MdC m) {a : Int} (ha : a = -1 ∨ (0 ≤ a ∧ a < (m.pages.length : Int))) : mgC (gatesM m a):=by
 unfold S.gatesM
 split
 ·exact hC.gates
 ·exact hC.pages _ (getD_mem (by omega))

theorem gatesIns_len {m : Md} {a : Int} : ∀ {l : List Mg} {sp : List Str},(∀ x ∈ l,x.ins.length ≤ 40) → (gatesIns m a l sp).2.length ≤ sp.length + 40 * l.length
 | [],sp,_=>by simp [gatesIns]
 | g :: l,sp,h=>by
   have h1:=insErr_len (m:=m) (a:=a) (g:=g) (l:=g.ins) (k:=0) (sp:=sp)
   have h2:=h g (by simp)
   simp only [gatesIns]
   split
   ·simp only [List.length_cons]; omega
   ·have:=gatesIns_len (m:=m) (a:=a) (l:=l) (sp:=(insErr m a g 0 g.ins sp).2) fun x hx=>h x (by simp [hx])
    simp only [List.length_cons]; omega

theorem pageIns_len {m : Md} (hB : MdB m) {a : Int} (ha : a = -1 ∨ (0 ≤ a ∧ a < (m.pages.length : Int))) {sp : List Str} : (pageIns m a sp).2.length ≤ sp.length + 4000:=by
 obtain ⟨h1,h2⟩:=hB.gatesM ha
 have:=gatesIns_len (m:=m) (a:=a) (l:=gatesM m a) (sp:=sp) h2
 unfold pageIns
 split
 ·omega
 split
 ·simp
 ·omega

theorem c_mCheck (m : Md) (hC : MdC m) (hB : MdB m) (R : AV) (hR : R = errAV (checkM m)) : FnH Tryz.prog 42 [m.av] [] R []:=by
 have hpl:=hB.pages
 refine FnH.intro lay mixed Tryz.func42 (by kernel_rfl) rfl (by kernel_rfl) rfl fun hok=>?_
 (try dsimp only[argC,succC]);(try dsimp only[awp]);conv=>whnf
 refine .pure _ _ ?_ ⟨rfl,rfl⟩ (c_tokenName m.name) fun _=>?_
 ·exact leL_refl _
 (try dsimp only[awp]);conv=>whnf
 refine And.intro (fun g1=>?_) (fun g1=>?_)
 ·have g1 : nameR m.name = false:=by simpa using g1
  obtain rfl : R = .ifc 111 (.int .i64 5):=by rw [hR,show checkM m = 5 from by unfold checkM; rw [if_pos g1]]; rfl
  (try dsimp only[awp]);conv=>whnf
  refine fM ?_;(conv=>whnf);refine ⟨?_,rfl⟩;conv=>whnf
  all_goals exact wk
 have g1 : ¬ nameR m.name = false:=by simpa using g1
 (try dsimp only[awp]);conv=>whnf
 have cE:=c_checkEvents m hC _ rfl
 by_cases g2 : eventsErr m ≠ 0
 ·obtain rfl : R = .ifc 111 (.int .i64 (eventsErr m)):=by rw [hR,show checkM m = eventsErr m from by unfold checkM; rw [if_neg g1]; rw [if_pos g2],errAV_ne g2]
  rw [errAV_ne g2] at cE
  refine .pure _ _ ?_ ⟨rfl,rfl⟩ cE fun _=>?_
  ·exact leL_refl _
  (try dsimp only[awp]);conv=>whnf
  refine fM ?_;(conv=>whnf);refine ⟨?_,rfl⟩;conv=>whnf
  all_goals exact wk
 rw [show eventsErr m = 0 from by simpa using g2,errAV_zero] at cE
 refine .pure _ _ ?_ ⟨rfl,rfl⟩ cE fun _=>?_
 ·exact leL_refl _
 (try dsimp only[awp]);conv=>whnf
 have cE:=c_checkPages m hB _ rfl
 by_cases g3 : pagesErr m ≠ 0
 ·obtain rfl : R = .ifc 111 (.int .i64 (pagesErr m)):=by rw [hR,show checkM m = pagesErr m from by unfold checkM; rw [if_neg g1,if_neg g2]; rw [if_pos g3],errAV_ne g3]
  rw [errAV_ne g3] at cE
  refine .pure _ _ ?_ ⟨rfl,rfl⟩ cE fun _=>?_
  ·exact leL_refl _
  (try dsimp only[awp]);conv=>whnf
  refine fM ?_;(conv=>whnf);refine ⟨?_,rfl⟩;conv=>whnf
  all_goals exact wk
 rw [show pagesErr m = 0 from by simpa using g3,errAV_zero] at cE
 refine .pure _ _ ?_ ⟨rfl,rfl⟩ cE fun _=>?_
 ·exact leL_refl _
 (try dsimp only[awp]);conv=>whnf
 refine LoopE.of <| LoopSpec.inv (.refl _ _) (fun (k : Nat)=>k ≤ m.pages.length + 1 ∧ gatesErrAll m = errL (fun _ a=>errL (gateErrM m a) 0 (gatesM m a)) k ((atsM m).drop k)) (fun (k : Nat)=>[(5,.int .i64 ((k : Int) - 1))]) (fun _=>_) (fun (k : Nat)=>m.pages.length + 1 - k) 0 ?_ (fun _=>rfl) ?_ ?_
 ·exact ⟨Nat.zero_le _,rfl⟩
 ·all_goals exact wk
 rintro k ⟨hk,hn⟩ _
 (try dsimp only[awp]);conv=>whnf
 refine And.intro (fun h=>?_) (fun h=>?_)
 ·have hkl : k < m.pages.length + 1:=by simp only [List.length_map] at h; omega
  have ha : (k : Int) - 1 = -1 ∨ (0 ≤ (k : Int) - 1 ∧ (k : Int) - 1 < (m.pages.length : Int)):=by omega
  rw [drop_of_get? (ats_get hkl)] at hn
  simp only [errL] at hn
  have cE:=c_checkGates m _ ha (hC.gatesM ha) _ rfl
  by_cases g4 : errL (gateErrM m ((k : Int) - 1)) 0 (gatesM m ((k : Int) - 1)) ≠ 0
  ·rw [if_pos g4] at hn
   rw [← hn] at cE g4
   obtain rfl : R = .ifc 111 (.int .i64 (gatesErrAll m)):=by rw [hR,show checkM m = gatesErrAll m from by unfold checkM; rw [if_neg g1,if_neg g2,if_neg g3,if_pos g4],errAV_ne g4]
   rw [errAV_ne g4] at cE
   (try dsimp only[awp]);conv=>whnf
   refine .pure _ _ ?_ ⟨rfl,rfl⟩ cE fun _=>?_
   ·exact leL_refl _
   (try dsimp only[awp]);conv=>whnf
   refine fM ?_;(conv=>whnf);refine ⟨?_,rfl⟩;conv=>whnf
   all_goals exact wk
  ·rw [if_neg g4] at hn
   rw [show errL (gateErrM m ((k : Int) - 1)) 0 (gatesM m ((k : Int) - 1)) = 0 from by simpa using g4,errAV_zero] at cE
   (try dsimp only[awp]);conv=>whnf
   refine .pure _ _ ?_ ⟨rfl,rfl⟩ cE fun _=>?_
   ·exact leL_refl _
   (try dsimp only[awp]);conv=>whnf
   refine zA ?_;conv=>whnf
   refine ⟨k + 1,?_,?_,?_⟩
   ·exact ⟨hkl,hn⟩
   ·refine ⟨?_,.mk ?_ ⟨by simp,trivial⟩⟩
    ·repeat' first|exact rfl|exact trivial|exact wR|exact lR _|apply aI
     all_goals (show _ = _; congr 1; omega)
    ·all_goals exact wk
   ·omega
 have hkl : m.pages.length + 1 ≤ k:=by simp only [List.length_map] at h; omega
 rw [List.drop_eq_nil_of_le (by rw [ats_len]; omega)] at hn
 simp only [errL] at hn
 have g4 : ¬ gatesErrAll m ≠ 0:=by rw [hn]; simp
 have z4:=hn
 clear h hn hk hkl
 (try dsimp only[awp]);conv=>whnf
 refine LoopE.of <| LoopSpec.inv (.grow 7 1 [] _ rfl (.inl ⟨rfl,rfl⟩) (.refl _ _)) (fun (q : Nat × List Str)=>q.1 ≤ m.pages.length + 1 ∧ insAll m (atsM m) [] = insAll m ((atsM m).drop q.1) q.2 ∧ q.2.length ≤ 4000 * q.1)
  (fun q=>[(8,.int .i64 ((q.1 : Int) - 1)),(7,.sl 1 (q.2.map .str) (.own 1))]) (fun q=>[(1,.tok 1 q.2.length),(0,.box m.av)]) (fun q=>m.pages.length + 1 - q.1) (0,[]) ?_ (fun _=>rfl) ?_ ?_
 ·exact ⟨Nat.zero_le _,rfl,by simp⟩
 ·refine ⟨?_,.mk ?_ ⟨by simp,by simp,trivial⟩⟩
  ·all_goals exact wk
  ·all_goals exact wk
 rintro ⟨k,sp⟩ ⟨hk,hn,hsp⟩ _
 dsimp only at hk hn hsp
 (try dsimp only[awp]);conv=>whnf
 refine And.intro (fun h=>?_) (fun h=>?_)
 ·have hkl : k < m.pages.length + 1:=by simp only [List.length_map] at h; omega
  have ha : (k : Int) - 1 = -1 ∨ (0 ≤ (k : Int) - 1 ∧ (k : Int) - 1 < (m.pages.length : Int)):=by omega
  rw [drop_of_get? (ats_get hkl)] at hn
  simp only [insAll] at hn
  have hc:=fun R G=>c_checkInputs m ((k : Int) - 1) sp ha (hB.gatesM ha) (by omega) R G
  have hpi:=pageIns_len hB ha (sp:=sp)
  generalize pageIns m ((k : Int) - 1) sp = pi at *
  obtain ⟨pe,ps⟩:=pi
  dsimp only at hn hc hpi
  (try dsimp only[awp]);conv=>whnf
  by_cases hE : pe = 0
  ·rw [if_neg (by simp [hE])] at hn
   refine .gen _ _ (FnH.frame [1] (hc _ _ (by rw [if_pos hE]) (by rw [if_pos hE])) ⟨rfl,rfl,rfl,rfl⟩ ?_ ?_) fun _=>?_
   ·all_goals exact wk
   ·all_goals exact wk
   (try dsimp only[awp]);conv=>whnf
   refine zA ?_;conv=>whnf
   refine ⟨(k + 1,ps),?_,?_,?_⟩
   ·exact ⟨hkl,hn,by show ps.length ≤ 4000 * (k + 1); omega⟩
   ·refine ⟨?_,.mk ?_ ⟨by simp,by simp,trivial⟩⟩
    ·repeat' first|exact rfl|exact trivial|exact wR|exact lR _|apply aI
     all_goals (show _ = _; congr 1; omega)
    ·all_goals exact wk
   ·show m.pages.length + 1 - (k + 1) < m.pages.length + 1 - k
    omega
  ·rw [if_pos hE] at hn
   have g5 : insAll m (atsM m) [] ≠ 0:=by rw [hn]; exact hE
   obtain rfl : R = .ifc 111 (.int .i64 pe):=by rw [hR,show checkM m = pe from by unfold checkM; rw [if_neg g1,if_neg g2,if_neg g3,if_neg g4,if_pos g5,hn],errAV_ne hE]
   refine .gen _ _ (FnH.frame [1] (hc _ _ (by rw [if_neg hE]) (by rw [if_neg hE])) ⟨rfl,rfl,rfl,rfl⟩ ?_ ?_) fun _=>?_
   ·all_goals exact wk
   ·all_goals exact wk
   (try dsimp only[awp]);conv=>whnf
   refine fM ?_;(conv=>whnf);refine ⟨?_,rfl⟩;conv=>whnf
   all_goals exact wk
 have hkl : m.pages.length + 1 ≤ k:=by simp only [List.length_map] at h; omega
 rw [List.drop_eq_nil_of_le (by rw [ats_len]; omega)] at hn
 simp only [insAll] at hn
 have g5 : ¬ insAll m (atsM m) [] ≠ 0:=by rw [hn]; simp
 have z5:=hn
 clear h hn hk hkl hsp
 (try dsimp only[awp]);conv=>whnf
 refine .pure _ _ ?_ ⟨rfl,rfl⟩ (c_isInput m (-1) m.top (.inl rfl)) fun _=>?_
 ·exact leL_refl _
 (try dsimp only[awp]);conv=>whnf
 refine And.intro (fun g6=>?_) (fun g6=>?_)
 ·have g6 : isInR m (-1) m.top = false:=by simpa using g6
  obtain rfl : R = .ifc 111 (.int .i64 5):=by rw [hR,show checkM m = 5 from by unfold checkM; rw [if_neg g1,if_neg g2,if_neg g3,if_neg g4,if_neg g5,if_pos g6]]; rfl
  (try dsimp only[awp]);conv=>whnf
  refine fM ?_;(conv=>whnf);refine ⟨?_,rfl⟩;conv=>whnf
  all_goals exact wk
 have g6 : ¬ isInR m (-1) m.top = false:=by simpa using g6
 (try dsimp only[awp]);conv=>whnf
 have cE:=c_checkGroups m hC hB _ rfl
 by_cases g7 : groupsErr m ≠ 0
 ·obtain rfl : R = .ifc 111 (.int .i64 (groupsErr m)):=by rw [hR,show checkM m = groupsErr m from by unfold checkM; rw [if_neg g1,if_neg g2,if_neg g3,if_neg g4,if_neg g5,if_neg g6]; rw [if_pos g7],errAV_ne g7]
  rw [errAV_ne g7] at cE
  refine .pure _ _ ?_ ⟨rfl,rfl⟩ cE fun _=>?_
  ·exact leL_refl _
  (try dsimp only[awp]);conv=>whnf
  refine fM ?_;(conv=>whnf);refine ⟨?_,rfl⟩;conv=>whnf
  all_goals exact wk
 rw [show groupsErr m = 0 from by simpa using g7,errAV_zero] at cE
 refine .pure _ _ ?_ ⟨rfl,rfl⟩ cE fun _=>?_
 ·exact leL_refl _
 (try dsimp only[awp]);conv=>whnf
 have cE:=c_checkPhases m hC hB _ rfl
 by_cases g8 : phasesErr m ≠ 0
 ·obtain rfl : R = .ifc 111 (.int .i64 (phasesErr m)):=by rw [hR,show checkM m = phasesErr m from by unfold checkM; rw [if_neg g1,if_neg g2,if_neg g3,if_neg g4,if_neg g5,if_neg g6,if_neg g7]; rw [if_pos g8],errAV_ne g8]
  rw [errAV_ne g8] at cE
  refine .pure _ _ ?_ ⟨rfl,rfl⟩ cE fun _=>?_
  ·exact leL_refl _
  (try dsimp only[awp]);conv=>whnf
  refine fM ?_;(conv=>whnf);refine ⟨?_,rfl⟩;conv=>whnf
  all_goals exact wk
 rw [show phasesErr m = 0 from by simpa using g8,errAV_zero] at cE
 refine .pure _ _ ?_ ⟨rfl,rfl⟩ cE fun _=>?_
 ·exact leL_refl _
 (try dsimp only[awp]);conv=>whnf
 have cy:=c_cyclic m hB (closed_of (by simpa using g2) z4 z5)
 refine .pure _ _ ?_ ⟨rfl,rfl⟩ cy fun _=>?_
 ·exact leL_refl _
 (try dsimp only[awp]);conv=>whnf
 refine And.intro (fun g9=>?_) (fun g9=>?_)
 ·obtain rfl : R = .ifc 111 (.int .i64 14):=by rw [hR,show checkM m = 14 from by unfold checkM; rw [if_neg g1,if_neg g2,if_neg g3,if_neg g4,if_neg g5,if_neg g6,if_neg g7,if_neg g8,if_pos g9]]; rfl
  (try dsimp only[awp]);conv=>whnf
  refine fM ?_;(conv=>whnf);refine ⟨?_,rfl⟩;conv=>whnf
  all_goals exact wk
 ·obtain rfl : R = .nilI:=by rw [hR,show checkM m = 0 from by unfold checkM; rw [if_neg g1,if_neg g2,if_neg g3,if_neg g4,if_neg g5,if_neg g6,if_neg g7,if_neg g8,if_neg (by rw [g9]; simp)]]; rfl
  (try dsimp only[awp]);conv=>whnf
  refine fM ?_;(conv=>whnf);refine ⟨?_,rfl⟩;conv=>whnf
  all_goals exact wk

structure MOk (m : Md) : Prop where
 name : nameR m.name = true
 evs : eventsErr m = 0
 pages : pagesErr m = 0
 gates : gatesErrAll m = 0
 ins : insAll m (atsM m) [] = 0
 top : isInR m (-1) m.top = true
 grs : groupsErr m = 0
 phs : phasesErr m = 0
 cyc : cycR m = false

theorem checkM_ok {m : Md} (h : checkM m = 0) : MOk m:=by
 unfold checkM at h
 split at h
 ·cases h
 rename_i h1
 split at h
 ·rename_i h2; exact absurd h h2
 rename_i h2
 split at h
 ·rename_i h2; exact absurd h h2
 rename_i h3
 split at h
 ·rename_i h2; exact absurd h h2
 rename_i h4
 split at h
 ·rename_i h2; exact absurd h h2
 rename_i h5
 split at h
 ·cases h
 rename_i h6
 split at h
 ·rename_i h2; exact absurd h h2
 rename_i h7
 split at h
 ·rename_i h2; exact absurd h h2
 rename_i h8
 split at h
 ·cases h
 rename_i h9
 exact ⟨by simpa using h1,by simpa using h2,by simpa using h3,by simpa using h4,by simpa using h5,by simpa using h6,by simpa using h7,by simpa using h8,by simpa using h9⟩

theorem MOk.closed {m : Md} (h : MOk m) : ClosedM m:=closed_of h.evs h.gates h.ins
theorem MOk.inOk {m : Md} (h : MOk m) {a : Int} (ha : a = -1 ∨ (0 ≤ a ∧ a < (m.pages.length : Int))) {s : Str} (hs : isInR m a s = true) : InOk m a s:=S.inOk h.evs h.gates h.ins ha hs
theorem MOk.lens {m : Md} (h : MOk m) : m.evs.length ≤ 24 ∧ m.hs.length ≤ 16:=⟨(eventsErr_zero h.evs).1,(eventsErr_zero h.evs).2.1⟩



structure GateOk (m : Md) (a : Int) (k : Nat) (x : Mg) : Prop where
 name : nameR x.name = true
 noEv : i_event m.evs x.name < 0
 noHs : i_house m.hs x.name < 0
 first : (k : Int) ≤ i_gate (gatesM m a) x.name
 own : mgErr x = 0

theorem MOk.gate {m : Md} (hM : MOk m) {a : Int} (ha : a = -1 ∨ (0 ≤ a ∧ a < (m.pages.length : Int))) {k : Nat} (hk : k < (gatesM m a).length) : GateOk m a k (gatesM m a)[k]:=by
 have h:=gatesErrAll_zero hM.gates ha k hk
 unfold gateErrM at h
 split at h
 ·cases h
 rename_i h1
 split at h
 ·cases h
 rename_i h2
 split at h
 ·cases h
 rename_i h3
 split at h
 ·cases h
 rename_i h4
 exact ⟨by simpa using h1,by omega,by omega,by omega,h⟩

theorem idxP_le {α : Type} {p : α → Bool} {l : List α} {k : Nat} (hk : k < l.length) (hp : p l[k] = true) : 0 ≤ idxP p l ∧ idxP p l ≤ k:=by
 rcases idxP_cases p l with ⟨_,h2⟩ | ⟨i,hi,h1,_,h3⟩
 ·have:=h2 _ (List.getElem_mem hk)
  rw [hp] at this; cases this
 ·refine ⟨by omega,?_⟩
  rw [h1]
  rcases Nat.lt_or_ge k i with h | h
  ·have:=h3 k h
   rw [hp] at this; cases this
  ·omega

theorem MOk.gate_idx {m : Md} (hM : MOk m) {a : Int} (ha : a = -1 ∨ (0 ≤ a ∧ a < (m.pages.length : Int))) {k : Nat} (hk : k < (gatesM m a).length) : i_gate (gatesM m a) (gatesM m a)[k].name = k:=by
 have h1:=(hM.gate ha hk).first
 have h2:=(idxP_le (p:=fun x=>decide (x.name = (gatesM m a)[k].name)) hk (by simp)).2
 unfold i_gate at h1 ⊢
 omega

theorem name_noAt {s : Str} (h : nameR s = true) : atS s = false:=by
 unfold nameR at h
 simp only [Bool.and_eq_true,decide_eq_true_eq] at h
 unfold atS
 rw [Bool.and_eq_false_iff]
 right
 apply decide_eq_false
 intro e
 have:=h.1.2
 rw [e] at this
 revert this
 decide

theorem MOk.ins_in {m : Md} (hM : MOk m) {a : Int} (ha : a = -1 ∨ (0 ≤ a ∧ a < (m.pages.length : Int))) {x : Mg} (hx : x ∈ gatesM m a) {s : Str} (hs : s ∈ x.ins) : isInR m a s = true:=by
 obtain ⟨sp,h4⟩:=insAll_in hM.ins _ (ats_mem.2 ha)
 exact (pageIns_in h4).1 x hx s hs

structure Local (m : Md) (a : Int) (s : Str) (r : Node) : Prop where
 idx : 0 ≤ r.2.2
 kind : r.1 = 0 ∨ r.1 = 1 ∨ r.1 = 2
 ev : r.1 = 0 → r.2.2 < (m.evs.length : Int) ∧ (atS s = false → (m.evs.getD r.2.2.toNat default).name = s)
 hs : r.1 = 1 → r.2.2 < (m.hs.length : Int) ∧ (m.hs.getD r.2.2.toNat default).name = s
 gate : r.1 = 2 → (r.2.1 = -1 ∨ (0 ≤ r.2.1 ∧ r.2.1 < (m.pages.length : Int))) ∧ r.2.2 < ((gatesM m r.2.1).length : Int) ∧
  (atS s = false → r.2.1 = a ∧ ((gatesM m r.2.1).getD r.2.2.toNat default).name = s) ∧
  (atS s = true → 0 ≤ r.2.1 ∧ (m.pages.getD r.2.1.toNat default).name = s.drop 1 ∧ (m.pages.getD r.2.1.toNat default).top = ((gatesM m r.2.1).getD r.2.2.toNat default).name)

theorem idx_getD {α : Type} [Inhabited α] {f : α → Str} {l : List α} {s : Str} (h : 0 ≤ idxP (fun x=>decide (f x = s)) l) : f (l.getD (idxP (fun x=>decide (f x = s)) l).toNat default) = s:=by
 obtain ⟨i,hi,h1,h2⟩:=idx_name h
 rw [h1,Int.toNat_natCast,getD_lt hi]
 exact h2


structure Nd where
 kind : Int
 k : Int
 args : List Int
 deriving DecidableEq,Inhabited

structure Fo where
 vars : Int
 nodes : List Nd
 top : Int
 deriving DecidableEq,Inhabited

def lookO : Marks → Node → Option Int
 | [],_=>none
 | (y,v) :: es,x=>if y = x then some v else lookO es x

theorem alook_opt {es : Marks} {x : Node} {k : AV → Prop} (h1 : ∀ v,lookO es x = some v → k (.tup [.int .i64 v,.tt])) (h2 : lookO es x = none → k (.tup [.int .i64 0,.ff])) :
  ALook (encM es) (nAV x) fun r=>lookK true (.int .i64 0) r k:=by
 have key : ∃ r,LookR (encM es) (nAV x) r ∧ lookK true (.int .i64 0) r k:=by
  induction es with
  | nil=>exact ⟨none,by simp [LookR,encM],h2 rfl⟩
  | cons e es ih =>
    obtain ⟨y,v⟩:=e
    by_cases hy : y = x
    ·subst hy
     exact ⟨some (.int .i64 v),⟨_,List.mem_cons_self,rfl,rfl⟩,h1 v (if_pos rfl)⟩
    ·have e : lookO ((y,v) :: es) x = lookO es x:=if_neg hy
     rw [e] at h1 h2
     obtain ⟨r,g1,g2⟩:=ih h1 h2
     refine ⟨r,?_,g2⟩
     cases r with
     | none =>
       intro z hz
       simp only [encM,List.map_cons,List.mem_cons] at hz
       rcases hz with rfl | hz
       ·exact fun e=>hy (kv_inj.1 e)
       ·exact g1 z hz
     | some w =>
       obtain ⟨z,hz,h3,h4⟩:=g1
       exact ⟨z,by simp only [encM,List.map_cons,List.mem_cons]; exact .inr hz,h3,h4⟩
 exact ⟨key⟩

theorem lookO_mark {es : Marks} {x y : Node} {v : Int} : lookO (mark es x v) y = if x = y then some v else lookO es y:=by
 induction es with
 | nil=>simp [mark,lookO]
 | cons e es ih =>
   obtain ⟨z,u⟩:=e
   simp only [mark]
   by_cases hz : z = x
   ·subst hz
    simp only [if_true,lookO]
    split <;> rfl
   ·simp only [if_neg hz,lookO,ih]
    by_cases hzy : z = y
    ·subst hzy
     rw [if_pos rfl,if_neg (fun e=>hz e.symm)]
     simp
    ·simp only [if_neg hzy]

structure CS where
 nodes : List Nd
 es : Marks
 deriving Inhabited

def houseAt (m : Md) (x : Node) : Hs:=m.hs.getD x.2.2.toNat default


abbrev WkO (T : HO) : Prop:=leO T T ∧ (match T with | .amap _ es=>bndM 3 es = true | o=>bndO 3 o = true)
abbrev WkA (X : AV) : Prop:=le0 X X ∧ bndB 3 X = true

abbrev hpF (m : Md) (X : AV) (T M : HO) : Heap:=[(2,T),(1,.box (.ag [m.av,X,.mp 0])),(0,M)]


def fewG (x : Mg) : Bool:=decide (x.ins.length ≤ 40) && shortR x.dorm
def fewR (l : List Mg) : Bool:=l.all fewG && decide (l.length ≤ 100)
def evS (x : Ev) : Bool:=shortR x.p && shortR x.fail && shortR x.repair
def grS (x : Gr) : Bool:=decide (x.mem.length ≤ 60) && decide (x.fac.length ≤ 60) && x.fac.all shortR
def phS (x : Ph) : Bool:=decide (x.vals.length ≤ 60) && x.vals.all fun v=>shortR v.p

def lightM (m : Md) : Bool:=decide (m.evs.length ≤ 60) && decide (m.hs.length ≤ 60) && decide (m.pages.length ≤ 30) && decide (m.grs.length ≤ 30) && decide (m.phs.length ≤ 30) && fewR m.gates &&
 m.evs.all evS && (m.pages.all fun p=>fewR p.gates) && m.grs.all grS && m.phs.all phS

theorem c_few (l : List Mg) (R : AV) (hR : R = .bool (fewR l)) : FnH Tryz.prog 80 [gL l] [] R []:=by
 refine FnH.intro lay mixed Tryz.func80 (by kernel_rfl) rfl (by kernel_rfl) rfl fun hok=>?_
 have lg : l.length ≤ 9223372036854775807:=by have:=hok.1.1; simpa [maxL] using this
 (try dsimp only[argC,succC]);(try dsimp only[awp]);conv=>whnf
 refine LoopE.of <| LoopSpec.inv (.refl _ _) (fun (i : Nat)=>i ≤ l.length ∧ (l.take i).all fewG = true) (fun (i : Nat)=>[(7,.int .i64 i)]) (fun _=>_) (fun (i : Nat)=>l.length - i) 0 ?_ (fun _=>rfl) ?_ ?_
 ·exact ⟨Nat.zero_le _,by simp⟩
 ·all_goals exact wk
 rintro i ⟨hi,hn⟩ _
 (try dsimp only[awp]);conv=>whnf
 refine And.intro (fun h=>?_) (fun h=>?_)
 ·have hlt : i < l.length:=by simpa using h
  have hall:=all_take (p:=fewG) hlt
  have hmem:=List.getElem_mem hlt
  (try dsimp only[awp]);conv=>whnf
  refine aidx hlt ?_
  generalize l[i] = g at *
  have no : fewG g = false → R = .bool false:=fun h=>by rw [hR]; unfold fewR; rw [all_false hmem h]; rfl
  (try dsimp only[awp]);conv=>whnf
  refine And.intro (fun h1=>?_) (fun h1=>?_)
  ·have h1 : ¬ g.ins.length ≤ 40:=by simp only [List.length_map] at h1; omega
   obtain rfl:=no (by simp [fewG,h1])
   (try dsimp only[awp]);conv=>whnf
   refine fM ?_;(conv=>whnf);refine ⟨?_,rfl⟩;conv=>whnf
   all_goals exact wk
  have h1 : g.ins.length ≤ 40:=by simp only [List.length_map] at h1; omega
  (try dsimp only[awp]);conv=>whnf
  refine .pure _ _ ?_ ⟨rfl,rfl⟩ (c_Short g.dorm) fun _=>?_
  ·exact leL_refl _
  (try dsimp only[awp]);conv=>whnf
  refine And.intro (fun h2=>?_) (fun h2=>?_)
  ·have h2 : shortR g.dorm = false:=by simpa using h2
   obtain rfl:=no (by simp [fewG,h2])
   (try dsimp only[awp]);conv=>whnf
   refine fM ?_;(conv=>whnf);refine ⟨?_,rfl⟩;conv=>whnf
   all_goals exact wk
  have h2 : shortR g.dorm = true:=by simpa using h2
  (try dsimp only[awp]);conv=>whnf
  refine zA ?_;conv=>whnf
  refine ⟨i + 1,?_,?_,?_⟩
  ·exact ⟨hlt,by rw [hall,hn]; simp [fewG,h1,h2]⟩
  ·refine ⟨?_,.mk ?_ trivial⟩
   ·all_goals exact wk
   ·all_goals exact wk
  ·omega
 have hil : i = l.length:=by have : ¬ i < l.length:=by simpa using h
                             omega
 subst hil
 rw [List.take_length] at hn
 subst hR
 (try dsimp only[awp]);conv=>whnf
 refine fM ?_;(conv=>whnf);refine ⟨?_,rfl⟩;conv=>whnf
 show _ ↔ _
 simp [fewR,hn]
 omega

theorem c_LightM (m : Md) (R : AV) (hR : R = .bool (lightM m)) : FnH Tryz.prog 28 [m.av] [] R []:=by
 refine FnH.intro lay mixed Tryz.func28 (by kernel_rfl) rfl (by kernel_rfl) rfl fun hok=>?_
 (try dsimp only[argC,succC]);(try dsimp only[awp]);conv=>whnf
 refine And.intro (fun h1=>?_) (fun h1=>?_)
 ·have h1 : ¬ m.evs.length ≤ 60:=by simp only [List.length_map] at h1; omega
  obtain rfl : R = .bool false:=by rw [hR]; congr 1; unfold lightM; rw [decide_eq_false h1]; simp
  (try dsimp only[awp]);conv=>whnf
  refine fM ?_;(conv=>whnf);refine ⟨?_,rfl⟩;conv=>whnf
  all_goals exact wk
 have h1 : m.evs.length ≤ 60:=by simp only [List.length_map] at h1; omega
 (try dsimp only[awp]);conv=>whnf
 refine And.intro (fun h2=>?_) (fun h2=>?_)
 ·have h2 : ¬ m.hs.length ≤ 60:=by simp only [List.length_map] at h2; omega
  obtain rfl : R = .bool false:=by rw [hR]; congr 1; unfold lightM; rw [decide_eq_false h2]; simp
  (try dsimp only[awp]);conv=>whnf
  refine fM ?_;(conv=>whnf);refine ⟨?_,rfl⟩;conv=>whnf
  all_goals exact wk
 have h2 : m.hs.length ≤ 60:=by simp only [List.length_map] at h2; omega
 (try dsimp only[awp]);conv=>whnf
 refine And.intro (fun h3=>?_) (fun h3=>?_)
 ·have h3 : ¬ m.pages.length ≤ 30:=by simp only [List.length_map] at h3; omega
  obtain rfl : R = .bool false:=by rw [hR]; congr 1; unfold lightM; rw [decide_eq_false h3]; simp
  (try dsimp only[awp]);conv=>whnf
  refine fM ?_;(conv=>whnf);refine ⟨?_,rfl⟩;conv=>whnf
  all_goals exact wk
 have h3 : m.pages.length ≤ 30:=by simp only [List.length_map] at h3; omega
 (try dsimp only[awp]);conv=>whnf
 refine And.intro (fun h4=>?_) (fun h4=>?_)
 ·have h4 : ¬ m.grs.length ≤ 30:=by simp only [List.length_map] at h4; omega
  obtain rfl : R = .bool false:=by rw [hR]; congr 1; unfold lightM; rw [decide_eq_false h4]; simp
  (try dsimp only[awp]);conv=>whnf
  refine fM ?_;(conv=>whnf);refine ⟨?_,rfl⟩;conv=>whnf
  all_goals exact wk
 have h4 : m.grs.length ≤ 30:=by simp only [List.length_map] at h4; omega
 (try dsimp only[awp]);conv=>whnf
 refine And.intro (fun h5=>?_) (fun h5=>?_)
 ·have h5 : ¬ m.phs.length ≤ 30:=by simp only [List.length_map] at h5; omega
  obtain rfl : R = .bool false:=by rw [hR]; congr 1; unfold lightM; rw [decide_eq_false h5]; simp
  (try dsimp only[awp]);conv=>whnf
  refine fM ?_;(conv=>whnf);refine ⟨?_,rfl⟩;conv=>whnf
  all_goals exact wk
 have h5 : m.phs.length ≤ 30:=by simp only [List.length_map] at h5; omega
 (try dsimp only[awp]);conv=>whnf
 refine .pure _ _ ?_ ⟨rfl,rfl⟩ (c_few m.gates _ rfl) fun _=>?_
 ·exact leL_refl _
 (try dsimp only[awp]);conv=>whnf
 refine And.intro (fun h6=>?_) (fun h6=>?_)
 ·have h6 : fewR m.gates = false:=by simpa using h6
  obtain rfl : R = .bool false:=by rw [hR]; congr 1; unfold lightM; rw [h6]; simp
  (try dsimp only[awp]);conv=>whnf
  refine fM ?_;(conv=>whnf);refine ⟨?_,rfl⟩;conv=>whnf
  all_goals exact wk
 have h6 : fewR m.gates = true:=by simpa using h6
 (try dsimp only[awp]);conv=>whnf
 refine LoopE.of <| LoopSpec.inv (.refl _ _) (fun (i : Nat)=>i ≤ m.evs.length ∧ (m.evs.take i).all evS = true) (fun (i : Nat)=>[(52,.int .i64 i)]) (fun _=>_) (fun (i : Nat)=>m.evs.length - i) 0 ?_ (fun _=>rfl) ?_ ?_
 ·exact ⟨Nat.zero_le _,by simp⟩
 ·all_goals exact wk
 rintro i ⟨hi,hn⟩ _
 (try dsimp only[awp]);conv=>whnf
 refine And.intro (fun h=>?_) (fun h=>?_)
 ·have hlt : i < m.evs.length:=by simpa using h
  have hall:=all_take (p:=evS) hlt
  have hmem:=List.getElem_mem hlt
  (try dsimp only[awp]);conv=>whnf
  refine aidx hlt ?_
  generalize m.evs[i] = g at *
  (try dsimp only[awp]);conv=>whnf
  refine .pure _ _ ?_ ⟨rfl,rfl⟩ (c_Short g.p) fun _=>?_
  ·exact leL_refl _
  (try dsimp only[awp]);conv=>whnf
  refine And.intro (fun q1=>?_) (fun q1=>?_)
  ·have q1 : shortR g.p = false:=by simpa using q1
   obtain rfl : R = .bool false:=by rw [hR]; congr 1; unfold lightM; rw [all_false hmem (show evS g = false by simp [evS,q1])]; simp
   (try dsimp only[awp]);conv=>whnf
   refine fM ?_;(conv=>whnf);refine ⟨?_,rfl⟩;conv=>whnf
   all_goals exact wk
  have q1 : shortR g.p = true:=by simpa using q1
  (try dsimp only[awp]);conv=>whnf
  refine .pure _ _ ?_ ⟨rfl,rfl⟩ (c_Short g.fail) fun _=>?_
  ·exact leL_refl _
  (try dsimp only[awp]);conv=>whnf
  refine And.intro (fun q2=>?_) (fun q2=>?_)
  ·have q2 : shortR g.fail = false:=by simpa using q2
   obtain rfl : R = .bool false:=by rw [hR]; congr 1; unfold lightM; rw [all_false hmem (show evS g = false by simp [evS,q2])]; simp
   (try dsimp only[awp]);conv=>whnf
   refine fM ?_;(conv=>whnf);refine ⟨?_,rfl⟩;conv=>whnf
   all_goals exact wk
  have q2 : shortR g.fail = true:=by simpa using q2
  (try dsimp only[awp]);conv=>whnf
  refine .pure _ _ ?_ ⟨rfl,rfl⟩ (c_Short g.repair) fun _=>?_
  ·exact leL_refl _
  (try dsimp only[awp]);conv=>whnf
  refine And.intro (fun q3=>?_) (fun q3=>?_)
  ·have q3 : shortR g.repair = false:=by simpa using q3
   obtain rfl : R = .bool false:=by rw [hR]; congr 1; unfold lightM; rw [all_false hmem (show evS g = false by simp [evS,q3])]; simp
   (try dsimp only[awp]);conv=>whnf
   refine fM ?_;(conv=>whnf);refine ⟨?_,rfl⟩;conv=>whnf
   all_goals exact wk
  have q3 : shortR g.repair = true:=by simpa using q3
  (try dsimp only[awp]);conv=>whnf
  refine zA ?_;conv=>whnf
  refine ⟨i + 1,?_,?_,?_⟩
  ·exact ⟨hlt,by rw [hall,hn]; simp [evS,q1,q2,q3]⟩
  ·refine ⟨?_,.mk ?_ ⟨by simp,trivial⟩⟩
   ·all_goals exact wk
   ·all_goals exact wk
  ·omega
 have hil : i = m.evs.length:=by have : ¬ i < m.evs.length:=by simpa using h
                                 omega
 subst hil
 rw [List.take_length] at hn
 have a1:=hn
 clear h hi hn
 (try dsimp only[awp]);conv=>whnf
 refine LoopE.of <| LoopSpec.inv (.refl _ _) (fun (i : Nat)=>i ≤ m.pages.length ∧ (m.pages.take i).all (fun p=>fewR p.gates) = true) (fun (i : Nat)=>[(76,.int .i64 i)]) (fun _=>_) (fun (i : Nat)=>m.pages.length - i) 0 ?_ (fun _=>rfl) ?_ ?_
 ·exact ⟨Nat.zero_le _,by simp⟩
 ·all_goals exact wk
 rintro i ⟨hi,hn⟩ _
 (try dsimp only[awp]);conv=>whnf
 refine And.intro (fun h=>?_) (fun h=>?_)
 ·have hlt : i < m.pages.length:=by simpa using h
  have hall:=all_take (p:=fun p : Pg=>fewR p.gates) hlt
  have hmem:=List.getElem_mem hlt
  (try dsimp only[awp]);conv=>whnf
  refine aidx hlt ?_
  generalize m.pages[i] = g at *
  (try dsimp only[awp]);conv=>whnf
  refine .pure _ _ ?_ ⟨rfl,rfl⟩ (c_few g.gates _ rfl) fun _=>?_
  ·exact leL_refl _
  (try dsimp only[awp]);conv=>whnf
  refine And.intro (fun q1=>?_) (fun q1=>?_)
  ·have q1 : fewR g.gates = false:=by simpa using q1
   obtain rfl : R = .bool false:=by rw [hR]; congr 1; unfold lightM; rw [all_false (p:=fun p : Pg=>fewR p.gates) hmem q1]; simp
   (try dsimp only[awp]);conv=>whnf
   refine fM ?_;(conv=>whnf);refine ⟨?_,rfl⟩;conv=>whnf
   all_goals exact wk
  have q1 : fewR g.gates = true:=by simpa using q1
  (try dsimp only[awp]);conv=>whnf
  refine zA ?_;conv=>whnf
  refine ⟨i + 1,?_,?_,?_⟩
  ·exact ⟨hlt,by rw [hall,hn]; simp [q1]⟩
  ·refine ⟨?_,.mk ?_ ⟨by simp,trivial⟩⟩
   ·all_goals exact wk
   ·all_goals exact wk
  ·omega
 have hil : i = m.pages.length:=by have : ¬ i < m.pages.length:=by simpa using h
                                   omega
 subst hil
 rw [List.take_length] at hn
 have a2:=hn
 clear h hi hn
 (try dsimp only[awp]);conv=>whnf
 refine LoopE.of <| LoopSpec.inv (.refl _ _) (fun (i : Nat)=>i ≤ m.grs.length ∧ (m.grs.take i).all grS = true) (fun (i : Nat)=>[(88,.int .i64 i)]) (fun _=>_) (fun (i : Nat)=>m.grs.length - i) 0 ?_ (fun _=>rfl) ?_ ?_
 ·exact ⟨Nat.zero_le _,by simp⟩
 ·all_goals exact wk
 rintro i ⟨hi,hn⟩ _
 (try dsimp only[awp]);conv=>whnf
 refine And.intro (fun h=>?_) (fun h=>?_)
 ·have hlt : i < m.grs.length:=by simpa using h
  have hall:=all_take (p:=grS) hlt
  have hmem:=List.getElem_mem hlt
  (try dsimp only[awp]);conv=>whnf
  refine aidx hlt ?_
  generalize m.grs[i] = g at *
  (try dsimp only[awp]);conv=>whnf
  refine And.intro (fun q1=>?_) (fun q1=>?_)
  ·have q1 : ¬ g.mem.length ≤ 60:=by simp only [List.length_map] at q1; omega
   obtain rfl : R = .bool false:=by rw [hR]; congr 1; unfold lightM; rw [all_false hmem (show grS g = false by simp [grS,q1])]; simp
   (try dsimp only[awp]);conv=>whnf
   refine fM ?_;(conv=>whnf);refine ⟨?_,rfl⟩;conv=>whnf
   all_goals exact wk
  have q1 : g.mem.length ≤ 60:=by simp only [List.length_map] at q1; omega
  (try dsimp only[awp]);conv=>whnf
  refine And.intro (fun q2=>?_) (fun q2=>?_)
  ·have q2 : ¬ g.fac.length ≤ 60:=by simp only [List.length_map] at q2; omega
   obtain rfl : R = .bool false:=by rw [hR]; congr 1; unfold lightM; rw [all_false hmem (show grS g = false by simp [grS,q2])]; simp
   (try dsimp only[awp]);conv=>whnf
   refine fM ?_;(conv=>whnf);refine ⟨?_,rfl⟩;conv=>whnf
   all_goals exact wk
  have q2 : g.fac.length ≤ 60:=by simp only [List.length_map] at q2; omega
  (try dsimp only[awp]);conv=>whnf
  refine LoopE.of <| LoopSpec.inv (.refl _ _) (fun (j : Nat)=>j ≤ g.fac.length ∧ (g.fac.take j).all shortR = true) (fun (j : Nat)=>[(105,.int .i64 j)]) (fun _=>_) (fun (j : Nat)=>g.fac.length - j) 0 ?_ (fun _=>rfl) ?_ ?_
  ·exact ⟨Nat.zero_le _,by simp⟩
  ·all_goals exact wk
  rintro j ⟨hj,hnj⟩ _
  (try dsimp only[awp]);conv=>whnf
  refine And.intro (fun hh=>?_) (fun hh=>?_)
  ·have hjl : j < g.fac.length:=by simpa using hh
   have hallj:=all_take (p:=shortR) hjl
   have hmj:=List.getElem_mem hjl
   (try dsimp only[awp]);conv=>whnf
   refine aidx hjl ?_
   generalize g.fac[j] = r at *
   (try dsimp only[awp]);conv=>whnf
   refine .pure _ _ ?_ ⟨rfl,rfl⟩ (c_Short r) fun _=>?_
   ·exact leL_refl _
   (try dsimp only[awp]);conv=>whnf
   refine And.intro (fun q3=>?_) (fun q3=>?_)
   ·have q3 : shortR r = false:=by simpa using q3
    obtain rfl : R = .bool false:=by rw [hR]; congr 1; unfold lightM; rw [all_false hmem (show grS g = false by simp [grS,all_false hmj q3])]; simp
    (try dsimp only[awp]);conv=>whnf
    refine fM ?_;(conv=>whnf);refine ⟨?_,rfl⟩;conv=>whnf
    all_goals exact wk
   have q3 : shortR r = true:=by simpa using q3
   (try dsimp only[awp]);conv=>whnf
   refine zA ?_;conv=>whnf
   refine ⟨j + 1,?_,?_,?_⟩
   ·exact ⟨hjl,by rw [hallj,hnj,q3]; rfl⟩
   ·refine ⟨?_,.mk ?_ ⟨by simp,by simp,trivial⟩⟩
    ·all_goals exact wk
    ·all_goals exact wk
   ·omega
  have hjl : j = g.fac.length:=by have : ¬ j < g.fac.length:=by simpa using hh
                                  omega
  subst hjl
  rw [List.take_length] at hnj
  (try dsimp only[awp]);conv=>whnf
  refine zA ?_;conv=>whnf
  refine ⟨i + 1,?_,?_,?_⟩
  ·exact ⟨hlt,by rw [hall,hn]; simp [grS,q1,q2,hnj]⟩
  ·refine ⟨?_,.mk ?_ ⟨by simp,trivial⟩⟩
   ·all_goals exact wk
   ·all_goals exact wk
  ·omega
 have hil : i = m.grs.length:=by have : ¬ i < m.grs.length:=by simpa using h
                                 omega
 subst hil
 rw [List.take_length] at hn
 have a3:=hn
 clear h hi hn
 (try dsimp only[awp]);conv=>whnf
 refine LoopE.of <| LoopSpec.inv (.refl _ _) (fun (i : Nat)=>i ≤ m.phs.length ∧ (m.phs.take i).all phS = true) (fun (i : Nat)=>[(117,.int .i64 i)]) (fun _=>_) (fun (i : Nat)=>m.phs.length - i) 0 ?_ (fun _=>rfl) ?_ ?_
 ·exact ⟨Nat.zero_le _,by simp⟩
 ·all_goals exact wk
 rintro i ⟨hi,hn⟩ _
 (try dsimp only[awp]);conv=>whnf
 refine And.intro (fun h=>?_) (fun h=>?_)
 ·have hlt : i < m.phs.length:=by simpa using h
  have hall:=all_take (p:=phS) hlt
  have hmem:=List.getElem_mem hlt
  (try dsimp only[awp]);conv=>whnf
  refine aidx hlt ?_
  generalize m.phs[i] = g at *
  (try dsimp only[awp]);conv=>whnf
  refine And.intro (fun q1=>?_) (fun q1=>?_)
  ·have q1 : ¬ g.vals.length ≤ 60:=by simp only [List.length_map] at q1; omega
   obtain rfl : R = .bool false:=by rw [hR]; congr 1; unfold lightM; rw [all_false hmem (show phS g = false by simp [phS,q1])]; simp
   (try dsimp only[awp]);conv=>whnf
   refine fM ?_;(conv=>whnf);refine ⟨?_,rfl⟩;conv=>whnf
   all_goals exact wk
  have q1 : g.vals.length ≤ 60:=by simp only [List.length_map] at q1; omega
  (try dsimp only[awp]);conv=>whnf
  refine LoopE.of <| LoopSpec.inv (.refl _ _) (fun (j : Nat)=>j ≤ g.vals.length ∧ (g.vals.take j).all (fun v=>shortR v.p) = true) (fun (j : Nat)=>[(128,.int .i64 j)]) (fun _=>_) (fun (j : Nat)=>g.vals.length - j) 0 ?_ (fun _=>rfl) ?_ ?_
  ·exact ⟨Nat.zero_le _,by simp⟩
  ·all_goals exact wk
  rintro j ⟨hj,hnj⟩ _
  (try dsimp only[awp]);conv=>whnf
  refine And.intro (fun hh=>?_) (fun hh=>?_)
  ·have hjl : j < g.vals.length:=by simpa using hh
   have hallj:=all_take (p:=fun v : Pv=>shortR v.p) hjl
   have hmj:=List.getElem_mem hjl
   (try dsimp only[awp]);conv=>whnf
   refine aidx hjl ?_
   generalize g.vals[j] = r at *
   (try dsimp only[awp]);conv=>whnf
   refine .pure _ _ ?_ ⟨rfl,rfl⟩ (c_Short r.p) fun _=>?_
   ·exact leL_refl _
   (try dsimp only[awp]);conv=>whnf
   refine And.intro (fun q3=>?_) (fun q3=>?_)
   ·have q3 : shortR r.p = false:=by simpa using q3
    have q4:=all_false (p:=fun v : Pv=>shortR v.p) hmj q3
    obtain rfl : R = .bool false:=by rw [hR]; congr 1; unfold lightM; rw [all_false hmem (show phS g = false by unfold phS; rw [q4]; simp)]; simp
    (try dsimp only[awp]);conv=>whnf
    refine fM ?_;(conv=>whnf);refine ⟨?_,rfl⟩;conv=>whnf
    all_goals exact wk
   have q3 : shortR r.p = true:=by simpa using q3
   (try dsimp only[awp]);conv=>whnf
   refine zA ?_;conv=>whnf
   refine ⟨j + 1,?_,?_,?_⟩
   ·exact ⟨hjl,by rw [hallj,hnj,q3]; rfl⟩
   ·refine ⟨?_,.mk ?_ ⟨by simp,by simp,trivial⟩⟩
    ·all_goals exact wk
    ·all_goals exact wk
   ·omega
  have hjl : j = g.vals.length:=by have : ¬ j < g.vals.length:=by simpa using hh
                                   omega
  subst hjl
  rw [List.take_length] at hnj
  (try dsimp only[awp]);conv=>whnf
  refine zA ?_;conv=>whnf
  refine ⟨i + 1,?_,?_,?_⟩
  ·exact ⟨hlt,by rw [hall,hn]; unfold phS; rw [hnj]; simp [q1]⟩
  ·refine ⟨?_,.mk ?_ ⟨by simp,trivial⟩⟩
   ·all_goals exact wk
   ·all_goals exact wk
  ·omega
 have hil : i = m.phs.length:=by have : ¬ i < m.phs.length:=by simpa using h
                                 omega
 subst hil
 rw [List.take_length] at hn
 obtain rfl : R = .bool true:=by rw [hR]; congr 1; unfold lightM; rw [a1,a2,a3,hn,h6]; simp [h1,h2,h3,h4,h5]
 (try dsimp only[awp]);conv=>whnf
 refine fM ?_;(conv=>whnf);refine ⟨?_,rfl⟩;conv=>whnf
 all_goals exact wk

theorem few_B {l : List Mg} (h : fewR l = true) : l.length ≤ 100 ∧ (∀ x ∈ l,x.ins.length ≤ 40) ∧ mgC l:=by
 unfold fewR at h
 simp only [Bool.and_eq_true,decide_eq_true_eq] at h
 refine ⟨h.2,fun x hx=>?_,fun x hx=>?_⟩
 ·have:=List.all_eq_true.1 h.1 x hx
  simp only [fewG,Bool.and_eq_true,decide_eq_true_eq] at this
  exact this.1
 ·have:=List.all_eq_true.1 h.1 x hx
  simp only [fewG,Bool.and_eq_true,decide_eq_true_eq] at this
  exact shortR_C this.2

theorem lightM_B {m : Md} (h : lightM m = true) : MdB m ∧ MdC m:=by
 unfold lightM at h
 simp only [Bool.and_eq_true,decide_eq_true_eq] at h
 obtain ⟨⟨⟨⟨⟨⟨⟨⟨⟨h1,h2⟩,h3⟩,h4⟩,h5⟩,h6⟩,h7⟩,h8⟩,h9⟩,h10⟩:=h
 have f6:=few_B h6
 refine ⟨⟨h1,h2,⟨f6.1,f6.2.1⟩,h3,fun p hp=>?_,h4,fun g hg=>?_,h5,fun p hp=>?_⟩,⟨fun x hx=>?_,f6.2.2,fun p hp=>?_,fun g hg f hf=>?_,fun p hp v hv=>?_⟩⟩
 ·have:=few_B (List.all_eq_true.1 h8 p hp)
  exact ⟨this.1,this.2.1⟩
 ·have:=List.all_eq_true.1 h9 g hg
  simp only [grS,Bool.and_eq_true,decide_eq_true_eq] at this
  exact this.1
 ·have:=List.all_eq_true.1 h10 p hp
  simp only [phS,Bool.and_eq_true,decide_eq_true_eq] at this
  exact this.1
 ·have:=List.all_eq_true.1 h7 x hx
  simp only [evS,Bool.and_eq_true] at this
  exact ⟨shortR_C this.1.1,shortR_C this.1.2,shortR_C this.2⟩
 ·exact (few_B (List.all_eq_true.1 h8 p hp)).2.2
 ·have:=List.all_eq_true.1 h9 g hg
  simp only [grS,Bool.and_eq_true,decide_eq_true_eq] at this
  exact shortR_C (List.all_eq_true.1 this.2 f hf)
 ·have:=List.all_eq_true.1 h10 p hp
  simp only [phS,Bool.and_eq_true,decide_eq_true_eq] at this
  exact shortR_C (List.all_eq_true.1 this.2 v hv)
end S

open Go Go.AL Go.Proofs
namespace Go.AL
section
variable {P : Program} {ops : Array Oper} {Q : Exit → Act → World → Prop} {a : Act} {w : World} {o : Oper} {l : List Oper}

structure Ext (w w' : World) : Prop where
 size : w.heap.size ≤ w'.heap.size
 old : ∀ b,b < w.heap.size → w'.heap[b]? = w.heap[b]?
 os : w'.os = w.os
 tape : w'.tape = w.tape
 output : w'.output = w.output

end
end Go.AL

namespace S
set_option maxRecDepth 100000

def exEv : Array Value:=#[.string ⟨#[97]⟩,.bool false,.slice none 0 0,.slice none 0 0,.bool false,.slice none 0 0,.slice none 0 0,.bool false,.slice none 0 0,.slice none 0 0,.int .i64 0,.string ⟨#[98]⟩,.bool false,.slice none 0 0,.slice none 0 0,.bool false,.slice none 0 0,.slice none 0 0,.bool false,.slice none 0 0,.slice none 0 0,.int .i64 0,.string ⟨#[99]⟩,.bool false,.slice none 0 0,.slice none 0 0,.bool false,.slice none 0 0,.slice none 0 0,.bool false,.slice none 0 0,.slice none 0 0,.int .i64 0]
def exI0 : Array Value:=#[.string ⟨#[97]⟩,.string ⟨#[64,112]⟩]
def exG0 (n : Nat) : Array Value:=#[.string ⟨#[103]⟩,.int .i64 0,.int .i64 0,.slice (some ⟨n,0,none⟩) 2 2,.bool false,.slice none 0 0,.slice none 0 0]
def exI1 : Array Value:=#[.string ⟨#[98]⟩,.string ⟨#[99]⟩]
def exG1 (n : Nat) : Array Value:=#[.string ⟨#[104]⟩,.int .i64 1,.int .i64 0,.slice (some ⟨n,0,none⟩) 2 2,.bool false,.slice none 0 0,.slice none 0 0]
def exP (n : Nat) : Array Value:=#[.string ⟨#[112]⟩,.string ⟨#[104]⟩,.slice (some ⟨n,0,none⟩) 1 1]
structure ExW (w w' : World) : Prop where
 ext : Ext w w'
 size : w'.heap.size = w.heap.size + 7
 ev : w'.heap[w.heap.size + 1]? = some (.cells exEv 142)
 i0 : w'.heap[w.heap.size + 2]? = some (.cells exI0 9)
 g0 : w'.heap[w.heap.size + 3]? = some (.cells (exG0 (w.heap.size + 2)) 163)
 i1 : w'.heap[w.heap.size + 4]? = some (.cells exI1 9)
 g1 : w'.heap[w.heap.size + 5]? = some (.cells (exG1 (w.heap.size + 4)) 163)
 pg : w'.heap[w.heap.size + 6]? = some (.cells (exP (w.heap.size + 5)) 144)

end S

open Go Go.AL Go.Proofs
namespace Go.AL
section
variable {P : Program} {L : Lay} {ops : Array Oper} {Q : Exit → Act → World → Prop} {a : Act} {w : World} {o : Oper} {l : List Oper}

structure PutA (a a' : Act) (d : Nat) (v : Value) : Prop where
 size : a'.tmps.size = a.tmps.size
 defers : a'.defers = a.defers
 new : a'.eval (.tmp d) = v
 old : ∀ t : Nat,t ≠ d → a'.eval (.tmp t) = a.eval (.tmp t)

end
end Go.AL

namespace S
set_option maxRecDepth 100000

abbrev zq : Rat:=⟨false,[],[]⟩
section
variable {w : World} {Im : Nat → Nat → Prop}

end


structure CInv (m : Md) (st : CS) : Prop where
 len : st.nodes.length = st.es.length
 nd : (st.es.map (·.1)).Nodup
 ok : ∀ e ∈ st.es,okN m e.1 ∧ e.1.1 ≠ 0

def univ (m : Md) : List Node:=(List.range m.hs.length).map (fun (i : Nat)=>((1,0,(i : Int)) : Node)) ++ allNodes m

theorem univ_mem {m : Md} {x : Node} (h : okN m x) (h0 : x.1 ≠ 0) : x ∈ univ m:=by
 unfold univ
 rw [List.mem_append]
 rcases h with h | h | h
 ·omega
 ·left
  obtain ⟨x1,x2,x3⟩:=x
  obtain ⟨rfl,rfl,h3,h4⟩:=h
  rw [List.mem_map]
  dsimp only at h3 h4
  exact ⟨x3.toNat,by rw [List.mem_range]; omega,by rw [Int.toNat_of_nonneg h3]⟩
 ·exact .inr h

theorem nodup_sub {α : Type} [DecidableEq α] : ∀ {l u : List α},l.Nodup → (∀ x ∈ l,x ∈ u) → l.length ≤ u.length
 | [],_,_,_=>Nat.zero_le _
 | x :: l,u,hn,hs=>by
   rw [List.nodup_cons] at hn
   have hx:=hs x (by simp)
   have:=nodup_sub (u:=u.erase x) hn.2 fun y hy=>(List.mem_erase_of_ne (fun e=>hn.1 (by rw [← e]; exact hy))).2 (hs y (by simp [hy]))
   rw [List.length_erase_of_mem hx] at this
   have:=List.length_pos_of_mem hx
   simp only [List.length_cons]; omega

theorem all_len {m : Md} (hB : MdB m) : (allNodes m).length ≤ 10000:=by
 have key : ∀ (l : List Int),(∀ a ∈ l,(gatesM m a).length ≤ 100) → (l.flatMap (nodesAt m)).length ≤ 100 * l.length:=by
  intro l
  induction l with
  | nil=>intro _; simp
  | cons a l ih =>
    intro h
    simp only [List.flatMap_cons,List.length_append,List.length_cons]
    have h1:=ih fun b hb=>h b (by simp [hb])
    have h2:=h a (by simp)
    have h3 : (nodesAt m a).length = (gatesM m a).length:=by simp [nodesAt]
    omega
 have h1:=key (atsM m) fun a _=>by
  unfold gatesM
  split
  ·exact hB.gates.1
  ·rw [List.getD_eq_getElem?_getD]
   cases hp : m.pages[a.toNat]? with
   | none=>exact Nat.zero_le _
   | some p=>exact (hB.pgates p (List.mem_of_getElem? hp)).1
 rw [ats_len] at h1
 have:=hB.pages
 unfold allNodes
 omega

theorem mark_new {x : Node} {v : Int} : ∀ {es : Marks},lookO es x = none → mark es x v = es ++ [(x,v)] ∧ x ∉ es.map (·.1)
 | [],_=>⟨rfl,by simp⟩
 | (y,u) :: es,h=>by
   simp only [lookO] at h
   split at h
   ·cases h
   rename_i hy
   obtain ⟨h1,h2⟩:=mark_new h
   refine ⟨?_,?_⟩
   ·simp only [mark,if_neg hy]; rw [h1]; rfl
   ·simp only [List.map_cons,List.mem_cons,not_or]
    exact ⟨fun e=>hy e.symm,h2⟩


theorem g_find1 (x : Pg) (s : Str) (h0 : 0 < s.length) : FnH Tryz.prog 159 [x.av,.ptr 0 [] 0] [(0,.box (.str s))] (.bool (decide (x.name = s.drop 1))) [(0,.box (.str s))]:=by
 refine FnH.intro lay mixed Tryz.func159 (by kernel_rfl) rfl (by kernel_rfl) rfl fun hok=>?_
 (try dsimp only[argC,succC]);(try dsimp only[awp]);conv=>whnf
 refine ADraw.auto (by kernel_rfl) ?_;conv=>whnf
 refine ⟨⟨by omega,by omega,by omega⟩,?_⟩
 rw [cut1]
 (try dsimp only[awp]);conv=>whnf
 refine ⟨⟨_,_,.refl _ _,?_⟩⟩
 conv=>whnf
 refine ⟨?_,rfl,by simp [nextId],.mk ?_ ⟨by simp,trivial⟩⟩
 ·show _ ↔ _
  simp
 ·all_goals exact wk

theorem g_find2 (x : Ev) (s : Str) : FnH Tryz.prog 161 [x.av,.ptr 0 [] 0] [(0,.box (.str s))] (.bool (decide (x.name = s))) [(0,.box (.str s))]:=by
 refine FnH.intro lay mixed Tryz.func161 (by kernel_rfl) rfl (by kernel_rfl) rfl fun hok=>?_
 (try dsimp only[argC,succC]);(try dsimp only[awp]);conv=>whnf
 refine ⟨⟨_,_,.refl _ _,?_⟩⟩
 conv=>whnf
 refine ⟨?_,rfl,by simp [nextId],.mk ?_ ⟨by simp,trivial⟩⟩
 ·show _ ↔ _
  simp
 ·all_goals exact wk
theorem g_find3 (x : Hs) (s : Str) : FnH Tryz.prog 163 [x.av,.ptr 0 [] 0] [(0,.box (.str s))] (.bool (decide (x.name = s))) [(0,.box (.str s))]:=by
 refine FnH.intro lay mixed Tryz.func163 (by kernel_rfl) rfl (by kernel_rfl) rfl fun hok=>?_
 (try dsimp only[argC,succC]);(try dsimp only[awp]);conv=>whnf
 refine ⟨⟨_,_,.refl _ _,?_⟩⟩
 conv=>whnf
 refine ⟨?_,rfl,by simp [nextId],.mk ?_ ⟨by simp,trivial⟩⟩
 ·show _ ↔ _
  simp
 ·all_goals exact wk
theorem g_find4 (x : Mg) (s : Str) : FnH Tryz.prog 165 [x.av,.ptr 0 [] 0] [(0,.box (.str s))] (.bool (decide (x.name = s))) [(0,.box (.str s))]:=by
 refine FnH.intro lay mixed Tryz.func165 (by kernel_rfl) rfl (by kernel_rfl) rfl fun hok=>?_
 (try dsimp only[argC,succC]);(try dsimp only[awp]);conv=>whnf
 refine ⟨⟨_,_,.refl _ _,?_⟩⟩
 conv=>whnf
 refine ⟨?_,rfl,by simp [nextId],.mk ?_ ⟨by simp,trivial⟩⟩
 ·show _ ↔ _
  simp
 ·all_goals exact wk

theorem g_gates (m : Md) (X : AV) (T M B3 B4 : HO) (a : Int) (h : a = -1 ∨ (0 ≤ a ∧ a < (m.pages.length : Int))) : FnH Tryz.prog 85 [.ptr 1 [] 0,.int .i64 a] ((4,B4) :: (3,B3) :: hpF m X T M) (gL (gatesM m a)) ((4,B4) :: (3,B3) :: hpF m X T M):=by
 refine FnH.intro lay mixed Tryz.func85 (by kernel_rfl) rfl (by kernel_rfl) rfl fun hok=>?_
 (try dsimp only[argC,succC]);(try dsimp only[awp]);conv=>whnf
 refine And.intro (fun h1=>?_) (fun h1=>?_)
 ·rw [show gatesM m a = m.gates from if_pos h1]
  (try dsimp only[awp]);conv=>whnf
  (refine FinSpec.same ?_;(conv=>whnf);refine ⟨?_,rfl⟩;(conv=>whnf))
  all_goals exact wk
 ·have hb : 0 ≤ a ∧ a < (m.pages.length : Int):=by omega
  rw [show gatesM m a = (m.pages.getD a.toNat default).gates from if_neg h1]
  (try dsimp only[awp]);conv=>whnf
  refine aidxD default hb ?_
  (try dsimp only[awp]);conv=>whnf
  (refine FinSpec.same ?_;(conv=>whnf);refine ⟨?_,rfl⟩;(conv=>whnf))
  all_goals exact wk

theorem g_find (m : Md) (X : AV) (T M : HO) (hX : WkA X) (hT : WkO T) (hO : WkO M) (a : Int) (s : Str) (h0 : 0 < s.length) (ha : a = -1 ∨ (0 ≤ a ∧ a < (m.pages.length : Int))) (hp : atS s = true → 0 ≤ i_page m.pages (s.drop 1)) :
  FnH Tryz.prog 84 [.ptr 1 [] 0,.int .i64 a,.str s] (hpF m X T M) (nAV (resR m a s)) (hpF m X T M):=by
 have hpl : i_page m.pages (s.drop 1) < (m.pages.length : Int):=idxP_lt _ _
 refine FnH.intro lay mixed Tryz.func84 (by kernel_rfl) rfl (by kernel_rfl) rfl fun hok=>?_
 (try dsimp only[argC,succC]);(try dsimp only[awp]);conv=>whnf
 refine sidx0 h0 ?_
 (try dsimp only[awp]);conv=>whnf
 refine And.intro (fun h2=>?_) (fun h2=>?_)
 ·have e : atS s = true:=by simp only [atS,h0,h2,decide_true,Bool.true_and]
  have hp:=hp e
  rw [show resR m a s = resOn m (i_page m.pages (s.drop 1)) (pageTop m (i_page m.pages (s.drop 1))) from if_pos e]
  have hpt : (m.pages.getD (i_page m.pages (s.drop 1)).toNat default).top = pageTop m (i_page m.pages (s.drop 1)):=rfl
  (try dsimp only[awp]);conv=>whnf
  refine .gen _ _ (c_idx_Pg m.pages 159 [.ptr 3 [] 0] (fun x=>decide (x.name = s.drop 1)) _ fun x _=>FnH.frame [3] (g_find1 x s h0) ⟨rfl,rfl,rfl,rfl⟩ (by (repeat' first|exact rfl|exact trivial|exact wR|exact lR _|apply aI)) (by (repeat' first|exact rfl|exact trivial|exact wR|exact lR _|apply aI))) fun _=>?_
  rw [show idxP (fun x=>decide (x.name = s.drop 1)) m.pages = i_page m.pages (s.drop 1) from rfl]
  generalize i_page m.pages (s.drop 1) = p at *
  have hpb : p = -1 ∨ (0 ≤ p ∧ p < (m.pages.length : Int)):=.inr ⟨hp,hpl⟩
  (try dsimp only[awp]);conv=>whnf
  refine aidxD default ⟨hp,hpl⟩ ?_
  (try dsimp only[awp]);conv=>whnf
  rw [hpt]
  generalize pageTop m p = t at *
  (try dsimp only[awp]);conv=>whnf
  refine .gen _ _ (c_idx_Ev m.evs 161 [.ptr 3 [] 0] (fun x=>decide (x.name = t)) _ fun x _=>FnH.frame [3] (g_find2 x t) ⟨rfl,rfl,rfl,rfl⟩ (by (repeat' first|exact rfl|exact trivial|exact wR|exact lR _|apply aI)) (by (repeat' first|exact rfl|exact trivial|exact wR|exact lR _|apply aI))) fun _=>?_
  (try dsimp only[awp]);conv=>whnf
  refine And.intro (fun h3=>?_) (fun h3=>?_)
  ·rw [show resOn m p t = (0,0,i_event m.evs t) from if_pos h3]
   (try dsimp only[awp]);conv=>whnf
   refine ⟨⟨_,_,.refl _ _,?_⟩⟩
   conv=>whnf
   refine ⟨?_,rfl,by simp [nextId],.mk ?_ (by simp [idsOk])⟩
   ·all_goals exact wk
   ·repeat' first|exact rfl|exact trivial|exact wR|exact lR _|apply aI
    all_goals first | exact hT.1 | exact hT.2 | exact hO.1 | exact hO.2 | exact hX.1 | (show (match bndB 3 X with | true=>_ | false=>_) = true; rw [hX.2]; rfl)
  (try dsimp only[awp]);conv=>whnf
  refine .gen _ _ (c_idx_Hs m.hs 163 [.ptr 3 [] 0] (fun x=>decide (x.name = t)) _ fun x _=>FnH.frame [3] (g_find3 x t) ⟨rfl,rfl,rfl,rfl⟩ (by (repeat' first|exact rfl|exact trivial|exact wR|exact lR _|apply aI)) (by (repeat' first|exact rfl|exact trivial|exact wR|exact lR _|apply aI))) fun _=>?_
  (try dsimp only[awp]);conv=>whnf
  refine And.intro (fun h4=>?_) (fun h4=>?_)
  ·rw [show resOn m p t = (1,0,i_house m.hs t) from (if_neg h3).trans (if_pos h4)]
   (try dsimp only[awp]);conv=>whnf
   refine ⟨⟨_,_,.refl _ _,?_⟩⟩
   conv=>whnf
   refine ⟨?_,rfl,by simp [nextId],.mk ?_ (by simp [idsOk])⟩
   ·all_goals exact wk
   ·repeat' first|exact rfl|exact trivial|exact wR|exact lR _|apply aI
    all_goals first | exact hT.1 | exact hT.2 | exact hO.1 | exact hO.2 | exact hX.1 | (show (match bndB 3 X with | true=>_ | false=>_) = true; rw [hX.2]; rfl)
  rw [show resOn m p t = (2,p,i_gate (gatesM m p) t) from (if_neg h3).trans (if_neg h4)]
  (try dsimp only[awp]);conv=>whnf
  refine .gen _ _ (g_gates m X T M _ _ p (by assumption)) fun _=>?_
  (try dsimp only[awp]);conv=>whnf
  refine .gen _ _ (c_idx_Mg (gatesM m p) 165 [.ptr 3 [] 0] (fun x=>decide (x.name = t)) _ fun x _=>FnH.frame [3] (g_find4 x t) ⟨rfl,rfl,rfl,rfl⟩ (by (repeat' first|exact rfl|exact trivial|exact wR|exact lR _|apply aI)) (by (repeat' first|exact rfl|exact trivial|exact wR|exact lR _|apply aI))) fun _=>?_
  (try dsimp only[awp]);conv=>whnf
  refine ⟨⟨_,_,.refl _ _,?_⟩⟩
  conv=>whnf
  refine ⟨?_,rfl,by simp [nextId],.mk ?_ (by simp [idsOk])⟩
  ·all_goals exact wk
  ·repeat' first|exact rfl|exact trivial|exact wR|exact lR _|apply aI
   all_goals first | exact hT.1 | exact hT.2 | exact hO.1 | exact hO.2 | exact hX.1 | (show (match bndB 3 X with | true=>_ | false=>_) = true; rw [hX.2]; rfl)
 ·have e : atS s = false:=by simp only [atS,decide_eq_false h2,Bool.and_false]
  rw [show resR m a s = resOn m a s from if_neg (by rw [e]; simp)]
  (try dsimp only[awp]);conv=>whnf
  refine .gen _ _ (c_idx_Ev m.evs 161 [.ptr 3 [] 0] (fun x=>decide (x.name = s)) _ fun x _=>FnH.frame [3] (g_find2 x s) ⟨rfl,rfl,rfl,rfl⟩ (by (repeat' first|exact rfl|exact trivial|exact wR|exact lR _|apply aI)) (by (repeat' first|exact rfl|exact trivial|exact wR|exact lR _|apply aI))) fun _=>?_
  (try dsimp only[awp]);conv=>whnf
  refine And.intro (fun h3=>?_) (fun h3=>?_)
  ·rw [show resOn m a s = (0,0,i_event m.evs s) from if_pos h3]
   (try dsimp only[awp]);conv=>whnf
   refine ⟨⟨_,_,.refl _ _,?_⟩⟩
   conv=>whnf
   refine ⟨?_,rfl,by simp [nextId],.mk ?_ (by simp [idsOk])⟩
   ·all_goals exact wk
   ·repeat' first|exact rfl|exact trivial|exact wR|exact lR _|apply aI
    all_goals first | exact hT.1 | exact hT.2 | exact hO.1 | exact hO.2 | exact hX.1 | (show (match bndB 3 X with | true=>_ | false=>_) = true; rw [hX.2]; rfl)
  (try dsimp only[awp]);conv=>whnf
  refine .gen _ _ (c_idx_Hs m.hs 163 [.ptr 3 [] 0] (fun x=>decide (x.name = s)) _ fun x _=>FnH.frame [3] (g_find3 x s) ⟨rfl,rfl,rfl,rfl⟩ (by (repeat' first|exact rfl|exact trivial|exact wR|exact lR _|apply aI)) (by (repeat' first|exact rfl|exact trivial|exact wR|exact lR _|apply aI))) fun _=>?_
  (try dsimp only[awp]);conv=>whnf
  refine And.intro (fun h4=>?_) (fun h4=>?_)
  ·rw [show resOn m a s = (1,0,i_house m.hs s) from (if_neg h3).trans (if_pos h4)]
   (try dsimp only[awp]);conv=>whnf
   refine ⟨⟨_,_,.refl _ _,?_⟩⟩
   conv=>whnf
   refine ⟨?_,rfl,by simp [nextId],.mk ?_ (by simp [idsOk])⟩
   ·all_goals exact wk
   ·repeat' first|exact rfl|exact trivial|exact wR|exact lR _|apply aI
    all_goals first | exact hT.1 | exact hT.2 | exact hO.1 | exact hO.2 | exact hX.1 | (show (match bndB 3 X with | true=>_ | false=>_) = true; rw [hX.2]; rfl)
  rw [show resOn m a s = (2,a,i_gate (gatesM m a) s) from (if_neg h3).trans (if_neg h4)]
  (try dsimp only[awp]);conv=>whnf
  refine .gen _ _ (g_gates m X T M _ _ a (by assumption)) fun _=>?_
  (try dsimp only[awp]);conv=>whnf
  refine .gen _ _ (c_idx_Mg (gatesM m a) 165 [.ptr 3 [] 0] (fun x=>decide (x.name = s)) _ fun x _=>FnH.frame [3] (g_find4 x s) ⟨rfl,rfl,rfl,rfl⟩ (by (repeat' first|exact rfl|exact trivial|exact wR|exact lR _|apply aI)) (by (repeat' first|exact rfl|exact trivial|exact wR|exact lR _|apply aI))) fun _=>?_
  (try dsimp only[awp]);conv=>whnf
  refine ⟨⟨_,_,.refl _ _,?_⟩⟩
  conv=>whnf
  refine ⟨?_,rfl,by simp [nextId],.mk ?_ (by simp [idsOk])⟩
  ·all_goals exact wk
  ·repeat' first|exact rfl|exact trivial|exact wR|exact lR _|apply aI
   all_goals first | exact hT.1 | exact hT.2 | exact hO.1 | exact hO.2 | exact hX.1 | (show (match bndB 3 X with | true=>_ | false=>_) = true; rw [hX.2]; rfl)

def shortX (x : Rat) : Prop:=x.num.length ≤ 40 ∧ x.den.length ≤ 40

structure MdX (m : Md) : Prop where
 evs : ∀ x ∈ m.evs,shortX x.p ∧ shortX x.fail ∧ shortX x.repair
 gates : ∀ x ∈ m.gates,shortX x.dorm
 pages : ∀ p ∈ m.pages,∀ x ∈ p.gates,shortX x.dorm
 grs : ∀ x ∈ m.grs,∀ f ∈ x.fac,shortX f
 phs : ∀ x ∈ m.phs,∀ v ∈ x.vals,shortX v.p

theorem shortX_of {x : Rat} (h : shortR x = true) : shortX x:=by
 simpa [shortR,shortX] using h

theorem few_X {l : List Mg} (h : fewR l = true) : ∀ x ∈ l,shortX x.dorm:=by
 intro x hx
 unfold fewR at h
 simp only [Bool.and_eq_true] at h
 have:=List.all_eq_true.1 h.1 x hx
 simp only [fewG,Bool.and_eq_true] at this
 exact shortX_of this.2

theorem lightM_X {m : Md} (h : lightM m = true) : MdX m:=by
 unfold lightM at h
 simp only [Bool.and_eq_true,decide_eq_true_eq] at h
 obtain ⟨⟨⟨⟨⟨⟨⟨⟨⟨h1,h2⟩,h3⟩,h4⟩,h5⟩,h6⟩,h7⟩,h8⟩,h9⟩,h10⟩:=h
 refine ⟨fun x hx=>?_,few_X h6,fun p hp=>few_X (List.all_eq_true.1 h8 p hp),fun g hg f hf=>?_,fun p hp v hv=>?_⟩
 ·have:=List.all_eq_true.1 h7 x hx
  simp only [evS,Bool.and_eq_true] at this
  exact ⟨shortX_of this.1.1,shortX_of this.1.2,shortX_of this.2⟩
 ·have:=List.all_eq_true.1 h9 g hg
  simp only [grS,Bool.and_eq_true] at this
  exact shortX_of (List.all_eq_true.1 this.2 f hf)
 ·have:=List.all_eq_true.1 h10 p hp
  simp only [phS,Bool.and_eq_true] at this
  exact shortX_of (List.all_eq_true.1 this.2 v hv)


structure DS where
 gates : List Gate
 es : Marks
 deriving Inhabited

def houseG (on : Bool) (a : Int) : List Gate:=[⟨3,0,[0],zq⟩,⟨if on = true then 1 else 0,0,[0,a],zq⟩]

def compDL (f : Node → DS → Int × DS) : List Node → DS → List Int → List Int × DS
 | [],s,acc=>(acc,s)
 | y :: l,s,acc=>compDL f l (f y s).2 (acc ++ [(f y s).1])

def compD (m : Md) (v : Int) : Nat → Node → DS → Int × DS
 | 0,_,s=>(0,s)
 | n + 1,x,s=>if x.1 = 0 then (x.2.2,s) else
   match lookO s.es x with
   | some a=>(a,s)
   | none=>if x.1 = 1 then (v + s.gates.length + 1,⟨s.gates ++ houseG (houseAt m x).on (v + s.gates.length),mark s.es x (v + s.gates.length + 1)⟩)
     else (v + (compDL (compD m v n) (kidsM m x) s []).2.gates.length,
      ⟨(compDL (compD m v n) (kidsM m x) s []).2.gates ++ [⟨(gateAt m x).kind,(gateAt m x).k,(compDL (compD m v n) (kidsM m x) s []).1,(gateAt m x).dorm⟩],
       mark (compDL (compD m v n) (kidsM m x) s []).2.es x (v + (compDL (compD m v n) (kidsM m x) s []).2.gates.length)⟩)

structure DInv (m : Md) (s : DS) : Prop where
 len : s.gates.length ≤ 2 * s.es.length
 nd : (s.es.map (·.1)).Nodup
 ok : ∀ e ∈ s.es,okN m e.1 ∧ e.1.1 ≠ 0

theorem DInv.short {m : Md} (hB : MdB m) {s : DS} (h : DInv m s) : s.gates.length ≤ 40000:=by
 have:=nodup_sub h.nd (u:=univ m) fun x hx=>by
  obtain ⟨e,he,rfl⟩:=List.mem_map.1 hx
  exact univ_mem (h.ok e he).1 (h.ok e he).2
 rw [List.length_map] at this
 have h1:=all_len hB
 have h2:=hB.hs
 have h3 : (univ m).length = m.hs.length + (allNodes m).length:=by simp [univ]
 have:=h.len
 omega

theorem DInv.push {m : Md} {s : DS} (h : DInv m s) {x : Node} (hx : okN m x) (h0 : x.1 ≠ 0) (hn : lookO s.es x = none) (v : Int) (gs : List Gate) (hg : gs.length ≤ 2) : DInv m ⟨s.gates ++ gs,mark s.es x v⟩:=by
 obtain ⟨h1,h2⟩:=mark_new (v:=v) hn
 refine ⟨?_,?_,?_⟩
 ·show (s.gates ++ gs).length ≤ 2 * (mark _ _ _).length
  rw [h1,List.length_append,List.length_append]
  have:=h.len
  simp only [List.length_cons,List.length_nil]
  omega
 ·show ((mark _ _ _).map (·.1)).Nodup
  rw [h1,List.map_append,List.nodup_append]
  refine ⟨h.nd,by simp,?_⟩
  intro a ha b hb
  simp at hb
  subst hb
  exact fun e=>h2 (e ▸ ha)
 ·show ∀ e ∈ mark _ _ _,_
  rw [h1]
  intro e he
  rcases List.mem_append.1 he with he | he
  ·exact h.ok e he
  ·simp at he; subst he; exact ⟨hx,h0⟩

theorem compD_inv {m : Md} (hc : ClosedM m) {rank : Node → Nat} (hr : RankM m rank) (v : Int) : ∀ (n : Nat) (x : Node) (s : DS),okN m x → DInv m s →
  DInv m (compD m v n x s).2 ∧ ∀ z : Node,z.1 = 2 → (x.1 = 2 → rank x < rank z) → lookO s.es z = none → lookO (compD m v n x s).2.es z = none
 | 0,_,_,_,h=>⟨h,fun _ _ _ h=>h⟩
 | n + 1,x,st,hx,h=>by
   have push : ∀ {s : DS} (w : Int) (gs : List Gate),gs.length ≤ 2 → DInv m s → x.1 ≠ 0 → lookO s.es x = none → (∀ z : Node,z.1 = 2 → (x.1 = 2 → rank x < rank z) → lookO st.es z = none → lookO s.es z = none) →
     DInv m ⟨s.gates ++ gs,mark s.es x w⟩ ∧ ∀ z : Node,z.1 = 2 → (x.1 = 2 → rank x < rank z) → lookO st.es z = none → lookO (mark s.es x w) z = none:=by
    intro s w gs hg h1 h2 h3 h4
    refine ⟨h1.push hx h2 h3 w gs hg,fun z hz hxz hs=>?_⟩
    rw [lookO_mark,if_neg]
    ·exact h4 z hz hxz hs
    ·rintro rfl; have:=hxz hz; omega
   unfold compD
   split
   ·exact ⟨h,fun _ _ _ h=>h⟩
   rename_i h0
   split
   ·exact ⟨h,fun _ _ _ h=>h⟩
   rename_i hn
   split
   ·exact push _ _ (by simp [houseG]) h h0 hn fun _ _ _ h=>h
   rename_i h1
   have h2 : x.1 = 2:=by
    rcases hx with h | h | h
    ·omega
    ·omega
    ·exact (mem_all.1 h).1
   have hk:=(okN_kids hc hx h2).2
   have key : ∀ (l : List Node) (s : DS) (acc : List Int),(∀ y ∈ l,okN m y ∧ (y.1 = 2 → rank y < rank x)) → DInv m s → DInv m (compDL (compD m v n) l s acc).2 ∧
     ∀ z : Node,z.1 = 2 → rank x ≤ rank z → lookO s.es z = none → lookO (compDL (compD m v n) l s acc).2.es z = none:=by
    intro l
    induction l with
    | nil=>intro s acc _ h; exact ⟨h,fun _ _ _ h=>h⟩
    | cons y l ih =>
      intro s acc hl h
      unfold compDL
      obtain ⟨hy,hyr⟩:=hl y (by simp)
      obtain ⟨h',g'⟩:=compD_inv hc hr v n y s hy h
      have g2 : ∀ z : Node,z.1 = 2 → rank x ≤ rank z → lookO s.es z = none → lookO (compD m v n y s).2.es z = none:=fun z hz hxz hs=>g' z hz (fun e=>by have:=hyr e; omega) hs
      obtain ⟨i1,i2⟩:=ih (compD m v n y s).2 (acc ++ [(compD m v n y s).1]) (fun z hz=>hl z (by simp [hz])) h'
      exact ⟨i1,fun z hz hxz hs=>i2 z hz hxz (g2 z hz hxz hs)⟩
   obtain ⟨k1,k2⟩:=key (kidsM m x) st [] (fun y hy=>⟨hk y hy,hr x hx h2 y hy⟩) h
   exact push _ _ (by simp) k1 h0 (k2 x h2 (Nat.le_refl _) hn) fun z hz hxz hs=>k2 z hz (by have:=hxz h2; omega) hs

theorem g_clone (x : Rat) (hx : shortX x) : FnH Tryz.prog 82 [x.av] [] x.av []:=by
 have c1:=c_clone32 x.num (by have:=hx.1; omega)
 have c2:=c_clone32 x.den (by have:=hx.2; omega)
 refine FnH.intro lay mixed Tryz.func82 (by kernel_rfl) rfl (by kernel_rfl) rfl fun hok=>?_
 (try dsimp only[argC,succC]);(try dsimp only[awp]);conv=>whnf
 refine ADraw.auto (by kernel_rfl) ?_;conv=>whnf
 refine ACallP.pure _ _ ?_ ⟨rfl,rfl⟩ c1 ?_
 ·exact leL_refl _
 (try dsimp only[awp]);conv=>whnf
 refine ACallP.pure _ _ ?_ ⟨rfl,rfl⟩ c2 ?_
 ·exact leL_refl _
 (try dsimp only[awp]);conv=>whnf
 refine fM ?_;(conv=>whnf);refine ⟨?_,rfl⟩;conv=>whnf
 all_goals exact wk

abbrev rtL (l : List Rat) : AV:=.sl 3 (l.map Rat.av) .no
abbrev xD (m : Md) (v top : Int) (s : DS) : AV:=.ag [.int .i64 v,.sl 6 (s.gates.map Gate.av) (.own 2),.int .i64 top,rtL (m.evs.map Ev.fail),rtL (m.evs.map Ev.repair)]
abbrev hpD (m : Md) (v top : Int) (s : DS) : Heap:=hpF m (xD m v top s) (.tok 6 s.gates.length) (.amap shN (encM s.es))

theorem xD_wk (m : Md) (v top : Int) (s : DS) : WkA (xD m v top s):=⟨le0_refl _,rfl⟩
theorem tD_wk (n : Nat) : WkO (.tok 6 n):=⟨⟨rfl,rfl⟩,rfl⟩
theorem mD_wk (es : Marks) : WkO (.amap shN (encM es)):=⟨⟨rfl,leM_refl _⟩,encM_bnd _ _⟩

theorem g_add (m : Md) (v top : Int) (s : DS) (g : Gate) (hv : 0 ≤ v ∧ v ≤ 100) (hs : s.gates.length ≤ 100000) :
  FnH Tryz.prog 157 [.ptr 1 [] 0,g.av] (hpD m v top s) (.int .i64 (v + s.gates.length)) (hpD m v top ⟨s.gates ++ [g],s.es⟩):=by
 refine FnH.intro lay mixed Tryz.func157 (by kernel_rfl) rfl (by kernel_rfl) rfl fun hok=>?_
 (try dsimp only[argC,succC]);(try dsimp only[awp]);conv=>whnf
 refine ADraw.auto (by kernel_rfl) ?_;conv=>whnf
 refine ⟨by rw [List.length_map],.mk (by simp [maxL]; omega) (by simp; omega) ?_⟩
 (try dsimp only[awp]);conv=>whnf
 refine ADraw.auto (by kernel_rfl) ?_;conv=>whnf
 refine ⟨inr64 (by simp; omega) (by simp; omega),?_⟩
 (try dsimp only[awp]);conv=>whnf
 refine ⟨inr64 (by simp; omega) (by simp; omega),?_⟩
 (try dsimp only[awp]);conv=>whnf
 refine ⟨⟨_,_,.refl _ _,?_⟩⟩
 conv=>whnf
 refine ⟨?_,rfl,by simp [nextId],.mk ?_ (by simp [idsOk])⟩
 ·repeat' first|exact rfl|exact trivial|exact wR|exact lR _|apply aI
  all_goals first | (show (_ : Int) = _; simp; omega) | skip
 ·repeat' first|exact rfl|exact trivial|exact wR|exact lR _|apply aI
  all_goals first | exact leM_refl _ | exact leM_nr _ _ | exact encM_bnd _ _ | (show leRL _ (List.map _ (_ ++ [_])); rw [List.map_append]; refine leRL_snoc ?_ (lR _); (repeat' first|exact rfl|exact trivial|exact wR|exact lR _|apply aI); done) | (simp; done) | (simp; omega)

def lvlD (rank : Node → Nat) (x : Node) : Nat:=if x.1 = 2 then rank x + 1 else 0

theorem leM_rr (f g : Nat → Nat) (es : Marks) : leM (rnM f (encM es)) (rnM g (encM es)):=by rw [encM_rn,encM_rn]; exact leM_refl _

theorem aupd_eqD {es : Marks} {x : Node} {v w : Int} {k : List (AV × AV) → Prop} (e : w = v) (h : k (encM (mark es x v))) : AUpd (encM es) (nAV x) (.int .i64 w) k:=by subst e; exact aupd_es h

theorem g_gates1 (m : Md) (X : AV) (T M B3 : HO) (a : Int) (h : a = -1 ∨ (0 ≤ a ∧ a < (m.pages.length : Int))) : FnH Tryz.prog 85 [.ptr 1 [] 0,.int .i64 a] ((3,B3) :: hpF m X T M) (gL (gatesM m a)) ((3,B3) :: hpF m X T M):=by
 refine FnH.intro lay mixed Tryz.func85 (by kernel_rfl) rfl (by kernel_rfl) rfl fun hok=>?_
 (try dsimp only[argC,succC]);(try dsimp only[awp]);conv=>whnf
 refine And.intro (fun h1=>?_) (fun h1=>?_)
 ·rw [show gatesM m a = m.gates from if_pos h1]
  (try dsimp only[awp]);conv=>whnf
  (refine FinSpec.same ?_;(conv=>whnf);refine ⟨?_,rfl⟩;(conv=>whnf))
  all_goals exact wk
 ·have hb : 0 ≤ a ∧ a < (m.pages.length : Int):=by omega
  rw [show gatesM m a = (m.pages.getD a.toNat default).gates from if_neg h1]
  (try dsimp only[awp]);conv=>whnf
  refine aidxD default hb ?_
  (try dsimp only[awp]);conv=>whnf
  (refine FinSpec.same ?_;(conv=>whnf);refine ⟨?_,rfl⟩;(conv=>whnf))
  all_goals exact wk

theorem g_comp (m : Md) (hM : MOk m) (hB : MdB m) (hX : MdX m) (rank : Node → Nat) (hr : RankM m rank) : ∀ (n : Nat) (x : Node) (top : Int) (st : DS),okN m x → lvlD rank x < n → DInv m st →
  FnH Tryz.prog 83 [.ptr 1 [] 0,nAV x] (hpD m m.evs.length top st) (.int .i64 (compD m m.evs.length n x st).1) (hpD m m.evs.length top (compD m m.evs.length n x st).2):=by
 intro n
 induction n with
 | zero=>intro x top st _ h; omega
 | succ n ih =>
   intro x top st hxo hn hI
   have hev:=hM.lens.1
   have hshort:=hI.short hB
   have hcl:=hM.closed
   have hkk:=fun h2=>okN_kids hcl hxo h2
   have hrk:=hr _ hxo
   have hInv:=compD_inv hcl hr m.evs.length n
   generalize hve : (m.evs.length : Int) = ve at *
   refine FnH.intro lay mixed Tryz.func83 (by kernel_rfl) rfl (by kernel_rfl) rfl fun hok=>?_
   (try dsimp only[argC,succC]);(try dsimp only[awp]);conv=>whnf
   refine And.intro (fun h0=>?_) (fun h0=>?_)
   ·rw [show compD m ve (n + 1) x st = (x.2.2,st) from if_pos h0]
    (try dsimp only[awp]);conv=>whnf
    refine ⟨⟨_,_,.refl _ _,?_⟩⟩
    conv=>whnf
    refine ⟨?_,rfl,by simp [nextId],.mk ?_ (by simp [idsOk])⟩
    ·repeat' first|exact rfl|exact trivial|exact wR|exact lR _|apply aI
     all_goals first | (show (_ : Int) = _; simp [houseG]; omega) | (show (_ : Int) = _; simp [houseG]; done) | skip
    ·repeat' first|exact rfl|exact trivial|exact wR|exact lR _|apply aI
     all_goals first | exact leM_refl _ | exact leM_nr _ _ | exact encM_bnd _ _ | (refine leRL_of ?_; simp [houseG]; done) | (simp [houseG]; done) | (simp [houseG]; omega) | skip
   (try dsimp only[awp]);conv=>whnf
   refine ADraw.auto (by kernel_rfl) ?_;conv=>whnf
   refine alook_opt (fun v hv=>?_) (fun hv=>?_)
   ·rw [show compD m ve (n + 1) x st = (v,st) from by unfold compD; rw [if_neg h0,hv]]
    (try dsimp only[awp]);conv=>whnf
    refine ⟨⟨_,_,.refl _ _,?_⟩⟩
    conv=>whnf
    refine ⟨?_,rfl,by simp [nextId],.mk ?_ (by simp [idsOk])⟩
    ·repeat' first|exact rfl|exact trivial|exact wR|exact lR _|apply aI
     all_goals first | (show (_ : Int) = _; simp [houseG]; omega) | (show (_ : Int) = _; simp [houseG]; done) | skip
    ·repeat' first|exact rfl|exact trivial|exact wR|exact lR _|apply aI
     all_goals first | exact leM_refl _ | exact leM_nr _ _ | exact encM_bnd _ _ | (refine leRL_of ?_; simp [houseG]; done) | (simp [houseG]; done) | (simp [houseG]; omega) | skip
   (try dsimp only[awp]);conv=>whnf
   refine And.intro (fun h1=>?_) (fun h1=>?_)
   ·have hh : 0 ≤ x.2.2 ∧ x.2.2 < (m.hs.length : Int):=by
     rcases hxo with h | h | h
     ·omega
     ·exact ⟨h.2.2.1,h.2.2.2⟩
     ·have:=(mem_all.1 h).1; omega
    have hR : compD m ve (n + 1) x st = (ve + st.gates.length + 1,⟨st.gates ++ houseG (houseAt m x).on (ve + st.gates.length),mark st.es x (ve + st.gates.length + 1)⟩):=by unfold compD; rw [if_neg h0,hv]; exact if_pos h1
    rw [hR]
    have a1:=g_add m ve top st ⟨3,0,[0],zq⟩ (by omega) (by omega)
    (try dsimp only[awp]);conv=>whnf
    refine ADraw.auto (by kernel_rfl) ?_;conv=>whnf
    refine aidxD default hh ?_
    rw [show m.hs.getD x.2.2.toNat default = houseAt m x from rfl]
    have a2:=fun on : Bool=>g_add m ve top ⟨st.gates ++ [⟨3,0,[0],zq⟩],st.es⟩ ⟨if on = true then 1 else 0,0,[0,ve + st.gates.length],zq⟩ (by omega) (by simp; omega)
    (try dsimp only[awp]);conv=>whnf
    refine And.intro (fun g=>?_) (fun g=>?_)
    all_goals
     have a2:=a2 (houseAt m x).on
     rw [g] at a2 ⊢
     (try dsimp only[awp]);conv=>whnf
     refine .gen _ _ (FnH.frame [0,1,2] a1 ⟨rfl,rfl,rfl,rfl⟩ ?_ ?_) fun _=>?_
     ·repeat' first|exact rfl|exact trivial|exact wR|exact lR _|apply aI
      all_goals first | exact leM_rn _ _ | exact leM_rr _ _ _ | exact encM_bnd _ _
     ·all_goals exact wk
     (try dsimp only[awp]);conv=>whnf
     refine .gen _ _ (FnH.frame [0,1,2] a2 ⟨rfl,rfl,rfl,rfl⟩ ?_ ?_) fun _=>?_
     ·repeat' first|exact rfl|exact trivial|exact wR|exact lR _|apply aI
      all_goals first | exact leM_rn _ _ | exact leM_rr _ _ _ | exact encM_bnd _ _ | (simp; done)
     ·all_goals exact wk
     (try dsimp only[awp]);conv=>whnf
     refine ADraw.auto (by kernel_rfl) ?_;conv=>whnf
     rw [encM_rn]
     refine aupd_eqD (v:=ve + st.gates.length + 1) (by show ve + (((st.gates ++ [(⟨3,0,[0],zq⟩ : Gate)]).length : Nat) : Int) = _; rw [List.length_append]; show ve + ((st.gates.length + 1 : Nat) : Int) = _; omega) ?_
     (try dsimp only[awp]);conv=>whnf
     refine ⟨⟨_,_,.refl _ _,?_⟩⟩
     conv=>whnf
     refine ⟨?_,rfl,by simp [nextId],.mk ?_ (by simp [idsOk])⟩
     ·repeat' first|exact rfl|exact trivial|exact wR|exact lR _|apply aI
      all_goals first | (show (_ : Int) = _; simp [houseG]; omega) | (show (_ : Int) = _; simp [houseG]; done) | skip
     ·repeat' first|exact rfl|exact trivial|exact wR|exact lR _|apply aI
      all_goals first | exact leM_refl _ | exact leM_nr _ _ | exact encM_bnd _ _ | (refine leRL_of ?_; simp [houseG]; done) | (simp [houseG]; done) | (simp [houseG]; omega) | skip
   have h2 : x.1 = 2:=by
    rcases hxo with h | h | h
    ·omega
    ·omega
    ·exact (mem_all.1 h).1
   obtain ⟨hxa,hkk⟩:=hkk h2
   obtain ⟨_,hpg,hix⟩:=mem_all.1 hxa
   have hrk:=hrk h2
   have hlv : rank x < n:=by unfold lvlD at hn; rw [if_pos h2] at hn; omega
   have hgm : gateAt m x ∈ gatesM m x.2.1:=getD_mem (by omega)
   have hil : (gateAt m x).ins.length ≤ 40:=(hB.gatesM hpg).2 _ hgm
   have hdx : shortX (gateAt m x).dorm:=by
    unfold gatesM at hgm
    split at hgm
    ·exact hX.gates _ hgm
    ·rename_i ha
     have hp : x.2.1.toNat < m.pages.length:=by omega
     rw [getD_lt hp] at hgm
     exact hX.pages _ (List.getElem_mem hp) _ hgm
   have hins : ∀ (j : Nat) (h : j < (gateAt m x).ins.length),InOk m x.2.1 (gateAt m x).ins[j] ∧ (kidsM m x)[j]? = some (resR m x.2.1 (gateAt m x).ins[j]):=fun j h =>
    ⟨hM.inOk hpg (hM.ins_in hpg hgm (List.getElem_mem h)),by simp [kidsM,h]⟩
   have hlen : (kidsM m x).length = (gateAt m x).ins.length:=by simp [kidsM]
   have hmem : ∀ y ∈ kidsM m x,lvlD rank y < n:=fun y hy=>by
    unfold lvlD
    split
    ·rename_i e; have:=hrk y hy e; omega
    ·omega
   have hR : compD m ve (n + 1) x st = (ve + (compDL (compD m ve n) (kidsM m x) st []).2.gates.length,
     ⟨(compDL (compD m ve n) (kidsM m x) st []).2.gates ++ [⟨(gateAt m x).kind,(gateAt m x).k,(compDL (compD m ve n) (kidsM m x) st []).1,(gateAt m x).dorm⟩],
      mark (compDL (compD m ve n) (kidsM m x) st []).2.es x (ve + (compDL (compD m ve n) (kidsM m x) st []).2.gates.length)⟩):=by
    conv=>lhs; unfold compD
    rw [if_neg h0,hv]
    exact if_neg h1
   have cl:=g_clone _ hdx
   (try dsimp only[awp]);conv=>whnf
   refine ADraw.frz [3] ?_
   conv=>whnf
   refine And.intro ⟨rfl,rfl⟩ ?_
   conv=>whnf
   refine ⟨[true,true,true,false,true,true,true,true,false,false],by kernel_rfl,?_⟩
   conv=>whnf
   refine .gen _ _ (g_gates1 m _ _ _ _ x.2.1 hpg) fun _=>?_
   (try dsimp only[awp]);conv=>whnf
   refine aidxD default hix ?_
   have hga : (gatesM m x.2.1).getD x.2.2.toNat default = gateAt m x:=rfl
   rw [hga]
   generalize gateAt m x = g at *
   generalize kidsM m x = K at *
   (try dsimp only[awp]);conv=>whnf
   refine ADraw.auto (by kernel_rfl) ?_;conv=>whnf
   refine ACallP.pure _ _ ?_ ⟨rfl,rfl⟩ cl ?_
   ·exact leL_refl _
   (try dsimp only[awp]);conv=>whnf
   generalize hW : compD m ve n = W at *
   generalize hS : compDL W K st [] = Rz at *
   refine LoopE.of <| LoopSpec.inv (.growF 5 [2] 1 [] (.ag [.int .i64 g.kind,.int .i64 g.k,.nils,g.dorm.av]) .nils _ rfl rfl (.inl ⟨rfl,rfl⟩) rfl (.refl _ _))
    (fun (q : Nat × DS × List Int)=>q.1 ≤ g.ins.length ∧ compDL W (K.drop q.1) q.2.1 q.2.2 = Rz ∧ q.2.2.length = q.1 ∧ DInv m q.2.1 ∧ (∀ z : Node,z.1 = 2 → rank x ≤ rank z → lookO st.es z = none → lookO q.2.1.es z = none))
    (fun q=>[(72,.int .i64 q.1)]) (fun q=>(6,.tok 1 q.1) :: (5,.box (.ag [.int .i64 g.kind,.int .i64 g.k,.sl 1 (q.2.2.map (.int .i64)) (.own 6),g.dorm.av])) :: (4,.gone) :: (3,.gone) :: hpD m ve top q.2.1) (fun q=>g.ins.length - q.1) (0,st,[]) ?_ (fun _=>rfl) ?_ ?_
   ·exact ⟨Nat.zero_le _,hS,rfl,hI,fun _ _ _ h=>h⟩
   ·refine ⟨?_,.mk ?_ (by simp [idsOk])⟩
    ·all_goals exact wk
    ·repeat' first|exact rfl|exact trivial|exact wR|exact lR _|apply aI
     all_goals first | exact leM_refl _ | exact encM_bnd _ _
   rintro ⟨j,sj,acc⟩ ⟨hj,hnj,hacc,hIj,hzj⟩ _
   dsimp only at hj hnj hacc hIj hzj
   (try dsimp only[awp]);conv=>whnf
   refine And.intro (fun hh=>?_) (fun hh=>?_)
   ·have hjl : j < g.ins.length:=by simpa using hh
    obtain ⟨hij,hKj⟩:=hins j hjl
    rw [drop_of_get? hKj] at hnj
    unfold compDL at hnj
    have hyK:=List.mem_of_getElem? hKj
    have hlj:=hmem _ hyK
    have cf:=g_find m (xD m ve top sj) (.tok 6 sj.gates.length) (.amap shN (encM sj.es)) (xD_wk _ _ _ _) (tD_wk _) (mD_wk _) x.2.1 g.ins[j] hij.pos hpg hij.pg
    have cw:=ih (resR m x.2.1 g.ins[j]) top sj hij.ok hlj hIj
    have hIr:=hInv (resR m x.2.1 g.ins[j]) sj hij.ok hIj
    have hyr:=hrk _ hyK
    (try dsimp only[awp]);conv=>whnf
    refine aidx hjl ?_
    generalize g.ins[j] = s2 at *
    generalize resR m x.2.1 s2 = y at *
    generalize hr0 : W y sj = r at *
    obtain ⟨ra,rs⟩:=r
    dsimp only at hnj hIr cw
    (try dsimp only[awp]);conv=>whnf
    refine ADraw.late [1,999] ⟨[true,false,true,true,true,true,true,false,false,true,false,true,false],by kernel_rfl,?_⟩
    conv=>whnf
    refine .gen _ _ (FnH.frame [0,1,2] cf ⟨rfl,rfl,rfl,rfl⟩ ?_ ?_) fun _=>?_
    ·repeat' first|exact rfl|exact trivial|exact wR|exact lR _|apply aI
     all_goals first | exact leM_rn _ _ | exact leM_rr _ _ _ | exact encM_bnd _ _
    ·all_goals exact wk
    conv=>whnf
    (refine aI (by (conv=>whnf)<;>exact rfl) ?_;(conv=>whnf))
    refine .gen _ _ (FnH.frame [0,1,2] cw ⟨rfl,rfl,rfl,rfl⟩ ?_ ?_) fun _=>?_
    ·repeat' first|exact rfl|exact trivial|exact wR|exact lR _|apply aI
     all_goals first | exact leM_rn _ _ | exact leM_rr _ _ _ | exact encM_bnd _ _
    ·all_goals exact wk
    conv=>whnf
    (refine aI (by (conv=>whnf)<;>exact rfl) ?_;(conv=>whnf))
    refine ⟨by rw [List.length_map,hacc],.mk (by simp [maxL]; omega) (by simp; omega) ?_⟩
    conv=>whnf
    refine zA ?_;conv=>whnf
    refine ⟨(j + 1,rs,acc ++ [ra]),?_,?_,?_⟩
    ·exact ⟨hjl,hnj,by simp [hacc],hIr.1,fun z hz hxz hs=>hIr.2 z hz (fun e=>by have:=hyr e; omega) (hzj z hz hxz hs)⟩
    ·refine ⟨?_,.mk ?_ (by simp [idsOk])⟩
     ·all_goals exact wk
     ·repeat' first|exact rfl|exact trivial|exact wR|exact lR _|apply aI
      all_goals first | exact leM_nr _ _ | exact leM_rr _ _ _ | exact encM_bnd _ _ | (show leRL _ (List.map _ (_ ++ [_])); rw [List.map_append]; exact lR _) | (simp [hacc]; done) | (simp; omega)
    ·show g.ins.length - (j + 1) < g.ins.length - j
     omega
   have hjl : K.length ≤ j:=by (have : ¬ j < g.ins.length:=by simpa using hh); omega
   rw [List.drop_eq_nil_of_le hjl] at hnj
   unfold compDL at hnj
   rw [← hnj] at hR
   rw [hR]
   have hshort:=hIj.short hB
   have a3:=g_add m ve top sj ⟨g.kind,g.k,acc,g.dorm⟩ (by omega) (by omega)
   (try dsimp only[awp]);conv=>whnf
   refine .gen _ _ (FnH.frame [0,1,2] a3 ⟨rfl,rfl,rfl,rfl⟩ ?_ ?_) fun _=>?_
   ·repeat' first|exact rfl|exact trivial|exact wR|exact lR _|apply aI
    all_goals first | exact leM_rn _ _ | exact leM_rr _ _ _ | exact encM_bnd _ _
   ·all_goals exact wk
   (try dsimp only[awp]);conv=>whnf
   refine ADraw.auto (by kernel_rfl) ?_;conv=>whnf
   rw [encM_rn]
   refine aupd_eqD (v:=ve + sj.gates.length) rfl ?_
   (try dsimp only[awp]);conv=>whnf
   refine ⟨⟨_,_,.refl _ _,?_⟩⟩
   conv=>whnf
   refine ⟨?_,rfl,by simp [nextId],.mk ?_ (by simp [idsOk])⟩
   ·repeat' first|exact rfl|exact trivial|exact wR|exact lR _|apply aI
    all_goals first | (show (_ : Int) = _; simp [houseG]; omega) | (show (_ : Int) = _; simp [houseG]; done) | skip
   ·repeat' first|exact rfl|exact trivial|exact wR|exact lR _|apply aI
    all_goals first | exact leM_refl _ | exact leM_nr _ _ | exact encM_bnd _ _ | (refine leRL_of ?_; simp [houseG]; done) | (simp [houseG]; done) | (simp [houseG]; omega) | skip

theorem list_of {α : Type} {f : α → AV} : ∀ {l : List AV},(∀ x ∈ l,∃ y,x = f y) → ∃ m : List α,l = m.map f
 | [],_=>⟨[],rfl⟩
 | x :: l,h=>by
   obtain ⟨y,rfl⟩:=h x (by simp)
   obtain ⟨m,rfl⟩:=list_of (l:=l) fun z hz=>h z (by simp [hz])
   exact ⟨y :: m,rfl⟩

theorem ints_of {sz : Nat} {k : IntKind} {A : AV} (h : (Sh.sl sz (.int k)).In A) : ∃ l : List Int,A = .sl sz (l.map (.int k)) .no:=by
 simp only [Sh.In] at h
 obtain ⟨l,rfl,hl⟩:=h
 obtain ⟨m,rfl⟩:=list_of hl
 exact ⟨m,rfl⟩

abbrev shRat : Sh:=.st [.bool,.sl 1 (.int .u32),.sl 1 (.int .u32)]
theorem Rat.of {A : AV} (h : shRat.In A) : ∃ r : Rat,A = r.av:=by
 simp only [Sh.In,InL] at h
 obtain ⟨_,rfl,_,_,rfl,⟨b,rfl⟩,_,_,rfl,h1,_,_,rfl,h2,rfl⟩:=h
 obtain ⟨n,rfl⟩:=ints_of (sz:=1) (k:=.u32) (by simp only [Sh.In]; exact h1)
 obtain ⟨d,rfl⟩:=ints_of (sz:=1) (k:=.u32) (by simp only [Sh.In]; exact h2)
 exact ⟨⟨b,n,d⟩,rfl⟩

theorem rats_of {A : AV} (h : (Sh.sl 3 shRat).In A) : ∃ l : List Rat,A = .sl 3 (l.map Rat.av) .no:=by
 unfold Sh.In at h
 obtain ⟨l,rfl,hl⟩:=h
 obtain ⟨m,rfl⟩:=list_of fun x hx=>Rat.of (hl x hx)
 exact ⟨m,rfl⟩

theorem int_of {k : IntKind} {A : AV} (h : (Sh.int k).In A) : ∃ n : Int,A = .int k n:=by
 simpa only [Sh.In] using h

theorem str_of {A : AV} (h : Sh.str.In A) : ∃ s : List UInt8,A = .str s:=by
 simpa only [Sh.In] using h

theorem sl_of {α : Type} {f : α → AV} {sh : Sh} {sz : Nat} {A : AV} (hf : ∀ x,sh.In x → ∃ y,x = f y) (h : (Sh.sl sz sh).In A) : ∃ l : List α,A = .sl sz (l.map f) .no:=by
 unfold Sh.In at h
 obtain ⟨l,rfl,hl⟩:=h
 obtain ⟨m,rfl⟩:=list_of fun x hx=>hf x (hl x hx)
 exact ⟨m,rfl⟩

abbrev shEv : Sh:=.st [.str,shRat,shRat,shRat,.int .i64]
abbrev shHs : Sh:=.st [.str,.bool]
abbrev shMg : Sh:=.st [.str,.int .i64,.int .i64,.sl 1 .str,shRat]
abbrev shPg : Sh:=.st [.str,.str,.sl 7 shMg]
abbrev shGr : Sh:=.st [.str,.int .i64,.sl 1 .str,.sl 3 shRat]
abbrev shPv : Sh:=.st [.str,shRat]
abbrev shPh : Sh:=.st [.str,.str,.sl 4 shPv]
abbrev shMd : Sh:=.st [.str,.str,.sl 11 shEv,.sl 2 shHs,.sl 7 shMg,.sl 3 shPg,.sl 4 shGr,.sl 3 shPh]

theorem strs_of {A : AV} (h : (Sh.sl 1 .str).In A) : ∃ l : List Str,A = sL l:=sl_of (f:=AV.str) (fun _ hx=>str_of hx) h

theorem Ev.of {A : AV} (h : shEv.In A) : ∃ x : Ev,A = x.av:=by
 unfold Sh.In at h
 simp only [InL] at h
 obtain ⟨_,rfl,_,_,rfl,h0,_,_,rfl,h1,_,_,rfl,h2,_,_,rfl,h3,_,_,rfl,h4,rfl⟩:=h
 obtain ⟨a,rfl⟩:=str_of h0
 obtain ⟨b,rfl⟩:=Rat.of h1
 obtain ⟨c,rfl⟩:=Rat.of h2
 obtain ⟨d,rfl⟩:=Rat.of h3
 obtain ⟨e,rfl⟩:=int_of h4
 exact ⟨⟨a,b,c,d,e⟩,rfl⟩

theorem Hs.of {A : AV} (h : shHs.In A) : ∃ x : Hs,A = x.av:=by
 unfold Sh.In at h
 simp only [InL] at h
 obtain ⟨_,rfl,_,_,rfl,h0,_,_,rfl,h1,rfl⟩:=h
 obtain ⟨a,rfl⟩:=str_of h0
 simp only [Sh.In] at h1
 obtain ⟨b,rfl⟩:=h1
 exact ⟨⟨a,b⟩,rfl⟩

theorem Mg.of {A : AV} (h : shMg.In A) : ∃ x : Mg,A = x.av:=by
 unfold Sh.In at h
 simp only [InL] at h
 obtain ⟨_,rfl,_,_,rfl,h0,_,_,rfl,h1,_,_,rfl,h2,_,_,rfl,h3,_,_,rfl,h4,rfl⟩:=h
 obtain ⟨a,rfl⟩:=str_of h0
 obtain ⟨b,rfl⟩:=int_of h1
 obtain ⟨c,rfl⟩:=int_of h2
 obtain ⟨d,rfl⟩:=strs_of h3
 obtain ⟨e,rfl⟩:=Rat.of h4
 exact ⟨⟨a,b,c,d,e⟩,rfl⟩

theorem Pg.of {A : AV} (h : shPg.In A) : ∃ x : Pg,A = x.av:=by
 unfold Sh.In at h
 simp only [InL] at h
 obtain ⟨_,rfl,_,_,rfl,h0,_,_,rfl,h1,_,_,rfl,h2,rfl⟩:=h
 obtain ⟨a,rfl⟩:=str_of h0
 obtain ⟨b,rfl⟩:=str_of h1
 obtain ⟨c,rfl⟩:=sl_of (f:=Mg.av) (fun _ hx=>Mg.of hx) h2
 exact ⟨⟨a,b,c⟩,rfl⟩

theorem Gr.of {A : AV} (h : shGr.In A) : ∃ x : Gr,A = x.av:=by
 unfold Sh.In at h
 simp only [InL] at h
 obtain ⟨_,rfl,_,_,rfl,h0,_,_,rfl,h1,_,_,rfl,h2,_,_,rfl,h3,rfl⟩:=h
 obtain ⟨a,rfl⟩:=str_of h0
 obtain ⟨b,rfl⟩:=int_of h1
 obtain ⟨c,rfl⟩:=strs_of h2
 obtain ⟨d,rfl⟩:=rats_of h3
 exact ⟨⟨a,b,c,d⟩,rfl⟩

theorem Pv.of {A : AV} (h : shPv.In A) : ∃ x : Pv,A = x.av:=by
 unfold Sh.In at h
 simp only [InL] at h
 obtain ⟨_,rfl,_,_,rfl,h0,_,_,rfl,h1,rfl⟩:=h
 obtain ⟨a,rfl⟩:=str_of h0
 obtain ⟨b,rfl⟩:=Rat.of h1
 exact ⟨⟨a,b⟩,rfl⟩

theorem Ph.of {A : AV} (h : shPh.In A) : ∃ x : Ph,A = x.av:=by
 unfold Sh.In at h
 simp only [InL] at h
 obtain ⟨_,rfl,_,_,rfl,h0,_,_,rfl,h1,_,_,rfl,h2,rfl⟩:=h
 obtain ⟨a,rfl⟩:=str_of h0
 obtain ⟨b,rfl⟩:=str_of h1
 obtain ⟨c,rfl⟩:=sl_of (f:=Pv.av) (fun _ hx=>Pv.of hx) h2
 exact ⟨⟨a,b,c⟩,rfl⟩

theorem Md.of {A : AV} (h : shMd.In A) : ∃ x : Md,A = x.av:=by
 unfold Sh.In at h
 simp only [InL] at h
 obtain ⟨_,rfl,_,_,rfl,h0,_,_,rfl,h1,_,_,rfl,h2,_,_,rfl,h3,_,_,rfl,h4,_,_,rfl,h5,_,_,rfl,h6,_,_,rfl,h7,rfl⟩:=h
 obtain ⟨a,rfl⟩:=str_of h0
 obtain ⟨b,rfl⟩:=str_of h1
 obtain ⟨c,rfl⟩:=sl_of (f:=Ev.av) (fun _ hx=>Ev.of hx) h2
 obtain ⟨d,rfl⟩:=sl_of (f:=Hs.av) (fun _ hx=>Hs.of hx) h3
 obtain ⟨e,rfl⟩:=sl_of (f:=Mg.av) (fun _ hx=>Mg.of hx) h4
 obtain ⟨f,rfl⟩:=sl_of (f:=Pg.av) (fun _ hx=>Pg.of hx) h5
 obtain ⟨g,rfl⟩:=sl_of (f:=Gr.av) (fun _ hx=>Gr.of hx) h6
 obtain ⟨i,rfl⟩:=sl_of (f:=Ph.av) (fun _ hx=>Ph.of hx) h7
 exact ⟨⟨a,b,c,d,e,f,g,i⟩,rfl⟩

structure Ak where
 page : Int
 inp : Str
 old : Str
 new : Str


theorem countP_ltD {α : Type} {p q : α → Bool} : ∀ {l : List α},(∀ x ∈ l,p x = true → q x = true) → (∃ y ∈ l,q y = true ∧ p y = false) → l.countP p < l.countP q
 | [],_,h=>by obtain ⟨y,hy,_⟩:=h; simp at hy
 | x :: l,h1,h2=>by
   simp only [List.countP_cons]
   have hle : l.countP p ≤ l.countP q:=List.countP_mono_left fun y hy=>h1 y (by simp [hy])
   obtain ⟨y,hy,hq,hp⟩:=h2
   rcases List.mem_cons.1 hy with rfl | hy
   ·rw [if_pos hq,if_neg (by rw [hp]; simp)]; omega
   ·have ih:=countP_ltD (l:=l) (fun z hz=>h1 z (by simp [hz])) ⟨y,hy,hq,hp⟩
    have:=h1 x (by simp)
    split
    ·rename_i hpx; rw [if_pos (this hpx)]; omega
    ·omega

theorem ok_gateD {m : Md} {x : Node} (h : okN m x) (h2 : x.1 = 2) : x ∈ allNodes m:=by
 rcases h with h | h | h
 ·omega
 ·omega
 ·exact h

theorem rank_bd0 {m : Md} (hc : ClosedM m) {rank : Node → Nat} (hr : RankM m rank) : ∃ rank',RankM m rank' ∧ ∀ x,rank' x ≤ (allNodes m).length:=by
 refine ⟨fun x=>(allNodes m).countP fun z=>decide (rank z < rank x),?_,fun x=>List.countP_le_length⟩
 intro x hx h2 y hy hy2
 have hxa:=(okN_kids hc hx h2)
 have hlt:=hr x hx h2 y hy hy2
 refine countP_ltD (fun z _ h=>?_) ⟨y,?_,?_,?_⟩
 ·have:=of_decide_eq_true h
  exact decide_eq_true (by omega)
 ·exact ok_gateD (hxa.2 y hy) hy2
 ·exact decide_eq_true hlt
 ·exact decide_eq_false (by omega)

theorem rank_bdD {m : Md} (hM : MOk m) : ∃ rank,RankM m rank ∧ ∀ x,lvlD rank x < (allNodes m).length + 2:=by
 obtain ⟨rank,hr⟩:=cyc_rank hM.closed hM.cyc
 obtain ⟨rank',hr',hb⟩:=rank_bd0 hM.closed hr
 refine ⟨rank',hr',fun x=>?_⟩
 have:=hb x
 unfold lvlD
 split <;> omega

def fuelD (m : Md) : Nat:=(allNodes m).length + 2
def isDynG (m : Md) (x : Node) : Bool:=decide ((gateAt m x).kind = 8) || decide ((gateAt m x).kind = 7)

def dynL (m : Md) : List Node → DS → DS
 | [],s=>s
 | x :: l,s=>dynL m l (if isDynG m x = true then (compD m m.evs.length (fuelD m) x s).2 else s)

theorem dynL_cons (m : Md) (x : Node) (l : List Node) (s : DS) : dynL m (x :: l) s = dynL m l (if isDynG m x = true then (compD m m.evs.length (fuelD m) x s).2 else s):=rfl
theorem dynL_nil (m : Md) (s : DS) : dynL m [] s = s:=rfl

def rootD (m : Md) : Int × DS:=compD m m.evs.length (fuelD m) (resR m (-1) m.top) ⟨[],[]⟩
def treeD (m : Md) : Dyn:=⟨m.evs.length,(dynL m (allNodes m) (rootD m).2).gates,(rootD m).1,m.evs.map Ev.fail,m.evs.map Ev.repair⟩
def makeE (m : Md) : Int:=if checkM m ≠ 0 then checkM m else if m.evs.length = 0 then 11 else if 64 < (treeD m).gates.length then 4 else 0

abbrev zDyn : AV:=.ag [.int .i64 0,.nils,.int .i64 0,.nils,.nils]
def makeAV (m : Md) : AV:=if makeE m = 0 then .tup [(treeD m).av,.nilI] else .tup [zDyn,.ifc 111 (.int .i64 (makeE m))]

theorem take_map25 {α β : Type} {f : α → β} {l : List α} {k : Nat} (h : k < l.length) : (l.take (k + 1)).map f = (l.take k).map f ++ [f l[k]]:=by
 rw [List.take_add_one,List.getElem?_eq_getElem h,List.map_append]; rfl
theorem take_len25 {α β : Type} {f : α → β} {l : List α} {k : Nat} (h : k ≤ l.length) : ((l.take k).map f).length = k:=by simp; omega

abbrev xD4 (m : Md) (v top : Int) (s : DS) : AV:=.ag [.int .i64 v,.sl 6 (s.gates.map Gate.av) (.own 4),.int .i64 top,rtL (m.evs.map Ev.fail),rtL (m.evs.map Ev.repair)]

theorem g_gates0 (m : Md) (X : AV) (T M : HO) (a : Int) (h : a = -1 ∨ (0 ≤ a ∧ a < (m.pages.length : Int))) : FnH Tryz.prog 85 [.ptr 1 [] 0,.int .i64 a] (hpF m X T M) (gL (gatesM m a)) (hpF m X T M):=by
 refine FnH.intro lay mixed Tryz.func85 (by kernel_rfl) rfl (by kernel_rfl) rfl fun hok=>?_
 (try dsimp only[argC,succC]);(try dsimp only[awp]);conv=>whnf
 refine And.intro (fun h1=>?_) (fun h1=>?_)
 ·rw [show gatesM m a = m.gates from if_pos h1]
  (try dsimp only[awp]);conv=>whnf
  (refine FinSpec.same ?_;(conv=>whnf);refine ⟨?_,rfl⟩;(conv=>whnf))
  all_goals exact wk
 ·have hb : 0 ≤ a ∧ a < (m.pages.length : Int):=by omega
  rw [show gatesM m a = (m.pages.getD a.toNat default).gates from if_neg h1]
  (try dsimp only[awp]);conv=>whnf
  refine aidxD default hb ?_
  (try dsimp only[awp]);conv=>whnf
  (refine FinSpec.same ?_;(conv=>whnf);refine ⟨?_,rfl⟩;(conv=>whnf))
  all_goals exact wk

theorem g_Make (m : Md) (hC : MdC m) (hB : MdB m) (hX : MdX m) (R : AV) (hR : R = makeAV m) : FnH Tryz.prog 29 [m.av] [] R []:=by
 have cc:=c_mCheck m hC hB _ rfl
 unfold makeAV at hR
 by_cases h0 : checkM m ≠ 0
 ·rw [errAV_ne h0] at cc
  rw [show makeE m = checkM m from if_pos h0,if_neg h0] at hR
  subst hR
  refine FnH.intro lay mixed Tryz.func29 (by kernel_rfl) rfl (by kernel_rfl) rfl fun hok=>?_
  (try dsimp only[argC,succC]);(try dsimp only[awp]);conv=>whnf
  refine .pure _ _ ?_ ⟨rfl,rfl⟩ cc fun _=>?_
  ·exact leL_refl _
  (try dsimp only[awp]);conv=>whnf
  refine fM ?_;(conv=>whnf);refine ⟨?_,rfl⟩;conv=>whnf
  all_goals exact wk
 have hE0:=h0
 have h0 : checkM m = 0:=by simpa using h0
 rw [h0,errAV_zero] at cc
 have hM:=checkM_ok h0
 by_cases h1 : m.evs.length = 0
 ·rw [show makeE m = 11 from (if_neg hE0).trans (if_pos h1),if_neg (show ¬ ((11 : Int) = 0) by decide)] at hR
  subst hR
  refine FnH.intro lay mixed Tryz.func29 (by kernel_rfl) rfl (by kernel_rfl) rfl fun hok=>?_
  (try dsimp only[argC,succC]);(try dsimp only[awp]);conv=>whnf
  refine .pure _ _ ?_ ⟨rfl,rfl⟩ cc fun _=>?_
  ·exact leL_refl _
  (try dsimp only[awp]);conv=>whnf
  refine And.intro (fun _=>?_) (fun h=>absurd (by simp [List.eq_nil_of_length_eq_zero h1]) h)
  (try dsimp only[awp]);conv=>whnf
  refine fM ?_;(conv=>whnf);refine ⟨?_,rfl⟩;conv=>whnf
  all_goals exact wk
 have hE : makeE m = if 64 < (treeD m).gates.length then 4 else 0:=(if_neg hE0).trans (if_neg h1)
 rw [hE] at hR
 have hev:=hM.lens.1
 have hpl:=hB.pages
 obtain ⟨rank,hr,hlv⟩:=rank_bdD hM
 refine FnH.intro lay mixed Tryz.func29 (by kernel_rfl) rfl (by kernel_rfl) rfl fun hok=>?_
 (try dsimp only[argC,succC]);(try dsimp only[awp]);conv=>whnf
 refine .pure _ _ ?_ ⟨rfl,rfl⟩ cc fun _=>?_
 ·exact leL_refl _
 (try dsimp only[awp]);conv=>whnf
 refine And.intro (fun h=>by exfalso; simp at h; exact h1 (by rw [h]; rfl)) (fun _=>?_)
 (try dsimp only[awp]);conv=>whnf
 rw [show (((m.evs.map Ev.av).length : Nat) : Int) = (m.evs.length : Int) by simp]
 generalize hve : (m.evs.length : Int) = ve at *
 refine LoopE.of <| LoopSpec.inv (.growF 3 [1,1] 6 [] _ .nils _ rfl rfl (.inl ⟨rfl,rfl⟩) rfl (.growF 3 [1,3] 3 [] _ .nils _ rfl rfl (.inl ⟨rfl,rfl⟩) rfl (.growF 3 [1,4] 3 [] _ .nils _ rfl rfl (.inl ⟨rfl,rfl⟩) rfl (.refl _ _))))
  (fun (k : Nat)=>k ≤ m.evs.length) (fun k=>[(34,.int .i64 k)])
  (fun k=>[(6,.tok 3 k),(5,.tok 3 k),(4,.tok 6 0),(3,.box (.ag [m.av,.ag [.int .i64 ve,.sl 6 [] (.own 4),.int .i64 0,.sl 3 (((m.evs.take k).map Ev.fail).map Rat.av) (.own 5),.sl 3 (((m.evs.take k).map Ev.repair).map Rat.av) (.own 6)],.mp 2])),(2,.amap shN []),(1,.box zDyn),(0,.box m.av)]) (fun k=>m.evs.length - k) 0 ?_ (fun _=>rfl) ?_ ?_
 ·exact Nat.zero_le _
 ·refine ⟨?_,.mk ?_ (by simp [idsOk])⟩
  ·all_goals exact wk
  ·repeat' first|exact rfl|exact trivial|exact wR|exact lR _|apply aI
   all_goals first | (simp [KSh]; done) | trivial | skip
 intro k hk _
 (try dsimp only[awp]);conv=>whnf
 refine And.intro (fun h=>?_) (fun h=>?_)
 ·have hkl : k < m.evs.length:=by omega
  have ht1:=take_map25 (f:=Ev.fail) hkl
  have ht2:=take_map25 (f:=Ev.repair) hkl
  have hl1:=take_len25 (f:=Ev.fail) hk
  have hl2:=take_len25 (f:=Ev.repair) hk
  obtain ⟨x1,x2,x3⟩:=hX.evs _ (List.getElem_mem hkl)
  (try dsimp only[awp]);conv=>whnf
  refine aidx hkl ?_
  generalize m.evs[k] = x at *
  generalize (m.evs.take k).map Ev.fail = L1 at *
  generalize (m.evs.take k).map Ev.repair = L2 at *
  (try dsimp only[awp]);conv=>whnf
  have e1 : (ve : Int) ≤ 100:=by omega
  refine ADraw.auto (by kernel_rfl) ?_;conv=>whnf
  refine ACallP.pure _ _ ?_ ⟨rfl,rfl⟩ (g_clone _ x2) ?_
  ·exact leL_refl _
  (try dsimp only[awp]);conv=>whnf
  refine ⟨by rw [List.length_map,hl1],.mk (by simp [maxL] <;> omega) (by simp <;> omega) ?_⟩
  (try dsimp only[awp]);conv=>whnf
  refine ACallP.pure _ _ ?_ ⟨rfl,rfl⟩ (g_clone _ x3) ?_
  ·exact leL_refl _
  (try dsimp only[awp]);conv=>whnf
  refine ⟨by rw [List.length_map,hl2],.mk (by simp [maxL] <;> omega) (by simp <;> omega) ?_⟩
  (try dsimp only[awp]);conv=>whnf
  refine zA ?_;conv=>whnf
  refine ⟨k + 1,?_,?_,?_⟩
  ·exact hkl
  ·refine ⟨?_,.mk ?_ (by simp [idsOk])⟩
   ·all_goals exact wk
   ·rw [ht1,ht2]
    repeat' first|exact rfl|exact trivial|exact wR|exact lR _|apply aI
    all_goals first | (show leRL _ (List.map _ (_ ++ [_])); rw [List.map_append]; exact lR _) | (simp [hl1]; done) | (simp [hl2]; done)
  ·omega
 have hkl : k = m.evs.length:=by omega
 subst hkl
 rw [List.take_length]
 have hin:=hM.inOk (.inl rfl) hM.top
 have cf:=g_find m (xD m ve 0 ⟨[],[]⟩) (.tok 6 0) (.amap shN []) (xD_wk _ _ _ _) (tD_wk _) (mD_wk []) (-1) m.top hin.pos (.inl rfl) hin.pg
 have hI0 : DInv m ⟨[],[]⟩:=⟨by simp,by simp,by simp⟩
 have cw:=g_comp m hM hB hX rank hr (fuelD m) (resR m (-1) m.top) 0 ⟨[],[]⟩ hin.ok (hlv _) hI0
 rw [hve] at cw
 have hIr:=(compD_inv hM.closed hr ve (fuelD m) (resR m (-1) m.top) ⟨[],[]⟩ hin.ok hI0).1
 have htr : rootD m = compD m ve (fuelD m) (resR m (-1) m.top) ⟨[],[]⟩:=by unfold rootD; rw [hve]
 rw [← htr] at cw hIr
 generalize hrd : rootD m = rd at *
 obtain ⟨ra,rs⟩:=rd
 dsimp only at hIr cw
 (try dsimp only[awp]);conv=>whnf
 refine .gen _ _ (FnH.frame [2,3,4] cf ⟨rfl,rfl,rfl,rfl⟩ ?_ ?_) fun _=>?_
 ·all_goals exact wk
 ·all_goals exact wk
 (try dsimp only[awp]);conv=>whnf
 refine .gen _ _ (FnH.frame [2,3,4] cw ⟨rfl,rfl,rfl,rfl⟩ ?_ ?_) fun _=>?_
 ·all_goals exact wk
 ·all_goals exact wk
 (try dsimp only[awp]);conv=>whnf
 refine LoopE.of <| LoopSpec.inv (.refl _ _)
  (fun (q : Nat × DS)=>q.1 ≤ m.pages.length + 1 ∧ dynL m (nodesFrom m q.1) q.2 = dynL m (allNodes m) rs ∧ DInv m q.2) (fun q=>[(8,.int .i64 ((q.1 : Int) - 1))])
  (fun q=>[(6,.gone),(5,.gone),(4,.tok 6 q.2.gates.length),(3,.box (.ag [m.av,xD4 m ve ra q.2,.mp 2])),(2,.amap shN (encM q.2.es)),(1,.box zDyn),(0,.box m.av)]) (fun q=>m.pages.length + 1 - q.1) (0,rs) ?_ (fun _=>rfl) ?_ ?_
 ·exact ⟨Nat.zero_le _,rfl,hIr⟩
 ·refine ⟨?_,.mk ?_ (by simp [idsOk])⟩
  ·all_goals exact wk
  ·repeat' first|exact rfl|exact trivial|exact wR|exact lR _|apply aI
   all_goals first | exact leM_rn _ _ | exact leM_nr _ _ | exact leM_rr _ _ _ | exact encM_bnd _ _
 rintro ⟨k,sk⟩ ⟨hk2,hnk,hIk⟩ _
 dsimp only at hk2 hnk hIk
 (try dsimp only[awp]);conv=>whnf
 refine And.intro (fun hp=>?_) (fun hp=>?_)
 ·have hkp : k < m.pages.length + 1:=by simp at hp; omega
  have ha : (k : Int) - 1 = -1 ∨ (0 ≤ (k : Int) - 1 ∧ (k : Int) - 1 < (m.pages.length : Int)):=by omega
  rw [nodesFrom_step hkp] at hnk
  have hgl:=(hB.gatesM ha).1
  have hnx : ((k + 1 : Nat) : Int) - 1 = (k : Int) - 1 + 1:=by omega
  generalize hav : (k : Int) - 1 = a at *
  (try dsimp only[awp]);conv=>whnf
  refine .gen _ _ (FnH.frame [2,3,4] (g_gates0 m (xD m ve ra sk) (.tok 6 sk.gates.length) (.amap shN (encM sk.es)) a ha) ⟨rfl,rfl,rfl,rfl⟩ ?_ ?_) fun _=>?_
  ·repeat' first|exact rfl|exact trivial|exact wR|exact lR _|apply aI
   all_goals first | exact leM_rn _ _ | exact leM_nr _ _ | exact leM_rr _ _ _ | exact encM_bnd _ _
  ·all_goals exact wk
  (try dsimp only[awp]);conv=>whnf
  refine LoopE.of <| LoopSpec.inv (.refl _ _)
   (fun (q : Nat × DS)=>q.1 ≤ (gatesM m a).length ∧ dynL m ((nodesAt m a).drop q.1 ++ nodesFrom m (k + 1)) q.2 = dynL m (allNodes m) rs ∧ DInv m q.2) (fun q=>[(88,.int .i64 (q.1 : Int))])
   (fun q=>[(6,.gone),(5,.gone),(4,.tok 6 q.2.gates.length),(3,.box (.ag [m.av,xD4 m ve ra q.2,.mp 2])),(2,.amap shN (encM q.2.es)),(1,.box zDyn),(0,.box m.av)]) (fun q=>(gatesM m a).length - q.1) (0,sk) ?_ (fun _=>rfl) ?_ ?_
  ·exact ⟨Nat.zero_le _,hnk,hIk⟩
  ·refine ⟨?_,.mk ?_ (by simp [idsOk])⟩
   ·all_goals exact wk
   ·repeat' first|exact rfl|exact trivial|exact wR|exact lR _|apply aI
    all_goals first | exact leM_rn _ _ | exact leM_nr _ _ | exact leM_rr _ _ _ | exact encM_bnd _ _
  rintro ⟨i,si⟩ ⟨hi,hni,hIi⟩ _
  dsimp only at hi hni hIi
  (try dsimp only[awp]);conv=>whnf
  refine And.intro (fun hh=>?_) (fun hh=>?_)
  ·have hil : i < (gatesM m a).length:=by simpa using hh
   rw [drop_of_get? (nodesAt_get hil),List.cons_append] at hni
   rw [dynL_cons] at hni
   have hgt : gateAt m (2,a,(i : Int)) = (gatesM m a)[i]:=getD_lt hil
   have hxa : (2,a,(i : Int)) ∈ allNodes m:=mem_all.2 ⟨rfl,ha,by simp,by simpa using hil⟩
   have cw:=g_comp m hM hB hX rank hr (fuelD m) (2,a,(i : Int)) ra si (.inr (.inr hxa)) (hlv _) hIi
   have hIr:=(compD_inv hM.closed hr ve (fuelD m) (2,a,(i : Int)) si (.inr (.inr hxa)) hIi).1
   rw [hve] at cw hni
   (try dsimp only[awp]);conv=>whnf
   refine aidx hil ?_
   rw [← hgt]
   have hdy : isDynG m (2,a,(i : Int)) = (decide ((gateAt m (2,a,(i : Int))).kind = 8) || decide ((gateAt m (2,a,(i : Int))).kind = 7)):=rfl
   generalize gateAt m (2,a,(i : Int)) = g at *
   generalize hcd : compD m ve (fuelD m) (2,a,(i : Int)) si = rj at *
   obtain ⟨rja,rjs⟩:=rj
   dsimp only at hni hIr cw
   (try dsimp only[awp]);conv=>whnf
   refine And.intro (fun g1=>?_) (fun g1=>?_)
   ·rw [if_pos (by rw [hdy]; simp [g1])] at hni
    (try dsimp only[awp]);conv=>whnf
    refine .gen _ _ (FnH.frame [2,3,4] cw ⟨rfl,rfl,rfl,rfl⟩ ?_ ?_) fun _=>?_
    ·repeat' first|exact rfl|exact trivial|exact wR|exact lR _|apply aI
     all_goals first | exact leM_rn _ _ | exact leM_nr _ _ | exact leM_rr _ _ _ | exact encM_bnd _ _
    ·all_goals exact wk
    (try dsimp only[awp]);conv=>whnf
    refine zA ?_;conv=>whnf
    refine ⟨(i + 1,rjs),?_,?_,?_⟩
    ·exact ⟨hil,hni,hIr⟩
    ·refine ⟨?_,.mk ?_ (by simp [idsOk])⟩
     ·all_goals exact wk
     ·repeat' first|exact rfl|exact trivial|exact wR|exact lR _|apply aI
      all_goals first | exact leM_rn _ _ | exact leM_nr _ _ | exact leM_rr _ _ _ | exact encM_bnd _ _
    ·show (gatesM m a).length - (i + 1) < (gatesM m a).length - i
     omega
   ·(try dsimp only[awp]);conv=>whnf
    refine And.intro (fun g2=>?_) (fun g2=>?_)
    ·rw [if_pos (by rw [hdy]; simp [g2])] at hni
     (try dsimp only[awp]);conv=>whnf
     refine .gen _ _ (FnH.frame [2,3,4] cw ⟨rfl,rfl,rfl,rfl⟩ ?_ ?_) fun _=>?_
     ·repeat' first|exact rfl|exact trivial|exact wR|exact lR _|apply aI
      all_goals first | exact leM_rn _ _ | exact leM_nr _ _ | exact leM_rr _ _ _ | exact encM_bnd _ _
     ·all_goals exact wk
     (try dsimp only[awp]);conv=>whnf
     refine zA ?_;conv=>whnf
     refine ⟨(i + 1,rjs),?_,?_,?_⟩
     ·exact ⟨hil,hni,hIr⟩
     ·refine ⟨?_,.mk ?_ (by simp [idsOk])⟩
      ·all_goals exact wk
      ·repeat' first|exact rfl|exact trivial|exact wR|exact lR _|apply aI
       all_goals first | exact leM_rn _ _ | exact leM_nr _ _ | exact leM_rr _ _ _ | exact encM_bnd _ _
     ·show (gatesM m a).length - (i + 1) < (gatesM m a).length - i
      omega
    ·rw [if_neg (by rw [hdy]; simp [g1,g2])] at hni
     (try dsimp only[awp]);conv=>whnf
     refine zA ?_;conv=>whnf
     refine ⟨(i + 1,si),?_,?_,?_⟩
     ·exact ⟨hil,hni,hIi⟩
     ·refine ⟨?_,.mk ?_ (by simp [idsOk])⟩
      ·all_goals exact wk
      ·repeat' first|exact rfl|exact trivial|exact wR|exact lR _|apply aI
       all_goals first | exact leM_rn _ _ | exact leM_nr _ _ | exact leM_rr _ _ _ | exact encM_bnd _ _ | exact leM_refl _
     ·show (gatesM m a).length - (i + 1) < (gatesM m a).length - i
      omega
  have hil : (nodesAt m a).length ≤ i:=by rw [nodesAt_len]; simpa using hh
  rw [List.drop_eq_nil_of_le hil,List.nil_append] at hni
  (try dsimp only[awp]);conv=>whnf
  refine zA ?_;conv=>whnf
  refine ⟨(k + 1,si),?_,?_,?_⟩
  ·exact ⟨hkp,hni,hIi⟩
  ·refine ⟨?_,.mk ?_ (by simp [idsOk])⟩
   ·repeat' first|exact rfl|exact trivial|exact wR|exact lR _|apply aI
    exact hnx.symm
   ·repeat' first|exact rfl|exact trivial|exact wR|exact lR _|apply aI
    all_goals first | exact leM_rn _ _ | exact leM_nr _ _ | exact leM_rr _ _ _ | exact encM_bnd _ _ | exact leM_refl _
  ·show m.pages.length + 1 - (k + 1) < m.pages.length + 1 - k
   omega
 have hkp : m.pages.length + 1 ≤ k:=by simp at hp; omega
 rw [nodesFrom_end hkp] at hnk
 rw [dynL_nil] at hnk
 have hgs : (treeD m).gates = sk.gates:=by unfold treeD; rw [hrd,hnk]
 have htop : treeD m = ⟨ve,sk.gates,ra,m.evs.map Ev.fail,m.evs.map Ev.repair⟩:=by unfold treeD; rw [hrd,hnk,hve]
 rw [hgs] at hR
 have hsh:=hIk.short hB
 (try dsimp only[awp]);conv=>whnf
 refine And.intro (fun g=>?_) (fun g=>?_)
 ·have g' : 64 < sk.gates.length:=by simp at g; omega
  rw [if_pos g',if_neg (by decide)] at hR
  subst hR
  (try dsimp only[awp]);conv=>whnf
  refine fM ?_;(conv=>whnf);refine ⟨?_,rfl⟩;conv=>whnf
  all_goals exact wk
 ·have g' : ¬ 64 < sk.gates.length:=by simp at g; omega
  rw [if_neg g',if_pos rfl,htop] at hR
  subst hR
  (try dsimp only[awp]);conv=>whnf
  refine fM ?_;(conv=>whnf);refine ⟨?_,rfl⟩;conv=>whnf
  all_goals exact wk


theorem c_rParts (r : Rat) (l1 : r.num.length ≤ 300000) (l2 : r.den.length ≤ 300000) :
  FnH Tryz.prog 68 [r.av] [] (if valid r = true ∧ r.num ≠ [] then .tup [.bool r.neg,wL r.num,wL r.den] else .tup [.bool false,wL [],wL [1]]) []:=by
 have cv:=c_rValid r l1 l2
 generalize hR : (if valid r = true ∧ r.num ≠ [] then AV.tup [.bool r.neg,wL r.num,wL r.den] else .tup [.bool false,wL [],wL [1]]) = R
 refine FnH.intro lay mixed Tryz.func68 (by kernel_rfl) rfl (by kernel_rfl) rfl fun hok=>?_
 have en : (((r.num.map (AV.int .u32)).length : Nat) : Int) = (r.num.length : Int):=by simp
 (try dsimp only[argC,succC]);(try dsimp only[awp]);conv=>whnf
 refine .pure _ _ ?_ ⟨rfl,rfl⟩ cv fun _=>?_
 ·exact leL_refl _
 (try dsimp only[awp]);conv=>whnf
 refine And.intro (fun p1=>?_) (fun p1=>?_)
 ·have p1 : valid r = false:=by simpa using p1
  rw [if_neg (by simp [p1])] at hR
  subst hR
  (try dsimp only[awp]);conv=>whnf
  refine fM ?_;(conv=>whnf);refine ⟨?_,rfl⟩;conv=>whnf
  all_goals exact wk
 ·have p1 : valid r = true:=by simpa using p1
  (try dsimp only[awp]);conv=>whnf
  refine And.intro (fun p2=>?_) (fun p2=>?_)
  ·have p2 : r.num = []:=List.eq_nil_of_length_eq_zero (by rw [en] at p2; omega)
   rw [if_neg (by simp [p2])] at hR
   subst hR
   (try dsimp only[awp]);conv=>whnf
   refine fM ?_;(conv=>whnf);refine ⟨?_,rfl⟩;conv=>whnf
   all_goals exact wk
  ·have p2 : ¬ r.num = []:=fun e=>p2 (by rw [e]; rfl)
   rw [if_pos ⟨p1,p2⟩] at hR
   subst hR
   (try dsimp only[awp]);conv=>whnf
   refine ADraw.auto (by kernel_rfl) ?_;conv=>whnf
   refine fM ?_;(conv=>whnf);refine ⟨?_,rfl⟩;conv=>whnf
   all_goals exact wk

theorem c_rFrom (neg : Bool) (n d : Nat) (hn : (wd n).length ≤ 300000) (hd : (wd d).length ≤ 300000) (h0 : d ≠ 0) : FnH Tryz.prog 70 [.bool neg,wL (wd n),wL (wd d)] [] (.tup [(formR neg n d).av,.int .i64 0]) []:=by
 have cb:=c_rBits (wd n) (by omega)
 have cd:=c_rBits (wd d) (by omega)
 rw [val_wd] at cb cd
 have hbd : blen d ≠ 0:=fun h=>h0 (blen_zero.1 h)
 by_cases hz : n = 0
 ·have hb : blen n = 0:=blen_zero.2 hz
  rw [hb] at cb
  rw [show formR neg n d = ⟨false,[],[]⟩ from if_pos hz]
  refine FnH.intro lay mixed Tryz.func70 (by kernel_rfl) rfl (by kernel_rfl) rfl fun hok=>?_
  (try dsimp only[argC,succC]);(try dsimp only[awp]);conv=>whnf
  refine .pure _ _ ?_ ⟨rfl,rfl⟩ cd fun _=>?_
  ·exact leL_refl _
  (try dsimp only[awp]);conv=>whnf
  refine And.intro (fun h=>by exfalso; omega) (fun _=>?_)
  (try dsimp only[awp]);conv=>whnf
  refine .pure _ _ ?_ ⟨rfl,rfl⟩ cb fun _=>?_
  ·exact leL_refl _
  (try dsimp only[awp]);conv=>whnf
  refine And.intro (fun _=>?_) (fun h=>absurd rfl h)
  (try dsimp only[awp]);conv=>whnf
  refine fM ?_;(conv=>whnf);refine ⟨?_,rfl⟩;conv=>whnf
  all_goals exact wk
 have hb : blen n ≠ 0:=fun h=>hz (blen_zero.1 h)
 have hg0 : Nat.gcd n d ≠ 0:=by
  have:=Nat.gcd_pos_of_pos_left d (show 0 < n by omega)
  omega
 have hgn : Nat.gcd n d ≤ n:=Nat.gcd_le_left d (by omega)
 have hgl:=wd_len_mono hgn
 have cg:=c_rGcd (wd n) (wd d) (by omega) (by omega)
 rw [val_wd,val_wd] at cg
 have d1:=c_rDiv (wd n) (wd (Nat.gcd n d)) (by omega) (by omega) (by rw [val_wd]; exact hg0)
 have d2:=c_rDiv (wd d) (wd (Nat.gcd n d)) (by omega) (by omega) (by rw [val_wd]; exact hg0)
 rw [val_wd,val_wd] at d1 d2
 rw [show formR neg n d = ⟨neg,wd (n / Nat.gcd n d),wd (d / Nat.gcd n d)⟩ from if_neg hz]
 generalize Nat.gcd n d = g at *
 refine FnH.intro lay mixed Tryz.func70 (by kernel_rfl) rfl (by kernel_rfl) rfl fun hok=>?_
 (try dsimp only[argC,succC]);(try dsimp only[awp]);conv=>whnf
 refine .pure _ _ ?_ ⟨rfl,rfl⟩ cd fun _=>?_
 ·exact leL_refl _
 (try dsimp only[awp]);conv=>whnf
 refine And.intro (fun h=>by exfalso; omega) (fun _=>?_)
 (try dsimp only[awp]);conv=>whnf
 refine .pure _ _ ?_ ⟨rfl,rfl⟩ cb fun _=>?_
 ·exact leL_refl _
 (try dsimp only[awp]);conv=>whnf
 refine And.intro (fun h=>by exfalso; omega) (fun _=>?_)
 (try dsimp only[awp]);conv=>whnf
 refine .pure _ _ ?_ ⟨rfl,rfl⟩ cg fun _=>?_
 ·exact leL_refl _
 (try dsimp only[awp]);conv=>whnf
 refine .pure _ _ ?_ ⟨rfl,rfl⟩ d1 fun _=>?_
 ·exact leL_refl _
 (try dsimp only[awp]);conv=>whnf
 refine .pure _ _ ?_ ⟨rfl,rfl⟩ d2 fun _=>?_
 ·exact leL_refl _
 (try dsimp only[awp]);conv=>whnf
 refine fM ?_;(conv=>whnf);refine ⟨?_,rfl⟩;conv=>whnf
 all_goals exact wk

theorem partsLe {r : Rat} (w1 : Ws r.num) (w2 : Ws r.den) (l1 : r.num.length ≤ 100000) (l2 : r.den.length ≤ 100000) : (wd (partsR r).2.1).length ≤ 100000 ∧ (wd (partsR r).2.2).length ≤ 100000:=by
 by_cases h : valid r = true ∧ r.num ≠ []
 ·have hp : partsR r = (r.neg,val r.num,val r.den):=if_pos h
  obtain ⟨h1,h2⟩:=h
  unfold valid at h1
  rw [if_neg (fun h=>h2 h.1)] at h1
  simp only [Bool.and_eq_true] at h1
  obtain ⟨e1,_⟩:=plain_wd h1.1.1 w1
  obtain ⟨e2,n2⟩:=plain_wd h1.1.2 w2
  rw [hp,show wd (r.neg,val r.num,val r.den).2.1 = r.num from e1,show wd (r.neg,val r.num,val r.den).2.2 = r.den from e2]
  exact ⟨l1,l2⟩
 ·have hp : partsR r = (false,0,1):=if_neg h
  have e1 : wd 1 = [1]:=wd_small (by omega) (by omega)
  rw [hp,show wd ((false,0,1) : Bool × Nat × Nat).2.1 = [] from wd_zero,show wd ((false,0,1) : Bool × Nat × Nat).2.2 = [1] from e1]
  simp

theorem c_words (a b : List Int) : FnH Tryz.prog 64 [wL a,wL b] [] (.bool (decide (a = b))) []:=by
 refine FnH.intro lay mixed Tryz.func64 (by kernel_rfl) rfl (by kernel_rfl) rfl fun hok=>?_
 have ha : a.length ≤ 9223372036854775807:=by simpa [OkL,Ok,maxL] using hok.1.1
 (try dsimp only[argC,succC]);(try dsimp only[awp]);conv=>whnf
 refine And.intro (fun h=>?_) (fun h=>?_)
 ·have h : a ≠ b:=by intro e; apply h; rw [e]
  conv=>whnf
  refine fM ?_;(conv=>whnf);refine ⟨?_,rfl⟩;conv=>whnf
  simpa using h
 have h : a.length = b.length:=by simp only [List.length_map] at h; omega
 (try dsimp only[awp]);conv=>whnf
 refine LoopE.of <| LoopSpec.inv (.refl _ _) (fun (i : Nat)=>i ≤ a.length ∧ (a = b ↔ a.drop i = b.drop i)) (fun (i : Nat)=>[(13,.int .i64 i)]) (fun _=>_) (fun (i : Nat)=>a.length - i) 0 ?_ (fun _=>rfl) ?_ ?_
 ·exact ⟨Nat.zero_le _,by simp⟩
 ·all_goals exact wk
 rintro i ⟨hi,hx⟩ _
 (try dsimp only[awp]);conv=>whnf
 refine And.intro (fun h1=>?_) (fun h1=>?_)
 ·have hlt : i < a.length:=by simpa using h1
  have hlt2 : i < b.length:=by omega
  rw [List.drop_eq_getElem_cons hlt,List.drop_eq_getElem_cons hlt2] at hx
  (try dsimp only[awp]);conv=>whnf
  refine ADraw.auto (by kernel_rfl) ?_;conv=>whnf
  refine aidx hlt ?_
  (try dsimp only[awp]);conv=>whnf
  refine aidx hlt2 ?_
  (try dsimp only[awp]);conv=>whnf
  refine And.intro (fun h2=>?_) (fun h2=>?_)
  ·(try dsimp only[awp]);conv=>whnf
   refine fM ?_;(conv=>whnf);refine ⟨?_,rfl⟩;conv=>whnf
   have : ¬ a = b:=fun e=>h2 (by simpa using (List.cons.inj (hx.1 e)).1)
   simpa using this
  ·have h2 : a[i] = b[i]:=by simpa using h2
   (try dsimp only[awp]);conv=>whnf
   refine zA ?_;conv=>whnf
   refine ⟨i + 1,?_,?_,?_⟩
   ·refine ⟨hlt,?_⟩
    rw [hx,h2]
    exact ⟨fun e=>(List.cons.inj e).2,fun e=>by rw [e]⟩
   ·all_goals exact wk
   ·omega
 ·have hil : i = a.length:=by have : ¬ i < a.length:=by simpa using h1
                              omega
  (try dsimp only[awp]);conv=>whnf
  refine fM ?_;(conv=>whnf);refine ⟨?_,rfl⟩;conv=>whnf
  have : a = b:=hx.2 (by rw [hil,List.drop_length,h,List.drop_length])
  simpa using this

theorem c_ratEq (a b : Rat) : FnH Tryz.prog 20 [a.av,b.av] [] (.bool (decide (a = b))) []:=by
 have c1:=c_words a.num b.num
 have c2:=c_words a.den b.den
 have e : a = b ↔ a.neg = b.neg ∧ a.num = b.num ∧ a.den = b.den:=by cases a; cases b; simp
 refine FnH.intro lay mixed Tryz.func20 (by kernel_rfl) rfl (by kernel_rfl) rfl fun hok=>?_
 (try dsimp only[argC,succC]);(try dsimp only[awp]);conv=>whnf
 refine And.intro (fun h1=>?_) (fun h1=>?_)
 ·(try dsimp only[awp]);conv=>whnf
  refine .pure _ _ ?_ ⟨rfl,rfl⟩ c1 fun _=>?_
  ·exact leL_refl _
  (try dsimp only[awp]);conv=>whnf
  refine And.intro (fun h2=>?_) (fun h2=>?_)
  ·have h2 : a.num = b.num:=by simpa using h2
   (try dsimp only[awp]);conv=>whnf
   refine .pure _ _ ?_ ⟨rfl,rfl⟩ c2 fun _=>?_
   ·exact leL_refl _
   (try dsimp only[awp]);conv=>whnf
   refine fM ?_;(conv=>whnf);refine ⟨?_,rfl⟩;conv=>whnf
   simp [e,h1,h2]
  ·have h2 : ¬ a.num = b.num:=by simpa using h2
   (try dsimp only[awp]);conv=>whnf
   refine fM ?_;(conv=>whnf);refine ⟨?_,rfl⟩;conv=>whnf
   simp [e,h2]
 ·(try dsimp only[awp]);conv=>whnf
  refine fM ?_;(conv=>whnf);refine ⟨?_,rfl⟩;conv=>whnf
  simp [e,h1]


theorem c_Num (e : Int) : FnH Tryz.prog 16 [errAV e] [] (.int .i64 e) []:=by
 by_cases h0 : e = 0
 ·subst h0
  rw [errAV_zero]
  refine FnH.intro lay mixed Tryz.func16 (by kernel_rfl) rfl (by kernel_rfl) rfl fun hok=>?_
  (try dsimp only[argC,succC]);(try dsimp only[awp]);conv=>whnf
  refine fM ?_;(conv=>whnf);refine ⟨?_,rfl⟩;conv=>whnf
  all_goals exact wk
 ·rw [errAV_ne h0]
  refine FnH.intro lay mixed Tryz.func16 (by kernel_rfl) rfl (by kernel_rfl) rfl fun hok=>?_
  (try dsimp only[argC,succC]);(try dsimp only[awp]);conv=>whnf
  refine fM ?_;(conv=>whnf);refine ⟨?_,rfl⟩;conv=>whnf
  all_goals exact wk

def boundsR (k : Int) : Int × Int :=
 if k = 0 ∨ k = 1 ∨ k = 4 ∨ k = 2 then (1,16) else if k = 3 then (1,1) else if k = 5 then (2,2) else if k = 6 ∨ k = 7 ∨ k = 8 then (2,16) else (0,0)


theorem radd_arith {p x y c s va vb D : Nat} (hD : x + y + c = D) (h : s + p * c = va + vb) : s + p * (D % 4294967296) + p * 4294967296 * (D / 4294967296) = va + p * x + (vb + p * y):=by
 have e : D = D % 4294967296 + 4294967296 * (D / 4294967296):=(Nat.mod_add_div _ _).symm
 have e2 : p * D = p * (D % 4294967296) + p * (4294967296 * (D / 4294967296)):=by rw [← Nat.mul_add,← e]
 have e3 : p * D = p * x + p * y + p * c:=by rw [← hD,Nat.mul_add,Nat.mul_add]
 rw [← Nat.mul_assoc] at e2
 omega

theorem radd_fin {B m la lb a b s c : Nat} (hB : 2 ≤ B) (ha : a < B ^ la) (hb : b < B ^ lb) (hla : la < m) (hlb : lb < m) (h : s + B ^ m * c = a + b) : s = a + b:=by
 have h1 : B ^ la ≤ B ^ (m - 1):=Nat.pow_le_pow_right (by omega) (by omega)
 have h2 : B ^ lb ≤ B ^ (m - 1):=Nat.pow_le_pow_right (by omega) (by omega)
 have h3 : B ^ m = B ^ (m - 1) * B:=by rw [← Nat.pow_succ]; congr 1; omega
 have h4 : B ^ (m - 1) * 2 ≤ B ^ (m - 1) * B:=Nat.mul_le_mul_left _ hB
 cases c with
 | zero=>simpa using h
 | succ c =>
   exfalso
   have h5 : B ^ m * 1 ≤ B ^ m * (c + 1):=Nat.mul_le_mul_left _ (by omega)
   rw [h3] at h5 h
   omega

theorem c_r1Add (a b : List Int) (ha : a.length ≤ 900000) (hb : b.length ≤ 900000) : FnH Tryz.prog 71 [wL a,wL b] [] (wL (wd (val a + val b))) []:=by
 refine FnH.intro lay mixed Tryz.func71 (by kernel_rfl) rfl (by kernel_rfl) rfl fun hok=>?_
 have wa : Ws a:=Ws.ok hok.1.2
 have wb : Ws b:=Ws.ok hok.2.1.2
 (try dsimp only[argC,succC]);(try dsimp only[awp]);conv=>whnf
 obtain ⟨m,hm⟩ : ∃ m,max a.length b.length + 1 = m:=⟨_,rfl⟩
 have em : max (((a.map (AV.int .u32)).length : Nat) : Int) (((b.map (AV.int .u32)).length : Nat) : Int) + 1 = (m : Int):=by simp only [List.length_map]; omega
 refine And.intro (by rw [em]; exact inr64 (by omega) (by omega)) ?_
 rw [em]
 conv=>whnf
 refine LoopE.of <| LoopSpec.inv (.grow 5 1 [] _ rfl (.inl ⟨rfl,rfl⟩) (.refl _ _)) (fun x : Nat × Nat × List Int=>x.1 ≤ m ∧ x.2.1 ≤ 1 ∧ Ws x.2.2 ∧ x.2.2.length = x.1 ∧ val x.2.2 + 4294967296 ^ x.1 * x.2.1 = val (a.take x.1) + val (b.take x.1))
  (fun | (i,c,s)=>[(15,.int .i64 i),(6,.int .u64 c),(5,.sl 1 (s.map (.int .u32)) (.own 0))]) (fun | (_,_,s)=>[(0,.tok 1 s.length)])
  (fun x=>m - x.1) (0,0,[]) ?_ (fun _=>rfl) ?_ ?_
 ·exact ⟨Nat.zero_le _,by simp,Ws.nil,rfl,by simp [val]⟩
 ·refine ⟨?_,.mk ?_ ⟨by simp,trivial⟩⟩
  ·all_goals exact wk
  ·all_goals exact wk
 rintro ⟨i,c,s⟩ ⟨hi,hc,hws,hsl,hv⟩ _
 simp only at hi hc hws hsl hv
 (try dsimp only[awp]);conv=>whnf
 refine And.intro (fun h=>?_) (fun h=>?_)
 ·have hlt : i < m:=by omega
  have ca:=c_rWord a i
  have cb:=c_rWord b i
  have hva:=val_take_getD (l:=a) (i:=i)
  have hvb:=val_take_getD (l:=b) (i:=i)
  have hxa:=wa.getD (i:=i)
  have hxb:=wb.getD (i:=i)
  generalize a.getD i 0 = x0 at *
  generalize b.getD i 0 = y0 at *
  obtain ⟨x,rfl⟩ : ∃ x : Nat,x0 = x:=⟨x0.toNat,by omega⟩
  obtain ⟨w,rfl⟩ : ∃ x : Nat,y0 = x:=⟨y0.toNat,by omega⟩
  rw [Int.toNat_natCast] at hva hvb
  (try dsimp only[awp]);conv=>whnf
  refine .gen _ _ (FnH.ofPure ca (leL_refl _) ⟨rfl,rfl⟩) fun _=>?_
  (try dsimp only[awp]);conv=>whnf
  refine .gen _ _ (FnH.ofPure cb (leL_refl _) ⟨rfl,rfl⟩) fun _=>?_
  conv=>whnf
  rw [show ((x : Int) + (w : Int)) = ((x + w : Nat) : Int) from (Int.natCast_add x w).symm,wrap_u64 (n:=((x + w : Nat) : Int)) (by omega) (by omega)]
  rw [show (((x + w : Nat) : Int) + (c : Int)) = ((x + w + c : Nat) : Int) from (Int.natCast_add (x + w) c).symm,wrap_u64 (n:=((x + w + c : Nat) : Int)) (by omega) (by omega)]
  obtain ⟨D,hD⟩ : ∃ D,x + w + c = D:=⟨_,rfl⟩
  rw [hD]
  conv=>whnf
  rw [wrapu32_mod (a:=D)]
  refine ⟨by rw [List.length_map],?_⟩
  refine ⟨by simp [maxL]; omega,by simp; omega,?_⟩
  conv=>whnf
  refine ⟨by decide,?_⟩
  rw [shr_word rfl]
  conv=>whnf
  refine zA ?_;conv=>whnf
  refine ⟨(i + 1,D / 4294967296,s ++ [((D % 4294967296 : Nat) : Int)]),?_,?_,?_⟩
  ·refine ⟨hlt,(by omega : D / 4294967296 ≤ 1),hws.append (Ws.cons (by omega) Ws.nil),by simp [hsl],?_⟩
   show val (s ++ [((D % 4294967296 : Nat) : Int)]) + 4294967296 ^ (i + 1) * (D / 4294967296) = val (a.take (i + 1)) + val (b.take (i + 1))
   have e1 : val (s ++ [((D % 4294967296 : Nat) : Int)]) = val s + 4294967296 ^ i * (D % 4294967296):=by
    rw [val_append,hsl]
    show _ + _ * ((((D % 4294967296 : Nat) : Int)).toNat + 4294967296 * 0) = _
    rw [Int.toNat_natCast]; rfl
   rw [hva,hvb,e1,Nat.pow_succ]
   exact radd_arith hD hv
  ·refine ⟨?_,.mk ?_ ⟨by simp,trivial⟩⟩
   ·repeat' first|exact rfl|exact trivial|exact wR|exact lR _|apply aI
    all_goals first | (refine leRL_of ?_; simp [strip]; done) | simp
   ·repeat' first|exact rfl|exact trivial|exact wR|exact lR _|apply aI
    all_goals simp
  ·show m - (i + 1) < m - i
   omega
 ·have hil : i = m:=by omega
  subst hil
  rw [List.take_of_length_le (by omega),List.take_of_length_le (by omega)] at hv
  have hfin : val s = val a + val b:=radd_fin (by omega) (val_lt wa) (val_lt wb) (by omega) (by omega) hv
  have ct:=c_rTrim s (by omega)
  rw [hfin] at ct
  (try dsimp only[awp]);conv=>whnf
  refine .pure _ _ ?_ ⟨rfl,rfl⟩ ct fun _=>?_
  ·all_goals exact wk
  (try dsimp only[awp]);conv=>whnf
  refine fM ?_;(conv=>whnf);refine ⟨?_,rfl⟩;conv=>whnf
  all_goals exact wk

def negR (a : Rat) : Rat:=formR (!(partsR a).1) (partsR a).2.1 (partsR a).2.2

def sumR (s t : Bool) (x y d : Nat) : Rat:=if s = t then formR s (x + y) d else if x < y then formR t (y - x) d else formR s (x - y) d

def addR (a b : Rat) : Rat:=sumR (partsR a).1 (partsR b).1 ((partsR a).2.1 * (partsR b).2.2) ((partsR b).2.1 * (partsR a).2.2) ((partsR a).2.2 * (partsR b).2.2)

theorem c_rNeg (a : Rat) (a1 : a.num.length ≤ 100000) (a2 : a.den.length ≤ 100000) : FnH Tryz.prog 75 [a.av] [] (negR a).av []:=by
 have ca:=c_rParts a (by omega) (by omega)
 refine FnH.intro lay mixed Tryz.func75 (by kernel_rfl) rfl (by kernel_rfl) rfl fun hok=>?_
 have pa:=partsOk (ratWs hok).1 (ratWs hok).2 (by omega) (by omega)
 have qa:=partsLe (ratWs hok).1 (ratWs hok).2 a1 a2
 rw [pa.eq] at ca
 have cf:=c_rFrom (!(partsR a).1) (partsR a).2.1 (partsR a).2.2 (by omega) (by omega) pa.den
 have hm : negR a = formR (!(partsR a).1) (partsR a).2.1 (partsR a).2.2:=rfl
 rw [← hm] at cf
 generalize negR a = R at *
 (try dsimp only[argC,succC]);(try dsimp only[awp]);conv=>whnf
 refine .pure _ _ ?_ ⟨rfl,rfl⟩ ca fun _=>?_
 ·exact leL_refl _
 (try dsimp only[awp]);conv=>whnf
 refine .pure _ _ ?_ ⟨rfl,rfl⟩ cf fun _=>?_
 ·all_goals exact wk
 (try dsimp only[awp]);conv=>whnf
 refine fM ?_;(conv=>whnf);refine ⟨?_,rfl⟩;conv=>whnf
 all_goals exact wk

theorem wd_eq_nil {x : Nat} : wd x = [] ↔ x = 0:=by
 constructor
 ·intro h
  apply Classical.byContradiction
  intro h0
  rw [wd_pos h0] at h; cases h
 ·rintro rfl; exact wd_zero

theorem wd_len_add {x y k : Nat} (hx : (wd x).length ≤ k) (hy : (wd y).length ≤ k) : (wd (x + y)).length ≤ k + 1:=by
 refine wd_len_lt ?_
 have h1:=val_lt (wd_Ws x)
 have h2:=val_lt (wd_Ws y)
 rw [val_wd] at h1 h2
 have h3 : 4294967296 ^ (wd x).length ≤ 4294967296 ^ k:=Nat.pow_le_pow_right (by omega) hx
 have h4 : 4294967296 ^ (wd y).length ≤ 4294967296 ^ k:=Nat.pow_le_pow_right (by omega) hy
 rw [Nat.pow_succ]
 generalize 4294967296 ^ k = p at *
 generalize 4294967296 ^ (wd x).length = q at *
 generalize 4294967296 ^ (wd y).length = r at *
 omega

theorem c_rAdd (a b : Rat) (a1 : a.num.length ≤ 100000) (a2 : a.den.length ≤ 100000) (b1 : b.num.length ≤ 100000) (b2 : b.den.length ≤ 100000) : FnH Tryz.prog 23 [a.av,b.av] [] (addR a b).av []:=by
 have ca:=c_rParts a (by omega) (by omega)
 have cb:=c_rParts b (by omega) (by omega)
 refine FnH.intro lay mixed Tryz.func23 (by kernel_rfl) rfl (by kernel_rfl) rfl fun hok=>?_
 have pa:=partsOk (ratWs hok).1 (ratWs hok).2 (by omega) (by omega)
 have pb:=partsOk (ratWs hok.2).1 (ratWs hok.2).2 (by omega) (by omega)
 have qa:=partsLe (ratWs hok).1 (ratWs hok).2 a1 a2
 have qb:=partsLe (ratWs hok.2).1 (ratWs hok.2).2 b1 b2
 rw [pa.eq] at ca
 rw [pb.eq] at cb
 have hR : addR a b = sumR (partsR a).1 (partsR b).1 ((partsR a).2.1 * (partsR b).2.2) ((partsR b).2.1 * (partsR a).2.2) ((partsR a).2.2 * (partsR b).2.2):=rfl
 have m1:=c_rMul (wd (partsR a).2.1) (wd (partsR b).2.2) pa.ln pb.ld
 have m2:=c_rMul (wd (partsR b).2.1) (wd (partsR a).2.2) pb.ln pa.ld
 have m3:=c_rMul (wd (partsR a).2.2) (wd (partsR b).2.2) pa.ld pb.ld
 rw [val_wd,val_wd] at m1 m2 m3
 have l1:=wd_len_mul qa.1 qb.2
 have l2:=wd_len_mul qb.1 qa.2
 have l3:=wd_len_mul qa.2 qb.2
 have hne : (partsR a).2.2 * (partsR b).2.2 ≠ 0:=Nat.mul_ne_zero pa.den pb.den
 generalize addR a b = R at *
 generalize (partsR a).2.1 * (partsR b).2.2 = x at *
 generalize (partsR b).2.1 * (partsR a).2.2 = y at *
 generalize (partsR a).2.2 * (partsR b).2.2 = d at *
 have l4:=wd_len_add l1 l2
 have l5:=wd_len_mono (Nat.sub_le x y)
 have l6:=wd_len_mono (Nat.sub_le y x)
 have cA:=c_r1Add (wd x) (wd y) (by omega) (by omega)
 have cC:=c_rCmp (wd x) (wd y) (by omega) (by omega)
 have cS:=c_rSub (wd x) (wd y) (by omega) (by omega) _ rfl
 have cS2:=c_rSub (wd y) (wd x) (by omega) (by omega) _ rfl
 rw [val_wd,val_wd] at cA cC cS cS2
 have cf1:=c_rFrom (partsR a).1 (x + y) d (by omega) (by omega) hne
 have cf2:=c_rFrom (partsR a).1 (x - y) d (by omega) (by omega) hne
 have cf3:=c_rFrom (partsR b).1 (y - x) d (by omega) (by omega) hne
 unfold sumR at hR
 generalize (partsR a).1 = s at *
 generalize (partsR b).1 = t at *
 (try dsimp only[argC,succC]);(try dsimp only[awp]);conv=>whnf
 refine .pure _ _ ?_ ⟨rfl,rfl⟩ ca fun _=>?_
 ·exact leL_refl _
 (try dsimp only[awp]);conv=>whnf
 refine .pure _ _ ?_ ⟨rfl,rfl⟩ cb fun _=>?_
 ·exact leL_refl _
 (try dsimp only[awp]);conv=>whnf
 refine .pure _ _ ?_ ⟨rfl,rfl⟩ m1 fun _=>?_
 ·exact leL_refl _
 (try dsimp only[awp]);conv=>whnf
 refine .pure _ _ ?_ ⟨rfl,rfl⟩ m2 fun _=>?_
 ·exact leL_refl _
 (try dsimp only[awp]);conv=>whnf
 refine .pure _ _ ?_ ⟨rfl,rfl⟩ m3 fun _=>?_
 ·exact leL_refl _
 (try dsimp only[awp]);conv=>whnf
 refine And.intro (fun hst=>?_) (fun hst=>?_)
 ·have hst : s = t:=by simpa using hst
  rw [if_pos hst] at hR
  subst hR
  (try dsimp only[awp]);conv=>whnf
  refine .pure _ _ ?_ ⟨rfl,rfl⟩ cA fun _=>?_
  ·exact leL_refl _
  (try dsimp only[awp]);conv=>whnf
  refine .pure _ _ ?_ ⟨rfl,rfl⟩ cf1 fun _=>?_
  ·exact leL_refl _
  (try dsimp only[awp]);conv=>whnf
  refine fM ?_;(conv=>whnf);refine ⟨?_,rfl⟩;conv=>whnf
  all_goals exact wk
 have hst : ¬ s = t:=by simpa using hst
 rw [if_neg hst] at hR
 (try dsimp only[awp]);conv=>whnf
 refine .pure _ _ ?_ ⟨rfl,rfl⟩ cC fun _=>?_
 ·exact leL_refl _
 (try dsimp only[awp]);conv=>whnf
 refine And.intro (fun hxy=>?_) (fun hxy=>?_)
 ·have hlt : x < y:=by
   unfold cmpN at hxy
   split at hxy
   ·assumption
   ·split at hxy <;> omega
  rw [if_pos hlt] at hR
  subst hR
  rw [if_neg (by omega)] at cS2
  (try dsimp only[awp]);conv=>whnf
  refine .pure _ _ ?_ ⟨rfl,rfl⟩ cS2 fun _=>?_
  ·exact leL_refl _
  (try dsimp only[awp]);conv=>whnf
  refine .pure _ _ ?_ ⟨rfl,rfl⟩ cf3 fun _=>?_
  ·exact leL_refl _
  (try dsimp only[awp]);conv=>whnf
  refine fM ?_;(conv=>whnf);refine ⟨?_,rfl⟩;conv=>whnf
  all_goals exact wk
 ·have hlt : ¬ x < y:=by
   intro hlt
   unfold cmpN at hxy
   rw [if_pos hlt] at hxy
   omega
  rw [if_neg hlt] at hR
  subst hR
  rw [if_neg hlt] at cS
  (try dsimp only[awp]);conv=>whnf
  refine .pure _ _ ?_ ⟨rfl,rfl⟩ cS fun _=>?_
  ·exact leL_refl _
  (try dsimp only[awp]);conv=>whnf
  refine .pure _ _ ?_ ⟨rfl,rfl⟩ cf2 fun _=>?_
  ·exact leL_refl _
  (try dsimp only[awp]);conv=>whnf
  refine fM ?_;(conv=>whnf);refine ⟨?_,rfl⟩;conv=>whnf
  all_goals exact wk

def signR (r : Rat) : Int:=if (partsR r).2.1 = 0 then 0 else if (partsR r).1 = true then -1 else 1

theorem c_rSign (a : Rat) (a1 : a.num.length ≤ 300000) (a2 : a.den.length ≤ 300000) : FnH Tryz.prog 76 [a.av] [] (.int .i64 (signR a)) []:=by
 have ca:=c_rParts a (by omega) (by omega)
 have hR : signR a = if (partsR a).2.1 = 0 then 0 else if (partsR a).1 = true then -1 else 1:=rfl
 refine FnH.intro lay mixed Tryz.func76 (by kernel_rfl) rfl (by kernel_rfl) rfl fun hok=>?_
 have pa:=partsOk (ratWs hok).1 (ratWs hok).2 (by omega) (by omega)
 rw [pa.eq] at ca
 have hz:=wd_eq_nil (x:=(partsR a).2.1)
 generalize signR a = R at *
 generalize (partsR a).2.1 = x at *
 generalize (partsR a).1 = s at *
 (try dsimp only[argC,succC]);(try dsimp only[awp]);conv=>whnf
 refine .pure _ _ ?_ ⟨rfl,rfl⟩ ca fun _=>?_
 ·exact leL_refl _
 (try dsimp only[awp]);conv=>whnf
 refine And.intro (fun h=>?_) (fun h=>?_)
 ·have h0 : x = 0:=hz.1 (List.eq_nil_of_length_eq_zero (by simpa using h))
  rw [if_pos h0] at hR
  subst hR
  (try dsimp only[awp]);conv=>whnf
  refine fM ?_;(conv=>whnf);refine ⟨?_,rfl⟩;conv=>whnf
  all_goals exact wk
 have h0 : ¬ x = 0:=by
  intro h0
  apply h
  rw [hz.2 h0]; rfl
 rw [if_neg h0] at hR
 (try dsimp only[awp]);conv=>whnf
 refine And.intro (fun hs=>?_) (fun hs=>?_)
 ·rw [if_pos hs] at hR
  subst hR
  (try dsimp only[awp]);conv=>whnf
  refine fM ?_;(conv=>whnf);refine ⟨?_,rfl⟩;conv=>whnf
  all_goals exact wk
 ·rw [if_neg (by simp [hs])] at hR
  subst hR
  (try dsimp only[awp]);conv=>whnf
  refine fM ?_;(conv=>whnf);refine ⟨?_,rfl⟩;conv=>whnf
  all_goals exact wk


theorem plain_of_wd {x : Nat} (h : x ≠ 0) : plainR (wd x) = true:=by
 have h1 : wd x ≠ []:=fun e=>h (wd_eq_nil.1 e)
 have h2 : (wd x).getLastD 0 ≠ 0:=by
  rcases wd_Pl x with h2 | h2
  ·exact absurd h2 h1
  ·exact h2
 simp only [plainR,Bool.and_eq_true,decide_eq_true_eq]
 exact ⟨h1,h2⟩

theorem parts_form {neg : Bool} {x d : Nat} (hx : x ≠ 0) (hd : d ≠ 0) : partsR (formR neg x d) = (neg,x / Nat.gcd x d,d / Nat.gcd x d) ∧ x / Nat.gcd x d ≠ 0:=by
 have hg : 0 < Nat.gcd x d:=Nat.gcd_pos_of_pos_left d (by omega)
 have h1 : x / Nat.gcd x d ≠ 0:=by
  have:=Nat.div_pos (Nat.gcd_le_left d (by omega : 0 < x)) hg
  omega
 have h2 : d / Nat.gcd x d ≠ 0:=by
  have:=Nat.div_pos (Nat.gcd_le_right x (by omega : 0 < d)) hg
  omega
 have hc : Nat.gcd (x / Nat.gcd x d) (d / Nat.gcd x d) = 1:=Nat.gcd_div_gcd_div_gcd_of_pos_left (by omega)
 unfold formR
 rw [if_neg hx]
 generalize x / Nat.gcd x d = a at *
 generalize d / Nat.gcd x d = b at *
 refine ⟨?_,h1⟩
 have hn : wd a ≠ []:=fun e=>h1 (wd_eq_nil.1 e)
 have hv : valid ⟨neg,wd a,wd b⟩ = true:=by
  unfold valid
  rw [if_neg (fun h=>hn h.1)]
  show (plainR (wd a) && plainR (wd b) && decide (Nat.gcd (val (wd a)) (val (wd b)) = 1)) = true
  rw [plain_of_wd h1,plain_of_wd h2,val_wd,val_wd]
  simpa using hc
 unfold partsR
 rw [if_pos ⟨hv,hn⟩]
 show (neg,val (wd a),val (wd b)) = _
 rw [val_wd,val_wd]

theorem sign_form {neg : Bool} {x d : Nat} (hd : d ≠ 0) : signR (formR neg x d) = if x = 0 then 0 else if neg = true then -1 else 1:=by
 by_cases hx : x = 0
 ·rw [if_pos hx]
  unfold formR
  rw [if_pos hx]
  have e : partsR ⟨false,[],[]⟩ = (false,0,1):=if_neg (fun h=>h.2 rfl)
  unfold signR
  rw [e]
  rfl
 ·rw [if_neg hx]
  obtain ⟨h1,h2⟩:=parts_form (neg:=neg) hx hd
  unfold signR
  rw [h1,if_neg h2]

theorem signR_eq {r : Rat} (w1 : Ws r.num) : signR r = sign r:=by
 unfold signR sign partsR
 by_cases h : valid r = true ∧ r.num ≠ []
 ·rw [if_pos h,if_pos h]
  obtain ⟨h1,h2⟩:=h
  unfold valid at h1
  rw [if_neg (fun h=>h2 h.1)] at h1
  simp only [Bool.and_eq_true] at h1
  rw [if_neg (plain_wd h1.1.1 w1).2]
 ·rw [if_neg h,if_neg h]; rfl

abbrev oneR : Rat:=⟨false,[1],[1]⟩

theorem wd_one : wd 1 = [1]:=wd_small (by omega) (by omega)

theorem parts_one (neg : Bool) : partsR ⟨neg,[1],[1]⟩ = (neg,1,1):=by
 have h:=(parts_form (neg:=neg) (x:=1) (d:=1) (by omega) (by omega)).1
 have e : formR neg 1 1 = ⟨neg,[1],[1]⟩:=by
  unfold formR
  rw [if_neg (by omega)]
  simp [wd_one]
 rw [e] at h
 simpa using h

theorem neg_one : negR oneR = ⟨true,[1],[1]⟩:=by
 unfold negR
 rw [parts_one]
 unfold formR
 rw [if_neg (by simp)]
 simp [wd_one]

theorem prob_law {r : Rat} (w1 : Ws r.num) (w2 : Ws r.den) : (valid r && decide (0 ≤ sign r) && decide (signR (addR r (negR oneR)) ≤ 0)) = prob r:=by
 unfold prob
 cases hv : valid r with
 | false=>simp
 | true =>
   rw [neg_one]
   unfold addR
   rw [parts_one]
   have hp : partsR r = if r.num ≠ [] then (r.neg,val r.num,val r.den) else (false,0,1):=by
    unfold partsR; simp [hv]
   have hs : sign r = if r.num ≠ [] then (if r.neg then -1 else 1) else 0:=by
    unfold sign; simp [hv]
   have hv':=hv
   unfold valid at hv'
   by_cases hn : r.num = []
   ·rw [hp,hs,if_neg (by simp [hn]),if_neg (by simp [hn])]
    have hdn : r.den = []:=by
     apply Classical.byContradiction
     intro hd
     rw [if_neg (fun h=>hd h.2),hn] at hv'
     simp [plainR] at hv'
    rw [if_pos ⟨hn,hdn⟩] at hv'
    have hneg : r.neg = false:=by simpa using hv'
    have e : sumR false true (0 * 1) (1 * 1) (1 * 1) = formR true 1 1:=rfl
    show (true && decide ((0 : Int) ≤ 0) && decide (signR (sumR false true (0 * 1) (1 * 1) (1 * 1)) ≤ 0)) = _
    rw [e,sign_form (by omega),hn,hdn,hneg]
    decide
   ·rw [hp,hs,if_pos hn,if_pos hn]
    rw [if_neg (fun h=>hn h.1)] at hv'
    simp only [Bool.and_eq_true] at hv'
    obtain ⟨e1,n1⟩:=plain_wd hv'.1.1 w1
    obtain ⟨e2,n2⟩:=plain_wd hv'.1.2 w2
    cases hneg : r.neg with
    | true=>simp
    | false =>
      show (true && decide ((0 : Int) ≤ 1) && decide (signR (sumR false true (val r.num * 1) (1 * val r.den) (val r.den * 1)) ≤ 0)) = (true && !false && decide (val r.num ≤ val r.den))
      rw [Nat.mul_one,Nat.one_mul,Nat.mul_one]
      unfold sumR
      rw [if_neg (by decide)]
      by_cases hlt : val r.num < val r.den
      ·rw [if_pos hlt,sign_form n2,if_neg (by omega)]
       simp; omega
      ·rw [if_neg hlt,sign_form n2]
       by_cases h0 : val r.num - val r.den = 0
       ·rw [if_pos h0]; simp; omega
       ·rw [if_neg h0]; simp; omega

theorem c_rSub1 (a : Rat) (a1 : a.num.length ≤ 90000) (a2 : a.den.length ≤ 90000) : FnH Tryz.prog 25 [a.av,oneR.av] [] (addR a (negR oneR)).av []:=by
 have c1:=c_rNeg oneR (by simp) (by simp)
 have n1 : (negR oneR).num.length ≤ 90000:=by rw [neg_one]; simp
 have n2 : (negR oneR).den.length ≤ 90000:=by rw [neg_one]; simp
 have c2:=c_rAdd a (negR oneR) (by omega) (by omega) (by omega) (by omega)
 generalize addR a (negR oneR) = R at *
 generalize negR oneR = N at *
 refine FnH.intro lay mixed Tryz.func25 (by kernel_rfl) rfl (by kernel_rfl) rfl fun hok=>?_
 (try dsimp only[argC,succC]);(try dsimp only[awp]);conv=>whnf
 refine ADraw.auto (by kernel_rfl) ?_;conv=>whnf
 refine ACallP.pure _ _ ?_ ⟨rfl,rfl⟩ c1 ?_
 ·exact leL_refl _
 (try dsimp only[awp]);conv=>whnf
 refine ACallP.pure _ _ ?_ ⟨rfl,rfl⟩ c2 ?_
 ·exact leL_refl _
 (try dsimp only[awp]);conv=>whnf
 refine fM ?_;(conv=>whnf);refine ⟨?_,rfl⟩;conv=>whnf
 all_goals exact wk

theorem form_len {neg : Bool} {x d k : Nat} (hx : (wd x).length ≤ k) (hd : (wd d).length ≤ k) : (formR neg x d).num.length ≤ k ∧ (formR neg x d).den.length ≤ k:=by
 unfold formR
 split
 ·simp
 ·have h1:=wd_len_mono (Nat.div_le_self x (Nat.gcd x d))
  have h2:=wd_len_mono (Nat.div_le_self d (Nat.gcd x d))
  exact ⟨by show (wd _).length ≤ k; omega,by show (wd _).length ≤ k; omega⟩

theorem add_len {a b : Rat} (wa : Ws a.num ∧ Ws a.den) (wb : Ws b.num ∧ Ws b.den) (a1 : a.num.length ≤ 100000) (a2 : a.den.length ≤ 100000) (b1 : b.num.length ≤ 100000) (b2 : b.den.length ≤ 100000) :
  (addR a b).num.length ≤ 200001 ∧ (addR a b).den.length ≤ 200001:=by
 have qa:=partsLe wa.1 wa.2 a1 a2
 have qb:=partsLe wb.1 wb.2 b1 b2
 have l1:=wd_len_mul qa.1 qb.2
 have l2:=wd_len_mul qb.1 qa.2
 have l3:=wd_len_mul qa.2 qb.2
 unfold addR sumR
 generalize (partsR a).2.1 * (partsR b).2.2 = x at *
 generalize (partsR b).2.1 * (partsR a).2.2 = y at *
 generalize (partsR a).2.2 * (partsR b).2.2 = d at *
 have l4:=wd_len_add l1 l2
 have l5:=wd_len_mono (Nat.sub_le x y)
 have l6:=wd_len_mono (Nat.sub_le y x)
 split
 ·exact form_len (by omega) (by omega)
 ·split
  ·exact form_len (by omega) (by omega)
  ·exact form_len (by omega) (by omega)

theorem c_rCmp1 (a : Rat) (a1 : a.num.length ≤ 90000) (a2 : a.den.length ≤ 90000) : FnH Tryz.prog 26 [a.av,oneR.av] [] (.int .i64 (signR (addR a (negR oneR)))) []:=by
 have c1:=c_rSub1 a a1 a2
 refine FnH.intro lay mixed Tryz.func26 (by kernel_rfl) rfl (by kernel_rfl) rfl fun hok=>?_
 have w:=ratWs hok
 have hl:=add_len w (b:=negR oneR) (by rw [neg_one]; exact ⟨Ws.cons (by omega) Ws.nil,Ws.cons (by omega) Ws.nil⟩) (by omega) (by omega) (by rw [neg_one]; simp) (by rw [neg_one]; simp)
 have c2:=c_rSign (addR a (negR oneR)) (by omega) (by omega)
 generalize addR a (negR oneR) = R at *
 (try dsimp only[argC,succC]);(try dsimp only[awp]);conv=>whnf
 refine .pure _ _ ?_ ⟨rfl,rfl⟩ c1 fun _=>?_
 ·exact leL_refl _
 (try dsimp only[awp]);conv=>whnf
 refine .pure _ _ ?_ ⟨rfl,rfl⟩ c2 fun _=>?_
 ·exact leL_refl _
 (try dsimp only[awp]);conv=>whnf
 refine fM ?_;(conv=>whnf);refine ⟨?_,rfl⟩;conv=>whnf
 all_goals exact wk

theorem c_rProb (h1 : OneC) (a : Rat) (a1 : a.num.length ≤ 90000) (a2 : a.den.length ≤ 90000) : FnH Tryz.prog 63 [a.av] [] (.bool (prob a)) []:=by
 have cv:=c_rValid a (by omega) (by omega)
 have cs:=c_rSign a (by omega) (by omega)
 have cc:=c_rCmp1 a a1 a2
 refine FnH.intro lay mixed Tryz.func63 (by kernel_rfl) rfl (by kernel_rfl) rfl fun hok=>?_
 have w:=ratWs hok
 have hl:=prob_law w.1 w.2
 rw [signR_eq w.1] at cs
 generalize signR (addR a (negR oneR)) = z at *
 rw [← hl]
 (try dsimp only[argC,succC]);(try dsimp only[awp]);conv=>whnf
 refine ADraw.auto (by kernel_rfl) ?_;conv=>whnf
 refine ACallP.pure _ _ ?_ ⟨rfl,rfl⟩ cv ?_
 ·exact leL_refl _
 (try dsimp only[awp]);conv=>whnf
 refine And.intro (fun p1=>?_) (fun p1=>?_)
 ·(try dsimp only[awp]);conv=>whnf
  refine ACallP.pure _ _ ?_ ⟨rfl,rfl⟩ cs ?_
  ·exact leL_refl _
  (try dsimp only[awp]);conv=>whnf
  refine And.intro (fun p2=>?_) (fun p2=>?_)
  ·(try dsimp only[awp]);conv=>whnf
   refine ACallP.pure _ _ ?_ ⟨rfl,rfl⟩ h1 ?_
   ·exact leL_refl _
   (try dsimp only[awp]);conv=>whnf
   refine ACallP.pure _ _ ?_ ⟨rfl,rfl⟩ cc ?_
   ·exact leL_refl _
   (try dsimp only[awp]);conv=>whnf
   refine fM ?_;(conv=>whnf);refine ⟨?_,rfl⟩;conv=>whnf
   show _ ↔ _
   simp [p1,p2]
  ·(try dsimp only[awp]);conv=>whnf
   refine fM ?_;(conv=>whnf);refine ⟨?_,rfl⟩;conv=>whnf
   simp [p1,p2]
 ·(try dsimp only[awp]);conv=>whnf
  refine fM ?_;(conv=>whnf);refine ⟨?_,rfl⟩;conv=>whnf
  simp [p1]

theorem c_revent (m : Md) (s : Str) : FnH Tryz.prog 167 [m.av,.str s] [] (.int .i64 (i_event m.evs s)) []:=by
 refine FnH.intro lay mixed Tryz.func167 (by kernel_rfl) rfl (by kernel_rfl) rfl fun hok=>?_
 have hl : m.evs.length ≤ 9223372036854775807:=by
  have:=hok.1
  simp only [Ok,OkL] at this
  have : (m.evs.map Ev.av).length ≤ maxL:=by simp only [this]
  simpa [maxL] using this
 (try dsimp only[argC,succC]);(try dsimp only[awp]);conv=>whnf
 refine LoopE.of <| LoopSpec.inv (.refl _ _) (fun (i : Nat)=>i ≤ m.evs.length ∧ ∀ (j : Nat) (hj : j < m.evs.length),j < i → decide ((m.evs)[j].name = s) = false) (fun (i : Nat)=>[(10,.int .i64 i)]) (fun _=>_) (fun (i : Nat)=>m.evs.length - i) 0 ?_ (fun _=>rfl) ?_ ?_
 ·exact ⟨Nat.zero_le _,by omega⟩
 ·all_goals exact wk
 rintro i ⟨hi,hn⟩ _
 (try dsimp only[awp]);conv=>whnf
 refine And.intro (fun h=>?_) (fun h=>?_)
 ·have hlt : i < m.evs.length:=by simpa using h
  have hyes : (m.evs)[i].name = s → i_event m.evs s = i:=fun e=>(by unfold i_event; exact idxP_some (p:=fun x=>decide (x.name = s)) hlt (by simpa using e) fun j hj=>hn j (by omega) hj)
  have hno : (m.evs)[i].name ≠ s → ∀ (j : Nat) (hj : j < m.evs.length),j < i + 1 → decide ((m.evs)[j].name = s) = false:=by
   intro e j hj hji
   by_cases e2 : j = i
   ·subst e2; exact decide_eq_false e
   ·exact hn j hj (by omega)
  (try dsimp only[awp]);conv=>whnf
  refine aidx hlt ?_
  generalize (m.evs)[i] = x at *
  (try dsimp only[awp]);conv=>whnf
  refine And.intro (fun h1=>?_) (fun h1=>?_)
  ·rw [hyes h1]
   (try dsimp only[awp]);conv=>whnf
   refine fM ?_;(conv=>whnf);refine ⟨?_,rfl⟩;conv=>whnf
   all_goals exact wk
  ·(try dsimp only[awp]);conv=>whnf
   refine zA ?_;conv=>whnf
   refine ⟨i + 1,?_,?_,?_⟩
   ·exact ⟨hlt,hno h1⟩
   ·refine ⟨?_,.mk ?_ ⟨by simp,trivial⟩⟩
    ·all_goals exact wk
    ·all_goals exact wk
   ·omega
 ·have hlt : ¬ i < m.evs.length:=by simpa using h
  rw [show i_event m.evs s = -1 from by unfold i_event; exact idxP_none (p:=fun x=>decide (x.name = s)) fun j hj=>hn j hj (by omega)]
  (try dsimp only[awp]);conv=>whnf
  refine fM ?_;(conv=>whnf);refine ⟨?_,rfl⟩;conv=>whnf
  all_goals exact wk
theorem c_rhouse (m : Md) (s : Str) : FnH Tryz.prog 169 [m.av,.str s] [] (.int .i64 (i_house m.hs s)) []:=by
 refine FnH.intro lay mixed Tryz.func169 (by kernel_rfl) rfl (by kernel_rfl) rfl fun hok=>?_
 have hl : m.hs.length ≤ 9223372036854775807:=by
  have:=hok.1
  simp only [Ok,OkL] at this
  have : (m.hs.map Hs.av).length ≤ maxL:=by simp only [this]
  simpa [maxL] using this
 (try dsimp only[argC,succC]);(try dsimp only[awp]);conv=>whnf
 refine LoopE.of <| LoopSpec.inv (.refl _ _) (fun (i : Nat)=>i ≤ m.hs.length ∧ ∀ (j : Nat) (hj : j < m.hs.length),j < i → decide ((m.hs)[j].name = s) = false) (fun (i : Nat)=>[(10,.int .i64 i)]) (fun _=>_) (fun (i : Nat)=>m.hs.length - i) 0 ?_ (fun _=>rfl) ?_ ?_
 ·exact ⟨Nat.zero_le _,by omega⟩
 ·all_goals exact wk
 rintro i ⟨hi,hn⟩ _
 (try dsimp only[awp]);conv=>whnf
 refine And.intro (fun h=>?_) (fun h=>?_)
 ·have hlt : i < m.hs.length:=by simpa using h
  have hyes : (m.hs)[i].name = s → i_house m.hs s = i:=fun e=>(by unfold i_house; exact idxP_some (p:=fun x=>decide (x.name = s)) hlt (by simpa using e) fun j hj=>hn j (by omega) hj)
  have hno : (m.hs)[i].name ≠ s → ∀ (j : Nat) (hj : j < m.hs.length),j < i + 1 → decide ((m.hs)[j].name = s) = false:=by
   intro e j hj hji
   by_cases e2 : j = i
   ·subst e2; exact decide_eq_false e
   ·exact hn j hj (by omega)
  (try dsimp only[awp]);conv=>whnf
  refine aidx hlt ?_
  generalize (m.hs)[i] = x at *
  (try dsimp only[awp]);conv=>whnf
  refine And.intro (fun h1=>?_) (fun h1=>?_)
  ·rw [hyes h1]
   (try dsimp only[awp]);conv=>whnf
   refine fM ?_;(conv=>whnf);refine ⟨?_,rfl⟩;conv=>whnf
   all_goals exact wk
  ·(try dsimp only[awp]);conv=>whnf
   refine zA ?_;conv=>whnf
   refine ⟨i + 1,?_,?_,?_⟩
   ·exact ⟨hlt,hno h1⟩
   ·refine ⟨?_,.mk ?_ ⟨by simp,trivial⟩⟩
    ·all_goals exact wk
    ·all_goals exact wk
   ·omega
 ·have hlt : ¬ i < m.hs.length:=by simpa using h
  rw [show i_house m.hs s = -1 from by unfold i_house; exact idxP_none (p:=fun x=>decide (x.name = s)) fun j hj=>hn j hj (by omega)]
  (try dsimp only[awp]);conv=>whnf
  refine fM ?_;(conv=>whnf);refine ⟨?_,rfl⟩;conv=>whnf
  all_goals exact wk
theorem c_rpage (m : Md) (s : Str) : FnH Tryz.prog 170 [m.av,.str s] [] (.int .i64 (i_page m.pages s)) []:=by
 refine FnH.intro lay mixed Tryz.func170 (by kernel_rfl) rfl (by kernel_rfl) rfl fun hok=>?_
 have hl : m.pages.length ≤ 9223372036854775807:=by
  have:=hok.1
  simp only [Ok,OkL] at this
  have : (m.pages.map Pg.av).length ≤ maxL:=by simp only [this]
  simpa [maxL] using this
 (try dsimp only[argC,succC]);(try dsimp only[awp]);conv=>whnf
 refine LoopE.of <| LoopSpec.inv (.refl _ _) (fun (i : Nat)=>i ≤ m.pages.length ∧ ∀ (j : Nat) (hj : j < m.pages.length),j < i → decide ((m.pages)[j].name = s) = false) (fun (i : Nat)=>[(10,.int .i64 i)]) (fun _=>_) (fun (i : Nat)=>m.pages.length - i) 0 ?_ (fun _=>rfl) ?_ ?_
 ·exact ⟨Nat.zero_le _,by omega⟩
 ·all_goals exact wk
 rintro i ⟨hi,hn⟩ _
 (try dsimp only[awp]);conv=>whnf
 refine And.intro (fun h=>?_) (fun h=>?_)
 ·have hlt : i < m.pages.length:=by simpa using h
  have hyes : (m.pages)[i].name = s → i_page m.pages s = i:=fun e=>(by unfold i_page; exact idxP_some (p:=fun x=>decide (x.name = s)) hlt (by simpa using e) fun j hj=>hn j (by omega) hj)
  have hno : (m.pages)[i].name ≠ s → ∀ (j : Nat) (hj : j < m.pages.length),j < i + 1 → decide ((m.pages)[j].name = s) = false:=by
   intro e j hj hji
   by_cases e2 : j = i
   ·subst e2; exact decide_eq_false e
   ·exact hn j hj (by omega)
  (try dsimp only[awp]);conv=>whnf
  refine aidx hlt ?_
  generalize (m.pages)[i] = x at *
  (try dsimp only[awp]);conv=>whnf
  refine And.intro (fun h1=>?_) (fun h1=>?_)
  ·rw [hyes h1]
   (try dsimp only[awp]);conv=>whnf
   refine fM ?_;(conv=>whnf);refine ⟨?_,rfl⟩;conv=>whnf
   all_goals exact wk
  ·(try dsimp only[awp]);conv=>whnf
   refine zA ?_;conv=>whnf
   refine ⟨i + 1,?_,?_,?_⟩
   ·exact ⟨hlt,hno h1⟩
   ·refine ⟨?_,.mk ?_ ⟨by simp,trivial⟩⟩
    ·all_goals exact wk
    ·all_goals exact wk
   ·omega
 ·have hlt : ¬ i < m.pages.length:=by simpa using h
  rw [show i_page m.pages s = -1 from by unfold i_page; exact idxP_none (p:=fun x=>decide (x.name = s)) fun j hj=>hn j hj (by omega)]
  (try dsimp only[awp]);conv=>whnf
  refine fM ?_;(conv=>whnf);refine ⟨?_,rfl⟩;conv=>whnf
  all_goals exact wk

theorem c_rgate (l : List Mg) (s : Str) : FnH Tryz.prog 172 [gL l,.str s] [] (.int .i64 (i_gate l s)) []:=by
 refine FnH.intro lay mixed Tryz.func172 (by kernel_rfl) rfl (by kernel_rfl) rfl fun hok=>?_
 have hl : l.length ≤ 9223372036854775807:=by have:=hok.1.1; simpa [maxL] using this
 (try dsimp only[argC,succC]);(try dsimp only[awp]);conv=>whnf
 refine LoopE.of <| LoopSpec.inv (.refl _ _) (fun (i : Nat)=>i ≤ l.length ∧ ∀ (j : Nat) (hj : j < l.length),j < i → decide (l[j].name = s) = false) (fun (i : Nat)=>[(9,.int .i64 i)]) (fun _=>_) (fun (i : Nat)=>l.length - i) 0 ?_ (fun _=>rfl) ?_ ?_
 ·exact ⟨Nat.zero_le _,by omega⟩
 ·all_goals exact wk
 rintro i ⟨hi,hn⟩ _
 (try dsimp only[awp]);conv=>whnf
 refine And.intro (fun h=>?_) (fun h=>?_)
 ·have hlt : i < l.length:=by simpa using h
  have hyes : l[i].name = s → i_gate l s = i:=fun e=>(by unfold i_gate; exact idxP_some (p:=fun x=>decide (x.name = s)) hlt (by simpa using e) fun j hj=>hn j (by omega) hj)
  have hno : l[i].name ≠ s → ∀ (j : Nat) (hj : j < l.length),j < i + 1 → decide (l[j].name = s) = false:=by
   intro e j hj hji
   by_cases e2 : j = i
   ·subst e2; exact decide_eq_false e
   ·exact hn j hj (by omega)
  (try dsimp only[awp]);conv=>whnf
  refine aidx hlt ?_
  generalize l[i] = x at *
  (try dsimp only[awp]);conv=>whnf
  refine And.intro (fun h1=>?_) (fun h1=>?_)
  ·rw [hyes h1]
   (try dsimp only[awp]);conv=>whnf
   refine fM ?_;(conv=>whnf);refine ⟨?_,rfl⟩;conv=>whnf
   all_goals exact wk
  ·(try dsimp only[awp]);conv=>whnf
   refine zA ?_;conv=>whnf
   refine ⟨i + 1,?_,?_,?_⟩
   ·exact ⟨hlt,hno h1⟩
   ·refine ⟨?_,.mk ?_ trivial⟩
    ·all_goals exact wk
    ·all_goals exact wk
   ·omega
 ·have hlt : ¬ i < l.length:=by simpa using h
  rw [show i_gate l s = -1 from by unfold i_gate; exact idxP_none (p:=fun x=>decide (x.name = s)) fun j hj=>hn j hj (by omega)]
  (try dsimp only[awp]);conv=>whnf
  refine fM ?_;(conv=>whnf);refine ⟨?_,rfl⟩;conv=>whnf
  all_goals exact wk

theorem c_letter21 (n : Int) : FnH Tryz.prog 244 [.int .u8 n] [] (.bool (letterN n)) []:=by
 refine FnH.intro lay mixed Tryz.func244 (by kernel_rfl) rfl (by kernel_rfl) rfl fun hok=>?_
 (try dsimp only[argC,succC]);(try dsimp only[awp]);conv=>whnf
 repeat' (first | (refine And.intro (fun _=>?_) (fun _=>?_) <;> ((try dsimp only[awp]);(conv=>whnf))))
 all_goals
  refine fM ?_;(conv=>whnf);refine ⟨?_,rfl⟩;conv=>whnf
  try simp_all [letterN]
 all_goals omega

theorem c_digit21 (n : Int) : FnH Tryz.prog 275 [.int .u8 n] [] (.bool (digitN n)) []:=by
 refine FnH.intro lay mixed Tryz.func275 (by kernel_rfl) rfl (by kernel_rfl) rfl fun hok=>?_
 (try dsimp only[argC,succC]);(try dsimp only[awp]);conv=>whnf
 repeat' (first | (refine And.intro (fun _=>?_) (fun _=>?_) <;> ((try dsimp only[awp]);(conv=>whnf))))
 all_goals
  refine fM ?_;(conv=>whnf);refine ⟨?_,rfl⟩;conv=>whnf
  try simp_all [digitN]
 all_goals omega

theorem c_inside (n : Int) : FnH Tryz.prog 245 [.int .u8 n] [] (.bool (inN n)) []:=by
 refine FnH.intro lay mixed Tryz.func245 (by kernel_rfl) rfl (by kernel_rfl) rfl fun hok=>?_
 (try dsimp only[argC,succC]);(try dsimp only[awp]);conv=>whnf
 refine .pure _ _ ?_ ⟨rfl,rfl⟩ (c_letter21 n) fun _=>?_
 ·exact leL_refl _
 (try dsimp only[awp]);conv=>whnf
 refine And.intro (fun h1=>?_) (fun h1=>?_)
 ·(try dsimp only[awp]);conv=>whnf
  refine fM ?_;(conv=>whnf);refine ⟨?_,rfl⟩;conv=>whnf
  simp [inN,h1]
 (try dsimp only[awp]);conv=>whnf
 refine .pure _ _ ?_ ⟨rfl,rfl⟩ (c_digit21 n) fun _=>?_
 ·exact leL_refl _
 (try dsimp only[awp]);conv=>whnf
 refine And.intro (fun h2=>?_) (fun h2=>?_)
 ·(try dsimp only[awp]);conv=>whnf
  refine fM ?_;(conv=>whnf);refine ⟨?_,rfl⟩;conv=>whnf
  simp [inN,h2]
 (try dsimp only[awp]);conv=>whnf
 refine And.intro (fun h3=>?_) (fun h3=>?_)
 ·(try dsimp only[awp]);conv=>whnf
  refine fM ?_;(conv=>whnf);refine ⟨?_,rfl⟩;conv=>whnf
  simp [inN,h3]
 (try dsimp only[awp]);conv=>whnf
 refine fM ?_;(conv=>whnf);refine ⟨?_,rfl⟩;conv=>whnf
 simp [inN,h1,h2,h3]

theorem c_Name21 (s : Str) : FnH Tryz.prog 166 [.str s] [] (.bool (nameR s)) []:=by
 have cl:=c_letter21 (s.getD 0 0).toNat
 obtain ⟨R,hR⟩ : ∃ R,AV.bool (nameR s) = R:=⟨_,rfl⟩
 rw [hR]
 refine FnH.intro lay mixed Tryz.func166 (by kernel_rfl) rfl (by kernel_rfl) rfl fun hok=>?_
 have hl : s.length ≤ 9223372036854775807:=by have:=hok.1; simpa [maxL,Ok] using this
 (try dsimp only[argC,succC]);(try dsimp only[awp]);conv=>whnf
 refine And.intro (fun h1=>?_) (fun h1=>?_)
 ·obtain rfl : R = .bool false:=by rw [← hR]; congr 1; unfold nameR; rw [decide_eq_false (show ¬ 0 < s.length by omega)]; rfl
  (try dsimp only[awp]);conv=>whnf
  refine fM ?_;(conv=>whnf);refine ⟨?_,rfl⟩;conv=>whnf
  all_goals exact wk
 have h1 : 0 < s.length:=by omega
 (try dsimp only[awp]);conv=>whnf
 refine And.intro (fun h2=>?_) (fun h2=>?_)
 ·obtain rfl : R = .bool false:=by rw [← hR]; congr 1; unfold nameR; rw [decide_eq_false (show ¬ s.length ≤ 24 by omega)]; simp
  (try dsimp only[awp]);conv=>whnf
  refine fM ?_;(conv=>whnf);refine ⟨?_,rfl⟩;conv=>whnf
  all_goals exact wk
 have h2 : s.length ≤ 24:=by omega
 (try dsimp only[awp]);conv=>whnf
 refine sidx0 h1 ?_
 (try dsimp only[awp]);conv=>whnf
 refine .pure _ _ ?_ ⟨rfl,rfl⟩ cl fun _=>?_
 ·exact leL_refl _
 (try dsimp only[awp]);conv=>whnf
 refine And.intro (fun h3=>?_) (fun h3=>?_)
 ·have h3 : letterN (s.getD 0 0).toNat = false:=by simpa using h3
  obtain rfl : R = .bool false:=by rw [← hR]; congr 1; unfold nameR; rw [h3]; simp
  (try dsimp only[awp]);conv=>whnf
  refine fM ?_;(conv=>whnf);refine ⟨?_,rfl⟩;conv=>whnf
  all_goals exact wk
 have h3 : letterN (s.getD 0 0).toNat = true:=by simpa using h3
 have hna : nameR s = s.all fun c=>inN c.toNat:=by unfold nameR; rw [decide_eq_true h1,decide_eq_true h2,h3]; rfl
 (try dsimp only[awp]);conv=>whnf
 refine LoopE.of <| LoopSpec.inv (.refl _ _) (fun (i : Nat)=>i ≤ s.length ∧ (s.take i).all (fun c=>inN c.toNat) = true) (fun (i : Nat)=>[(20,.int .i64 i)]) (fun _=>_) (fun (i : Nat)=>s.length - i) 0 ?_ (fun _=>rfl) ?_ ?_
 ·exact ⟨Nat.zero_le _,by simp⟩
 ·all_goals exact wk
 rintro i ⟨hi,hn⟩ _
 (try dsimp only[awp]);conv=>whnf
 refine And.intro (fun h=>?_) (fun h=>?_)
 ·have hlt : i < s.length:=by omega
  have hall:=all_take (p:=fun c : UInt8=>inN c.toNat) hlt
  have hmem:=List.getElem_mem hlt
  have cin:=c_inside s[i].toNat
  (try dsimp only[awp]);conv=>whnf
  refine sidx hlt ?_
  (try dsimp only[awp]);conv=>whnf
  refine .pure _ _ ?_ ⟨rfl,rfl⟩ cin fun _=>?_
  ·exact leL_refl _
  (try dsimp only[awp]);conv=>whnf
  refine And.intro (fun h4=>?_) (fun h4=>?_)
  ·have h4 : inN s[i].toNat = false:=by simpa using h4
   obtain rfl : R = .bool false:=by rw [← hR,hna,all_false (p:=fun c : UInt8=>inN c.toNat) hmem h4]
   (try dsimp only[awp]);conv=>whnf
   refine fM ?_;(conv=>whnf);refine ⟨?_,rfl⟩;conv=>whnf
   all_goals exact wk
  ·have h4 : inN s[i].toNat = true:=by simpa using h4
   (try dsimp only[awp]);conv=>whnf
   refine zA ?_;conv=>whnf
   refine ⟨i + 1,?_,?_,?_⟩
   ·exact ⟨hlt,by rw [hall,hn,h4]; rfl⟩
   ·all_goals exact wk
   ·omega
 ·have hil : i = s.length:=by omega
  rw [hil,List.take_length] at hn
  obtain rfl : R = .bool true:=by rw [← hR,hna,hn]
  (try dsimp only[awp]);conv=>whnf
  refine fM ?_;(conv=>whnf);refine ⟨?_,rfl⟩;conv=>whnf
  all_goals exact wk

theorem c_rrate (x : Rat) (hx : shortX x) : FnH Tryz.prog 168 [x.av] [] (.bool (rateB x)) []:=by
 have cv:=c_rValid x (by have:=hx.1; omega) (by have:=hx.2; omega)
 have cs:=c_rSign x (by have:=hx.1; omega) (by have:=hx.2; omega)
 refine FnH.intro lay mixed Tryz.func168 (by kernel_rfl) rfl (by kernel_rfl) rfl fun hok=>?_
 have w:=ratWs hok
 rw [signR_eq w.1] at cs
 (try dsimp only[argC,succC]);(try dsimp only[awp]);conv=>whnf
 refine .pure _ _ ?_ ⟨rfl,rfl⟩ cv fun _=>?_
 ·exact leL_refl _
 (try dsimp only[awp]);conv=>whnf
 refine And.intro (fun h1=>?_) (fun h1=>?_)
 ·(try dsimp only[awp]);conv=>whnf
  refine .pure _ _ ?_ ⟨rfl,rfl⟩ cs fun _=>?_
  ·exact leL_refl _
  (try dsimp only[awp]);conv=>whnf
  refine fM ?_;(conv=>whnf);refine ⟨?_,rfl⟩;conv=>whnf
  simp [rateB,h1]
 ·(try dsimp only[awp]);conv=>whnf
  refine fM ?_;(conv=>whnf);refine ⟨?_,rfl⟩;conv=>whnf
  simp [rateB,h1]

theorem c_rzero (r : Rat) : FnH Tryz.prog 173 [r.av] [] (.bool (zeroR r)) []:=by
 refine FnH.intro lay mixed Tryz.func173 (by kernel_rfl) rfl (by kernel_rfl) rfl fun hok=>?_
 (try dsimp only[argC,succC]);(try dsimp only[awp]);conv=>whnf
 refine And.intro (fun h=>?_) (fun h=>?_)
 all_goals
  (try dsimp only[awp]);conv=>whnf
  (repeat' (first|(refine aI (fun _=>?_) (fun _=>?_)<;>(conv=>whnf))|(refine ADraw.auto (by kernel_rfl) ?_;(conv=>whnf))|(refine fM ?_;(conv=>whnf);refine ⟨?_,rfl⟩;(conv=>whnf))|(refine aI (inr64 (by omega) (by omega)) ?_;(conv=>whnf))|(refine aI (by decide) ?_;(conv=>whnf))))
 all_goals (simp_all [zeroR]; done)


theorem c_rProbX (h1 : OneC) (x : Rat) (hx : shortX x) : FnH Tryz.prog 63 [x.av] [] (.bool (prob x)) []:=c_rProb h1 x (by have:=hx.1; omega) (by have:=hx.2; omega)

def firstR (m : Md) : Int:=if nameR m.name = false then 5 else if eventsErr m ≠ 0 then eventsErr m else pagesErr m

theorem c_first (h1 : OneC) (m : Md) (hX : MdX m) (hB : MdB m) (R : AV) (hR : R = .int .i64 (firstR m)) : FnH Tryz.prog 86 [m.av] [] R []:=by
 have ce:=fun s=>c_revent m s
 have ch:=fun s=>c_rhouse m s
 have cp:=fun s=>c_rpage m s
 have hpl:=hB.pages
 have hgl:=hB.gates.1
 refine FnH.intro lay mixed Tryz.func86 (by kernel_rfl) rfl (by kernel_rfl) rfl fun hok=>?_
 (try dsimp only[argC,succC]);(try dsimp only[awp]);conv=>whnf
 refine .pure _ _ ?_ ⟨rfl,rfl⟩ (c_Name21 m.name) fun _=>?_
 ·exact leL_refl _
 (try dsimp only[awp]);conv=>whnf
 refine And.intro (fun g0=>?_) (fun g0=>?_)
 ·have g0 : nameR m.name = false:=by simpa using g0
  obtain rfl : R = .int .i64 5:=by rw [hR,show firstR m = 5 from by unfold firstR; rw [if_pos g0]]
  (try dsimp only[awp]);conv=>whnf
  refine fM ?_;(conv=>whnf);refine ⟨?_,rfl⟩;conv=>whnf
  all_goals exact wk
 have g0 : ¬ nameR m.name = false:=by simpa using g0
 have ofE : ∀ e : Int,e ≠ 0 → eventsErr m = e → firstR m = e:=fun e he h=>by unfold firstR; rw [if_neg g0,h,if_pos he]
 (try dsimp only[awp]);conv=>whnf
 refine And.intro (fun n1=>?_) (fun n1=>?_)
 ·have n1 : 24 < m.evs.length:=by simp only [List.length_map] at n1; omega
  obtain rfl : R = .int .i64 4:=by rw [hR,show firstR m = 4 from by exact ofE 4 (by decide) (by unfold eventsErr; rw [if_pos n1])]
  (try dsimp only[awp]);conv=>whnf
  refine fM ?_;(conv=>whnf);refine ⟨?_,rfl⟩;conv=>whnf
  all_goals exact wk
 have n1 : ¬ 24 < m.evs.length:=by simp only [List.length_map] at n1; omega
 (try dsimp only[awp]);conv=>whnf
 refine LoopE.of <| LoopSpec.inv (.refl _ _) (fun (i : Nat)=>i ≤ m.evs.length ∧ errL (evErr m) 0 m.evs = errL (evErr m) i (m.evs.drop i)) (fun (i : Nat)=>[(23,.int .i64 i)]) (fun _=>_) (fun (i : Nat)=>m.evs.length - i) 0 ?_ (fun _=>rfl) ?_ ?_
 ·exact ⟨Nat.zero_le _,rfl⟩
 ·all_goals exact wk
 rintro i ⟨hi,hn⟩ _
 (try dsimp only[awp]);conv=>whnf
 refine And.intro (fun h=>?_) (fun h=>?_)
 ·have hlt : i < m.evs.length:=by simpa using h
  obtain ⟨rp,rf,rr⟩:=hX.evs _ (List.getElem_mem hlt)
  rw [errL_step hlt] at hn
  have cpr:=c_rProbX h1 _ rp
  have cf:=c_rrate _ rf
  have cr:=c_rrate _ rr
  have bad : ∀ e : Int,e ≠ 0 → evErr m i m.evs[i] = e → firstR m = e:=by
   intro e he h
   refine ofE e he ?_
   unfold eventsErr
   rw [h,if_pos he] at hn
   rw [if_neg n1,hn,if_pos he]
  (try dsimp only[awp]);conv=>whnf
  refine aidx hlt ?_
  generalize m.evs[i] = x at *
  (try dsimp only[awp]);conv=>whnf
  refine .pure _ _ ?_ ⟨rfl,rfl⟩ (c_Name21 x.name) fun _=>?_
  ·exact leL_refl _
  (try dsimp only[awp]);conv=>whnf
  refine And.intro (fun g1=>?_) (fun g1=>?_)
  ·have g1 : nameR x.name = false:=by simpa using g1
   obtain rfl : R = .int .i64 5:=by rw [hR,show firstR m = 5 from by exact bad 5 (by decide) (by unfold evErr; rw [if_pos g1])]
   (try dsimp only[awp]);conv=>whnf
   refine fM ?_;(conv=>whnf);refine ⟨?_,rfl⟩;conv=>whnf
   all_goals exact wk
  have g1 : ¬ nameR x.name = false:=by simpa using g1
  (try dsimp only[awp]);conv=>whnf
  refine .pure _ _ ?_ ⟨rfl,rfl⟩ (ce x.name) fun _=>?_
  ·exact leL_refl _
  (try dsimp only[awp]);conv=>whnf
  refine And.intro (fun g2=>?_) (fun g2=>?_)
  ·obtain rfl : R = .int .i64 6:=by rw [hR,show firstR m = 6 from by exact bad 6 (by decide) (by unfold evErr; rw [if_neg g1,if_pos g2])]
   (try dsimp only[awp]);conv=>whnf
   refine fM ?_;(conv=>whnf);refine ⟨?_,rfl⟩;conv=>whnf
   all_goals exact wk
  (try dsimp only[awp]);conv=>whnf
  refine .pure _ _ ?_ ⟨rfl,rfl⟩ cpr fun _=>?_
  ·exact leL_refl _
  (try dsimp only[awp]);conv=>whnf
  refine And.intro (fun g3=>?_) (fun g3=>?_)
  ·have g3 : prob x.p = false:=by simpa using g3
   (try dsimp only[awp]);conv=>whnf
   refine And.intro (fun _=>?_) (fun h=>by exfalso; simp [g3] at h)
   obtain rfl : R = .int .i64 3:=by rw [hR,show firstR m = 3 from by exact bad 3 (by decide) (by unfold evErr; rw [if_neg g1,if_neg g2,if_pos g3])]
   (try dsimp only[awp]);conv=>whnf
   refine fM ?_;(conv=>whnf);refine ⟨?_,rfl⟩;conv=>whnf
   all_goals exact wk
  have g3 : ¬ prob x.p = false:=by simpa using g3
  (try dsimp only[awp]);conv=>whnf
  refine .pure _ _ ?_ ⟨rfl,rfl⟩ cf fun _=>?_
  ·exact leL_refl _
  (try dsimp only[awp]);conv=>whnf
  refine And.intro (fun g4=>?_) (fun g4=>?_)
  ·have g4 : rateB x.fail = false:=by simpa using g4
   (try dsimp only[awp]);conv=>whnf
   refine And.intro (fun _=>?_) (fun h=>by exfalso; simp [g4] at h)
   obtain rfl : R = .int .i64 3:=by rw [hR,show firstR m = 3 from by exact bad 3 (by decide) (by unfold evErr; rw [if_neg g1,if_neg g2,if_neg g3,if_pos g4])]
   (try dsimp only[awp]);conv=>whnf
   refine fM ?_;(conv=>whnf);refine ⟨?_,rfl⟩;conv=>whnf
   all_goals exact wk
  have g4 : ¬ rateB x.fail = false:=by simpa using g4
  (try dsimp only[awp]);conv=>whnf
  refine .pure _ _ ?_ ⟨rfl,rfl⟩ cr fun _=>?_
  ·exact leL_refl _
  (try dsimp only[awp]);conv=>whnf
  refine And.intro (fun g5=>?_) (fun g5=>?_)
  ·have g5 : rateB x.repair = false:=by simpa using g5
   (try dsimp only[awp]);conv=>whnf
   refine And.intro (fun _=>?_) (fun h=>by exfalso; simp [g5] at h)
   obtain rfl : R = .int .i64 3:=by rw [hR,show firstR m = 3 from by exact bad 3 (by decide) (by unfold evErr; rw [if_neg g1,if_neg g2,if_neg g3,if_neg g4,if_pos g5])]
   (try dsimp only[awp]);conv=>whnf
   refine fM ?_;(conv=>whnf);refine ⟨?_,rfl⟩;conv=>whnf
   all_goals exact wk
  have g5 : ¬ rateB x.repair = false:=by simpa using g5
  (try dsimp only[awp]);conv=>whnf
  refine And.intro (fun g6=>?_) (fun g6=>?_)
  ·(try dsimp only[awp]);conv=>whnf
   refine And.intro (fun _=>?_) (fun h=>by exfalso; exact h g6)
   obtain rfl : R = .int .i64 3:=by rw [hR,show firstR m = 3 from by exact bad 3 (by decide) (by unfold evErr; rw [if_neg g1,if_neg g2,if_neg g3,if_neg g4,if_neg g5,if_pos g6])]
   (try dsimp only[awp]);conv=>whnf
   refine fM ?_;(conv=>whnf);refine ⟨?_,rfl⟩;conv=>whnf
   all_goals exact wk
  (try dsimp only[awp]);conv=>whnf
  refine And.intro (fun g7=>?_) (fun g7=>?_)
  ·obtain rfl : R = .int .i64 3:=by rw [hR,show firstR m = 3 from by exact bad 3 (by decide) (by unfold evErr; rw [if_neg g1,if_neg g2,if_neg g3,if_neg g4,if_neg g5,if_neg g6,if_pos g7])]
   (try dsimp only[awp]);conv=>whnf
   refine fM ?_;(conv=>whnf);refine ⟨?_,rfl⟩;conv=>whnf
   all_goals exact wk
  (try dsimp only[awp]);conv=>whnf
  refine zA ?_;conv=>whnf
  refine ⟨i + 1,?_,?_,?_⟩
  ·exact ⟨hlt,by rw [hn,if_neg (by rw [show evErr m i x = 0 from by unfold evErr; rw [if_neg g1,if_neg g2,if_neg g3,if_neg g4,if_neg g5,if_neg g6,if_neg g7]]; simp)]⟩
  ·refine ⟨?_,.mk ?_ ⟨by simp,trivial⟩⟩
   ·all_goals exact wk
   ·all_goals exact wk
  ·omega
 have hil : i = m.evs.length:=by have : ¬ i < m.evs.length:=by simpa using h
                                 omega
 rw [errL_end (by omega)] at hn
 clear h
 subst hil
 have e1 : ¬ errL (evErr m) 0 m.evs ≠ 0:=by rw [hn]; simp
 (try dsimp only[awp]);conv=>whnf
 refine And.intro (fun n2=>?_) (fun n2=>?_)
 ·have n2 : 16 < m.hs.length:=by simp only [List.length_map] at n2; omega
  obtain rfl : R = .int .i64 4:=by rw [hR,show firstR m = 4 from by exact ofE 4 (by decide) (by unfold eventsErr; rw [if_neg n1,if_neg e1,if_pos n2])]
  (try dsimp only[awp]);conv=>whnf
  refine fM ?_;(conv=>whnf);refine ⟨?_,rfl⟩;conv=>whnf
  all_goals exact wk
 have n2 : ¬ 16 < m.hs.length:=by simp only [List.length_map] at n2; omega
 clear hn hi
 (try dsimp only[awp]);conv=>whnf
 refine LoopE.of <| LoopSpec.inv (.refl _ _) (fun (i : Nat)=>i ≤ m.hs.length ∧ errL (hsErr m) 0 m.hs = errL (hsErr m) i (m.hs.drop i)) (fun (i : Nat)=>[(67,.int .i64 i)]) (fun _=>_) (fun (i : Nat)=>m.hs.length - i) 0 ?_ (fun _=>rfl) ?_ ?_
 ·exact ⟨Nat.zero_le _,rfl⟩
 ·all_goals exact wk
 rintro i ⟨hi,hn⟩ _
 (try dsimp only[awp]);conv=>whnf
 refine And.intro (fun h=>?_) (fun h=>?_)
 ·have hlt : i < m.hs.length:=by simpa using h
  rw [errL_step hlt] at hn
  have bad : ∀ e : Int,e ≠ 0 → hsErr m i m.hs[i] = e → firstR m = e:=by
   intro e he h
   refine ofE e he ?_
   unfold eventsErr
   rw [h,if_pos he] at hn
   rw [if_neg n1,if_neg e1,if_neg n2,hn]
  (try dsimp only[awp]);conv=>whnf
  refine aidx hlt ?_
  generalize m.hs[i] = x at *
  (try dsimp only[awp]);conv=>whnf
  refine .pure _ _ ?_ ⟨rfl,rfl⟩ (c_Name21 x.name) fun _=>?_
  ·exact leL_refl _
  (try dsimp only[awp]);conv=>whnf
  refine And.intro (fun g1=>?_) (fun g1=>?_)
  ·have g1 : nameR x.name = false:=by simpa using g1
   obtain rfl : R = .int .i64 5:=by rw [hR,show firstR m = 5 from by exact bad 5 (by decide) (by unfold hsErr; rw [if_pos g1])]
   (try dsimp only[awp]);conv=>whnf
   refine fM ?_;(conv=>whnf);refine ⟨?_,rfl⟩;conv=>whnf
   all_goals exact wk
  have g1 : ¬ nameR x.name = false:=by simpa using g1
  (try dsimp only[awp]);conv=>whnf
  refine .pure _ _ ?_ ⟨rfl,rfl⟩ (ce x.name) fun _=>?_
  ·exact leL_refl _
  (try dsimp only[awp]);conv=>whnf
  refine And.intro (fun g2=>?_) (fun g2=>?_)
  ·(try dsimp only[awp]);conv=>whnf
   refine And.intro (fun _=>?_) (fun h=>by exfalso; exact h g2)
   obtain rfl : R = .int .i64 6:=by rw [hR,show firstR m = 6 from by exact bad 6 (by decide) (by unfold hsErr; rw [if_neg g1,if_pos g2])]
   (try dsimp only[awp]);conv=>whnf
   refine fM ?_;(conv=>whnf);refine ⟨?_,rfl⟩;conv=>whnf
   all_goals exact wk
  (try dsimp only[awp]);conv=>whnf
  refine .pure _ _ ?_ ⟨rfl,rfl⟩ (ch x.name) fun _=>?_
  ·exact leL_refl _
  (try dsimp only[awp]);conv=>whnf
  refine And.intro (fun g3=>?_) (fun g3=>?_)
  ·obtain rfl : R = .int .i64 6:=by rw [hR,show firstR m = 6 from by exact bad 6 (by decide) (by unfold hsErr; rw [if_neg g1,if_neg g2,if_pos g3])]
   (try dsimp only[awp]);conv=>whnf
   refine fM ?_;(conv=>whnf);refine ⟨?_,rfl⟩;conv=>whnf
   all_goals exact wk
  (try dsimp only[awp]);conv=>whnf
  refine zA ?_;conv=>whnf
  refine ⟨i + 1,?_,?_,?_⟩
  ·exact ⟨hlt,by rw [hn,if_neg (by rw [show hsErr m i x = 0 from by unfold hsErr; rw [if_neg g1,if_neg g2,if_neg g3]]; simp)]⟩
  ·refine ⟨?_,.mk ?_ ⟨by simp,trivial⟩⟩
   ·all_goals exact wk
   ·all_goals exact wk
  ·omega
 have hil : i = m.hs.length:=by have : ¬ i < m.hs.length:=by simpa using h
                                omega
 rw [errL_end (by omega)] at hn
 have eE : eventsErr m = 0:=by unfold eventsErr; rw [if_neg n1,if_neg e1,if_neg n2,hn]
 have ofP : firstR m = pagesErr m:=by unfold firstR; rw [if_neg g0,if_neg (by rw [eE]; simp)]
 clear h hn hi ofE
 (try dsimp only[awp]);conv=>whnf
 refine LoopE.of <| LoopSpec.inv (.refl _ _) (fun (i : Nat)=>i ≤ m.pages.length) (fun (i : Nat)=>[(96,.int .i64 i),(7,.int .i64 ((m.pages.take i).foldl (fun n x=>n + x.gates.length) m.gates.length : Nat))]) (fun _=>_) (fun (i : Nat)=>m.pages.length - i) 0 ?_ (fun _=>rfl) ?_ ?_
 ·exact Nat.zero_le _
 ·repeat' first|exact rfl|exact trivial|exact wR|exact lR _|apply aI
  simp
 rintro i hi _
 (try dsimp only[awp]);conv=>whnf
 refine And.intro (fun h=>?_) (fun h=>?_)
 ·have hlt : i < m.pages.length:=by simpa using h
  have hs:=foldl_take (f:=fun (n : Nat) (x : Pg)=>n + x.gates.length) (s:=m.gates.length) hlt
  have hb:=total_le (m.pages.take i) m.gates.length fun p hp=>(hB.pgates p (List.mem_of_mem_take hp)).1
  rw [List.length_take] at hb
  have hx:=(hB.pgates _ (List.getElem_mem hlt)).1
  generalize (m.pages.take i).foldl (fun n x=>n + x.gates.length) m.gates.length = y at *
  (try dsimp only[awp]);conv=>whnf
  refine aidx hlt ?_
  generalize m.pages[i] = x at *
  (try dsimp only[awp]);conv=>whnf
  refine ⟨inr64 (by simp; omega) (by simp; omega),?_⟩
  (try dsimp only[awp]);conv=>whnf
  refine zA ?_;conv=>whnf
  refine ⟨i + 1,?_,?_,?_⟩
  ·exact hlt
  ·rw [hs]
   refine ⟨?_,.mk ?_ ⟨by simp,trivial⟩⟩
   ·repeat' first|exact rfl|exact trivial|exact wR|exact lR _|apply aI
    simp
   ·all_goals exact wk
  ·omega
 have hil : i = m.pages.length:=by have : ¬ i < m.pages.length:=by simpa using h
                                   omega
 subst hil
 rw [List.take_length,show m.pages.foldl (fun n x=>n + x.gates.length) m.gates.length = totalM m from rfl]
 (try dsimp only[awp]);conv=>whnf
 refine And.intro (fun p1=>?_) (fun p1=>?_)
 ·have p1 : 8 < m.pages.length:=by simp only [List.length_map] at p1; omega
  obtain rfl : R = .int .i64 4:=by rw [hR,show firstR m = 4 from by rw [ofP]; unfold pagesErr; rw [if_pos p1]]
  (try dsimp only[awp]);conv=>whnf
  refine fM ?_;(conv=>whnf);refine ⟨?_,rfl⟩;conv=>whnf
  all_goals exact wk
 have p1 : ¬ 8 < m.pages.length:=by simp only [List.length_map] at p1; omega
 (try dsimp only[awp]);conv=>whnf
 refine And.intro (fun p2=>?_) (fun p2=>?_)
 ·have p2 : 64 < totalM m:=by omega
  obtain rfl : R = .int .i64 4:=by rw [hR,show firstR m = 4 from by rw [ofP]; unfold pagesErr; rw [if_neg p1,if_pos p2]]
  (try dsimp only[awp]);conv=>whnf
  refine fM ?_;(conv=>whnf);refine ⟨?_,rfl⟩;conv=>whnf
  all_goals exact wk
 have p2 : ¬ 64 < totalM m:=by omega
 clear hi h
 (try dsimp only[awp]);conv=>whnf
 refine LoopE.of <| LoopSpec.inv (.refl _ _) (fun (i : Nat)=>i ≤ m.pages.length ∧ errL (pgErr m) 0 m.pages = errL (pgErr m) i (m.pages.drop i)) (fun (i : Nat)=>[(117,.int .i64 i)]) (fun _=>_) (fun (i : Nat)=>m.pages.length - i) 0 ?_ (fun _=>rfl) ?_ ?_
 ·exact ⟨Nat.zero_le _,rfl⟩
 ·all_goals exact wk
 rintro i ⟨hi,hn⟩ _
 (try dsimp only[awp]);conv=>whnf
 refine And.intro (fun h=>?_) (fun h=>?_)
 ·have hlt : i < m.pages.length:=by simpa using h
  rw [errL_step hlt] at hn
  have bad : ∀ e : Int,e ≠ 0 → pgErr m i m.pages[i] = e → firstR m = e:=by
   intro e he h
   rw [ofP]
   unfold pagesErr
   rw [h,if_pos he] at hn
   rw [if_neg p1,if_neg p2,hn]
  (try dsimp only[awp]);conv=>whnf
  refine aidx hlt ?_
  generalize m.pages[i] = x at *
  (try dsimp only[awp]);conv=>whnf
  refine .pure _ _ ?_ ⟨rfl,rfl⟩ (c_Name21 x.name) fun _=>?_
  ·exact leL_refl _
  (try dsimp only[awp]);conv=>whnf
  refine And.intro (fun g1=>?_) (fun g1=>?_)
  ·have g1 : nameR x.name = false:=by simpa using g1
   obtain rfl : R = .int .i64 5:=by rw [hR,show firstR m = 5 from by exact bad 5 (by decide) (by unfold pgErr; rw [if_pos g1])]
   (try dsimp only[awp]);conv=>whnf
   refine fM ?_;(conv=>whnf);refine ⟨?_,rfl⟩;conv=>whnf
   all_goals exact wk
  have g1 : ¬ nameR x.name = false:=by simpa using g1
  (try dsimp only[awp]);conv=>whnf
  refine .pure _ _ ?_ ⟨rfl,rfl⟩ (cp x.name) fun _=>?_
  ·exact leL_refl _
  (try dsimp only[awp]);conv=>whnf
  refine And.intro (fun g2=>?_) (fun g2=>?_)
  ·obtain rfl : R = .int .i64 6:=by rw [hR,show firstR m = 6 from by exact bad 6 (by decide) (by unfold pgErr; rw [if_neg g1,if_pos g2])]
   (try dsimp only[awp]);conv=>whnf
   refine fM ?_;(conv=>whnf);refine ⟨?_,rfl⟩;conv=>whnf
   all_goals exact wk
  (try dsimp only[awp]);conv=>whnf
  refine zA ?_;conv=>whnf
  refine ⟨i + 1,?_,?_,?_⟩
  ·exact ⟨hlt,by rw [hn,if_neg (by rw [show pgErr m i x = 0 from by unfold pgErr; rw [if_neg g1,if_neg g2]]; simp)]⟩
  ·refine ⟨?_,.mk ?_ ⟨by simp,trivial⟩⟩
   ·all_goals exact wk
   ·all_goals exact wk
  ·omega
 have hil : i = m.pages.length:=by have : ¬ i < m.pages.length:=by simpa using h
                                   omega
 rw [errL_end (by omega)] at hn
 obtain rfl : R = .int .i64 0:=by rw [hR,show firstR m = 0 from by rw [ofP]; unfold pagesErr; rw [if_neg p1,if_neg p2,hn]]
 (try dsimp only[awp]);conv=>whnf
 refine fM ?_;(conv=>whnf);refine ⟨?_,rfl⟩;conv=>whnf
 all_goals exact wk

theorem c_bounds22 (k : Int) (R : AV) (hR : R = .tup [.int .i64 (boundsR k).1,.int .i64 (boundsR k).2]) : FnH Tryz.prog 171 [.int .i64 k] [] R []:=by
 obtain ⟨x,hx⟩ : ∃ x,boundsR k = x:=⟨_,rfl⟩
 rw [hx] at hR
 subst hR
 refine FnH.intro lay mixed Tryz.func171 (by kernel_rfl) rfl (by kernel_rfl) rfl fun hok=>?_
 (try dsimp only[argC,succC]);(try dsimp only[awp]);conv=>whnf
 repeat' (first | (refine And.intro (fun _=>?_) (fun _=>?_) <;> ((try dsimp only[awp]);(conv=>whnf))))
 all_goals
  refine fM ?_;(conv=>whnf);refine ⟨?_,rfl⟩;conv=>whnf
  try simp_all [boundsR]
 all_goals
  subst hx
  all_goals exact wk






theorem bounds_zero (k : Int) : (boundsR k).2 = 0 ↔ (k < 0 ∨ 8 < k):=by
 unfold boundsR
 split
 ·constructor
  ·intro h; cases h
  ·intro h; omega
 split
 ·constructor
  ·intro h; cases h
  ·intro h; omega
 split
 ·constructor
  ·intro h; cases h
  ·intro h; omega
 split
 ·constructor
  ·intro h; cases h
  ·intro h; omega
 ·constructor
  ·intro _; omega
  ·intro _; rfl

theorem bounds_args {k n : Int} (h : (boundsR k).2 ≠ 0) : argsR k n = (decide ((boundsR k).1 ≤ n) && decide (n ≤ (boundsR k).2)):=by
 have h0 : ¬ (k < 0 ∨ 8 < k):=fun e=>h ((bounds_zero k).2 e)
 unfold boundsR at *
 unfold argsR
 by_cases h3 : k = 3
 ·subst h3; rw [Bool.eq_iff_iff]; simp; omega
 rw [if_neg h3]
 by_cases h5 : k = 5
 ·subst h5; rw [Bool.eq_iff_iff]; simp; omega
 rw [if_neg h5]
 by_cases h6 : k = 6 ∨ k = 7 ∨ k = 8
 ·rw [if_pos h6,if_neg (by omega),if_neg h3,if_neg h5,if_pos h6]
  simp
 ·rw [if_neg h6,if_pos (by omega)]
  simp

end S
