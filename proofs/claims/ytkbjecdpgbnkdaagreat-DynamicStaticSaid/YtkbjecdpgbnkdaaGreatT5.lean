/-
  Contracts of functions of the program, over the logic of the texts before. Nothing is assumed.
-/
import Derived.Test.YtkbjecdpgbnkdaaGreatT4

open Go Go.AL Go.Proofs
namespace S
set_option maxRecDepth 100000

def errL {α : Type} (f : Nat → α → Int) : Nat → List α → Int
 | _,[]=>0
 | i,x :: l=>if f i x ≠ 0 then f i x else errL f (i + 1) l

theorem errL_step {α : Type} {f : Nat → α → Int} {l : List α} {i : Nat} (h : i < l.length) : errL f i (l.drop i) = if f i l[i] ≠ 0 then f i l[i] else errL f (i + 1) (l.drop (i + 1)):=by
 rw [List.drop_eq_getElem_cons h]; rfl

theorem errL_end {α : Type} {f : Nat → α → Int} {l : List α} {i : Nat} (h : l.length ≤ i) : errL f i (l.drop i) = 0:=by
 rw [List.drop_eq_nil_of_le h]; rfl

theorem errL_zero {α : Type} {f : Nat → α → Int} : ∀ {l : List α} {i : Nat},errL f i l = 0 ↔ ∀ (k : Nat) (h : k < l.length),f (i + k) l[k] = 0
 | [],i=>by simp [errL]
 | x :: l,i=>by
   simp only [errL]
   split
   ·rename_i h
    constructor
    ·intro h2; exact absurd h2 h
    ·intro h2; exact absurd (h2 0 (by simp)) h
   ·rename_i h
    have h : f i x = 0:=by simpa using h
    rw [errL_zero (l:=l) (i:=i + 1)]
    constructor
    ·intro h2 k hk
     cases k with
     | zero=>exact h
     | succ k=>have:=h2 k (by simpa using hk); rw [show i + (k + 1) = i + 1 + k by omega]; simpa using this
    ·intro h2 k hk
     have:=h2 (k + 1) (by simpa using hk)
     rw [show i + 1 + k = i + (k + 1) by omega]; simpa using this

def mgC (l : List Mg) : Prop:=∀ x ∈ l,RatC x.dorm

structure MdC (m : Md) : Prop where
 evs : ∀ x ∈ m.evs,RatC x.p ∧ RatC x.fail ∧ RatC x.repair
 gates : mgC m.gates
 pages : ∀ x ∈ m.pages,mgC x.gates
 grs : ∀ x ∈ m.grs,∀ f ∈ x.fac,RatC f
 phs : ∀ x ∈ m.phs,∀ v ∈ x.vals,RatC v.p

def evErr (m : Md) (i : Nat) (x : Ev) : Int :=
 if nameR x.name = false then 5 else if i_event m.evs x.name < i then 6
 else if prob x.p = false then 3 else if rateB x.fail = false then 3 else if rateB x.repair = false then 3 else if x.cost < 0 then 3 else if 1073741824 < x.cost then 3 else 0

def hsErr (m : Md) (i : Nat) (x : Hs) : Int :=
 if nameR x.name = false then 5 else if 0 ≤ i_event m.evs x.name then 6 else if i_house m.hs x.name < i then 6 else 0

def eventsErr (m : Md) : Int :=
 if 24 < m.evs.length then 4 else if errL (evErr m) 0 m.evs ≠ 0 then errL (evErr m) 0 m.evs
 else if 16 < m.hs.length then 4 else errL (hsErr m) 0 m.hs

theorem errAV_bnd (e : Int) : bndB 0 (errAV e) = true:=by unfold errAV; split <;> rfl

theorem c_checkEvents (m : Md) (hC : MdC m) (R : AV) (hR : R = errAV (eventsErr m)) : FnH Tryz.prog 109 [m.av] [] R []:=by
 have ce:=fun s=>c_event m s
 have ch:=fun s=>c_house m s
 refine FnH.intro lay mixed Tryz.func109 (by kernel_rfl) rfl (by kernel_rfl) rfl fun hok=>?_
 (try dsimp only[argC,succC]);(try dsimp only[awp]);conv=>whnf
 refine And.intro (fun h1=>?_) (fun h1=>?_)
 ·have h1 : 24 < m.evs.length:=by simp only [List.length_map] at h1; omega
  obtain rfl : R = .ifc 111 (.int .i64 4):=by rw [hR,show eventsErr m = 4 from by unfold eventsErr; rw [if_pos h1]]; rfl
  (try dsimp only[awp]);conv=>whnf
  refine fM ?_;(conv=>whnf);refine ⟨?_,rfl⟩;conv=>whnf
  all_goals exact wk
 have h1 : ¬ 24 < m.evs.length:=by simp only [List.length_map] at h1; omega
 (try dsimp only[awp]);conv=>whnf
 refine LoopE.of <| LoopSpec.inv (.refl _ _) (fun (i : Nat)=>i ≤ m.evs.length ∧ errL (evErr m) 0 m.evs = errL (evErr m) i (m.evs.drop i)) (fun (i : Nat)=>[(15,.int .i64 i)]) (fun _=>_) (fun (i : Nat)=>m.evs.length - i) 0 ?_ (fun _=>rfl) ?_ ?_
 ·exact ⟨Nat.zero_le _,rfl⟩
 ·all_goals exact wk
 rintro i ⟨hi,hn⟩ _
 (try dsimp only[awp]);conv=>whnf
 refine And.intro (fun h=>?_) (fun h=>?_)
 ·have hlt : i < m.evs.length:=by simpa using h
  obtain ⟨rp,rf,rr⟩:=hC.evs _ (List.getElem_mem hlt)
  rw [errL_step hlt] at hn
  have cf:=c_rate _ rf
  have cr:=c_rate _ rr
  have bad : ∀ e : Int,e ≠ 0 → evErr m i m.evs[i] = e → eventsErr m = e:=by
   intro e he h
   unfold eventsErr
   rw [h,if_pos he] at hn
   rw [if_neg h1,hn,if_pos he]
  (try dsimp only[awp]);conv=>whnf
  refine aidx hlt ?_
  generalize m.evs[i] = x at *
  (try dsimp only[awp]);conv=>whnf
  refine .pure _ _ ?_ ⟨rfl,rfl⟩ (c_tokenName x.name) fun _=>?_
  ·exact leL_refl _
  (try dsimp only[awp]);conv=>whnf
  refine And.intro (fun g1=>?_) (fun g1=>?_)
  ·have g1 : nameR x.name = false:=by simpa using g1
   obtain rfl : R = .ifc 111 (.int .i64 5):=by rw [hR,show eventsErr m = 5 from by exact bad 5 (by decide) (by unfold evErr; rw [if_pos g1])]; rfl
   (try dsimp only[awp]);conv=>whnf
   refine fM ?_;(conv=>whnf);refine ⟨?_,rfl⟩;conv=>whnf
   all_goals exact wk
  have g1 : ¬ nameR x.name = false:=by simpa using g1
  (try dsimp only[awp]);conv=>whnf
  refine .pure _ _ ?_ ⟨rfl,rfl⟩ (ce x.name) fun _=>?_
  ·exact leL_refl _
  (try dsimp only[awp]);conv=>whnf
  refine And.intro (fun g2=>?_) (fun g2=>?_)
  ·obtain rfl : R = .ifc 111 (.int .i64 6):=by rw [hR,show eventsErr m = 6 from by exact bad 6 (by decide) (by unfold evErr; rw [if_neg g1,if_pos g2])]; rfl
   (try dsimp only[awp]);conv=>whnf
   refine fM ?_;(conv=>whnf);refine ⟨?_,rfl⟩;conv=>whnf
   all_goals exact wk
  (try dsimp only[awp]);conv=>whnf
  refine .pure _ _ ?_ ⟨rfl,rfl⟩ rp.p fun _=>?_
  ·exact leL_refl _
  (try dsimp only[awp]);conv=>whnf
  refine And.intro (fun g3=>?_) (fun g3=>?_)
  ·have g3 : prob x.p = false:=by simpa using g3
   obtain rfl : R = .ifc 111 (.int .i64 3):=by rw [hR,show eventsErr m = 3 from by exact bad 3 (by decide) (by unfold evErr; rw [if_neg g1,if_neg g2,if_pos g3])]; rfl
   (try dsimp only[awp]);conv=>whnf
   refine fM ?_;(conv=>whnf);refine ⟨?_,rfl⟩;conv=>whnf
   all_goals exact wk
  have g3 : ¬ prob x.p = false:=by simpa using g3
  (try dsimp only[awp]);conv=>whnf
  refine .pure _ _ ?_ ⟨rfl,rfl⟩ cf fun _=>?_
  ·exact leL_refl _
  (try dsimp only[awp]);conv=>whnf
  refine And.intro (fun g4=>?_) (fun g4=>?_)
  ·have g4 : rateB x.fail = false:=by simpa using g4
   obtain rfl : R = .ifc 111 (.int .i64 3):=by rw [hR,show eventsErr m = 3 from by exact bad 3 (by decide) (by unfold evErr; rw [if_neg g1,if_neg g2,if_neg g3,if_pos g4])]; rfl
   (try dsimp only[awp]);conv=>whnf
   refine fM ?_;(conv=>whnf);refine ⟨?_,rfl⟩;conv=>whnf
   all_goals exact wk
  have g4 : ¬ rateB x.fail = false:=by simpa using g4
  (try dsimp only[awp]);conv=>whnf
  refine .pure _ _ ?_ ⟨rfl,rfl⟩ cr fun _=>?_
  ·exact leL_refl _
  (try dsimp only[awp]);conv=>whnf
  refine And.intro (fun g5=>?_) (fun g5=>?_)
  ·have g5 : rateB x.repair = false:=by simpa using g5
   obtain rfl : R = .ifc 111 (.int .i64 3):=by rw [hR,show eventsErr m = 3 from by exact bad 3 (by decide) (by unfold evErr; rw [if_neg g1,if_neg g2,if_neg g3,if_neg g4,if_pos g5])]; rfl
   (try dsimp only[awp]);conv=>whnf
   refine fM ?_;(conv=>whnf);refine ⟨?_,rfl⟩;conv=>whnf
   all_goals exact wk
  have g5 : ¬ rateB x.repair = false:=by simpa using g5
  (try dsimp only[awp]);conv=>whnf
  refine And.intro (fun g6=>?_) (fun g6=>?_)
  ·obtain rfl : R = .ifc 111 (.int .i64 3):=by rw [hR,show eventsErr m = 3 from by exact bad 3 (by decide) (by unfold evErr; rw [if_neg g1,if_neg g2,if_neg g3,if_neg g4,if_neg g5,if_pos g6])]; rfl
   (try dsimp only[awp]);conv=>whnf
   refine fM ?_;(conv=>whnf);refine ⟨?_,rfl⟩;conv=>whnf
   all_goals exact wk
  (try dsimp only[awp]);conv=>whnf
  refine And.intro (fun g7=>?_) (fun g7=>?_)
  ·obtain rfl : R = .ifc 111 (.int .i64 3):=by rw [hR,show eventsErr m = 3 from by exact bad 3 (by decide) (by unfold evErr; rw [if_neg g1,if_neg g2,if_neg g3,if_neg g4,if_neg g5,if_neg g6,if_pos g7])]; rfl
   (try dsimp only[awp]);conv=>whnf
   refine fM ?_;(conv=>whnf);refine ⟨?_,rfl⟩;conv=>whnf
   all_goals exact wk
  (try dsimp only[awp]);conv=>whnf
  refine zA ?_;conv=>whnf
  refine ⟨i + 1,?_,?_,?_⟩
  ·exact ⟨hlt,by rw [hn,if_neg (by rw [show evErr m i x = 0 from by unfold evErr; rw [if_neg g1,if_neg g2,if_neg g3,if_neg g4,if_neg g5,if_neg g6,if_neg g7]]; simp)]⟩
  ·refine ⟨?_,.mk ?_ ⟨by simp,trivial⟩⟩
   ·all_goals exact wk
   ·all_goals exact wk
  ·omega
 have hil : i = m.evs.length:=by have : ¬ i < m.evs.length:=by simpa using h
                                 omega
 rw [errL_end (by omega)] at hn
 clear h
 subst hil
 have e1 : ¬ errL (evErr m) 0 m.evs ≠ 0:=by rw [hn]; simp
 (try dsimp only[awp]);conv=>whnf
 refine And.intro (fun h2=>?_) (fun h2=>?_)
 ·have h2 : 16 < m.hs.length:=by simp only [List.length_map] at h2; omega
  obtain rfl : R = .ifc 111 (.int .i64 4):=by rw [hR,show eventsErr m = 4 from by unfold eventsErr; rw [if_neg h1,if_neg e1,if_pos h2]]; rfl
  (try dsimp only[awp]);conv=>whnf
  refine fM ?_;(conv=>whnf);refine ⟨?_,rfl⟩;conv=>whnf
  all_goals exact wk
 have h2 : ¬ 16 < m.hs.length:=by simp only [List.length_map] at h2; omega
 clear hn hi
 (try dsimp only[awp]);conv=>whnf
 refine LoopE.of <| LoopSpec.inv (.refl _ _) (fun (i : Nat)=>i ≤ m.hs.length ∧ errL (hsErr m) 0 m.hs = errL (hsErr m) i (m.hs.drop i)) (fun (i : Nat)=>[(71,.int .i64 i)]) (fun _=>_) (fun (i : Nat)=>m.hs.length - i) 0 ?_ (fun _=>rfl) ?_ ?_
 ·exact ⟨Nat.zero_le _,rfl⟩
 ·all_goals exact wk
 rintro i ⟨hi,hn⟩ _
 (try dsimp only[awp]);conv=>whnf
 refine And.intro (fun h=>?_) (fun h=>?_)
 ·have hlt : i < m.hs.length:=by simpa using h
  rw [errL_step hlt] at hn
  have bad : ∀ e : Int,e ≠ 0 → hsErr m i m.hs[i] = e → eventsErr m = e:=by
   intro e he h
   unfold eventsErr
   rw [h,if_pos he] at hn
   rw [if_neg h1,if_neg e1,if_neg h2,hn]
  (try dsimp only[awp]);conv=>whnf
  refine aidx hlt ?_
  generalize m.hs[i] = x at *
  (try dsimp only[awp]);conv=>whnf
  refine .pure _ _ ?_ ⟨rfl,rfl⟩ (c_tokenName x.name) fun _=>?_
  ·exact leL_refl _
  (try dsimp only[awp]);conv=>whnf
  refine And.intro (fun g1=>?_) (fun g1=>?_)
  ·have g1 : nameR x.name = false:=by simpa using g1
   obtain rfl : R = .ifc 111 (.int .i64 5):=by rw [hR,show eventsErr m = 5 from by exact bad 5 (by decide) (by unfold hsErr; rw [if_pos g1])]; rfl
   (try dsimp only[awp]);conv=>whnf
   refine fM ?_;(conv=>whnf);refine ⟨?_,rfl⟩;conv=>whnf
   all_goals exact wk
  have g1 : ¬ nameR x.name = false:=by simpa using g1
  (try dsimp only[awp]);conv=>whnf
  refine .pure _ _ ?_ ⟨rfl,rfl⟩ (ce x.name) fun _=>?_
  ·exact leL_refl _
  (try dsimp only[awp]);conv=>whnf
  refine And.intro (fun g2=>?_) (fun g2=>?_)
  ·obtain rfl : R = .ifc 111 (.int .i64 6):=by rw [hR,show eventsErr m = 6 from by exact bad 6 (by decide) (by unfold hsErr; rw [if_neg g1,if_pos g2])]; rfl
   (try dsimp only[awp]);conv=>whnf
   refine fM ?_;(conv=>whnf);refine ⟨?_,rfl⟩;conv=>whnf
   all_goals exact wk
  (try dsimp only[awp]);conv=>whnf
  refine .pure _ _ ?_ ⟨rfl,rfl⟩ (ch x.name) fun _=>?_
  ·exact leL_refl _
  (try dsimp only[awp]);conv=>whnf
  refine And.intro (fun g3=>?_) (fun g3=>?_)
  ·obtain rfl : R = .ifc 111 (.int .i64 6):=by rw [hR,show eventsErr m = 6 from by exact bad 6 (by decide) (by unfold hsErr; rw [if_neg g1,if_neg g2,if_pos g3])]; rfl
   (try dsimp only[awp]);conv=>whnf
   refine fM ?_;(conv=>whnf);refine ⟨?_,rfl⟩;conv=>whnf
   all_goals exact wk
  (try dsimp only[awp]);conv=>whnf
  refine zA ?_;conv=>whnf
  refine ⟨i + 1,?_,?_,?_⟩
  ·exact ⟨hlt,by rw [hn,if_neg (by rw [show hsErr m i x = 0 from by unfold hsErr; rw [if_neg g1,if_neg g2,if_neg g3]]; simp)]⟩
  ·refine ⟨?_,.mk ?_ ⟨by simp,trivial⟩⟩
   ·all_goals exact wk
   ·all_goals exact wk
  ·omega
 have hil : i = m.hs.length:=by have : ¬ i < m.hs.length:=by simpa using h
                                omega
 rw [errL_end (by omega)] at hn
 obtain rfl : R = .nilI:=by rw [hR,show eventsErr m = 0 from by unfold eventsErr; rw [if_neg h1,if_neg e1,if_neg h2,hn]]; rfl
 (try dsimp only[awp]);conv=>whnf
 refine fM ?_;(conv=>whnf);refine ⟨?_,rfl⟩;conv=>whnf
 all_goals exact wk

structure MdB (m : Md) : Prop where
 evs : m.evs.length ≤ 60
 hs : m.hs.length ≤ 60
 gates : m.gates.length ≤ 100 ∧ ∀ x ∈ m.gates,x.ins.length ≤ 40
 pages : m.pages.length ≤ 30
 pgates : ∀ p ∈ m.pages,p.gates.length ≤ 100 ∧ ∀ x ∈ p.gates,x.ins.length ≤ 40
 grs : m.grs.length ≤ 30
 mem : ∀ g ∈ m.grs,g.mem.length ≤ 60 ∧ g.fac.length ≤ 60
 phs : m.phs.length ≤ 30
 vals : ∀ p ∈ m.phs,p.vals.length ≤ 60

def totalM (m : Md) : Nat:=m.pages.foldl (fun n x=>n + x.gates.length) m.gates.length

theorem total_le : ∀ (l : List Pg) (n : Nat),(∀ p ∈ l,p.gates.length ≤ 100) → l.foldl (fun n x=>n + x.gates.length) n ≤ n + 100 * l.length
 | [],n,_=>by simp
 | p :: l,n,h=>by
   have h1:=h p (by simp)
   have h2:=total_le l (n + p.gates.length) fun q hq=>h q (by simp [hq])
   simp only [List.foldl_cons,List.length_cons]
   omega

def pgErr (m : Md) (i : Nat) (x : Pg) : Int:=if nameR x.name = false then 5 else if i_page m.pages x.name < i then 6 else 0

def pagesErr (m : Md) : Int:=if 8 < m.pages.length then 4 else if 64 < totalM m then 4 else errL (pgErr m) 0 m.pages

theorem c_checkPages (m : Md) (hB : MdB m) (R : AV) (hR : R = errAV (pagesErr m)) : FnH Tryz.prog 110 [m.av] [] R []:=by
 have cp:=fun s=>c_page m s
 have hpl:=hB.pages
 have hgl:=hB.gates.1
 refine FnH.intro lay mixed Tryz.func110 (by kernel_rfl) rfl (by kernel_rfl) rfl fun hok=>?_
 (try dsimp only[argC,succC]);(try dsimp only[awp]);conv=>whnf
 refine LoopE.of <| LoopSpec.inv (.refl _ _) (fun (i : Nat)=>i ≤ m.pages.length) (fun (i : Nat)=>[(14,.int .i64 i),(3,.int .i64 ((m.pages.take i).foldl (fun n x=>n + x.gates.length) m.gates.length : Nat))]) (fun _=>_) (fun (i : Nat)=>m.pages.length - i) 0 ?_ (fun _=>rfl) ?_ ?_
 ·exact Nat.zero_le _
 ·repeat' first|exact rfl|exact trivial|exact wR|exact lR _|apply aI
  simp
 rintro i hi _
 (try dsimp only[awp]);conv=>whnf
 refine And.intro (fun h=>?_) (fun h=>?_)
 ·have hlt : i < m.pages.length:=by simpa using h
  have hs:=foldl_take (f:=fun (n : Nat) (x : Pg)=>n + x.gates.length) (s:=m.gates.length) hlt
  have hb:=total_le (m.pages.take i) m.gates.length fun p hp=>(hB.pgates p (List.mem_of_mem_take hp)).1
  rw [List.length_take] at hb
  have hx:=(hB.pgates _ (List.getElem_mem hlt)).1
  generalize (m.pages.take i).foldl (fun n x=>n + x.gates.length) m.gates.length = y at *
  (try dsimp only[awp]);conv=>whnf
  refine aidx hlt ?_
  generalize m.pages[i] = x at *
  (try dsimp only[awp]);conv=>whnf
  refine ⟨inr64 (by simp; omega) (by simp; omega),?_⟩
  (try dsimp only[awp]);conv=>whnf
  refine zA ?_;conv=>whnf
  refine ⟨i + 1,?_,?_,?_⟩
  ·exact hlt
  ·rw [hs]
   refine ⟨?_,.mk ?_ ⟨by simp,trivial⟩⟩
   ·repeat' first|exact rfl|exact trivial|exact wR|exact lR _|apply aI
    simp
   ·all_goals exact wk
  ·omega
 have hil : i = m.pages.length:=by have : ¬ i < m.pages.length:=by simpa using h
                                   omega
 subst hil
 rw [List.take_length,show m.pages.foldl (fun n x=>n + x.gates.length) m.gates.length = totalM m from rfl]
 (try dsimp only[awp]);conv=>whnf
 refine And.intro (fun h1=>?_) (fun h1=>?_)
 ·have h1 : 8 < m.pages.length:=by simp only [List.length_map] at h1; omega
  obtain rfl : R = .ifc 111 (.int .i64 4):=by rw [hR,show pagesErr m = 4 from by unfold pagesErr; rw [if_pos h1]]; rfl
  (try dsimp only[awp]);conv=>whnf
  refine fM ?_;(conv=>whnf);refine ⟨?_,rfl⟩;conv=>whnf
  all_goals exact wk
 have h1 : ¬ 8 < m.pages.length:=by simp only [List.length_map] at h1; omega
 (try dsimp only[awp]);conv=>whnf
 refine And.intro (fun h2=>?_) (fun h2=>?_)
 ·have h2 : 64 < totalM m:=by omega
  obtain rfl : R = .ifc 111 (.int .i64 4):=by rw [hR,show pagesErr m = 4 from by unfold pagesErr; rw [if_neg h1,if_pos h2]]; rfl
  (try dsimp only[awp]);conv=>whnf
  refine fM ?_;(conv=>whnf);refine ⟨?_,rfl⟩;conv=>whnf
  all_goals exact wk
 have h2 : ¬ 64 < totalM m:=by omega
 clear hi h
 (try dsimp only[awp]);conv=>whnf
 refine LoopE.of <| LoopSpec.inv (.refl _ _) (fun (i : Nat)=>i ≤ m.pages.length ∧ errL (pgErr m) 0 m.pages = errL (pgErr m) i (m.pages.drop i)) (fun (i : Nat)=>[(36,.int .i64 i)]) (fun _=>_) (fun (i : Nat)=>m.pages.length - i) 0 ?_ (fun _=>rfl) ?_ ?_
 ·exact ⟨Nat.zero_le _,rfl⟩
 ·all_goals exact wk
 rintro i ⟨hi,hn⟩ _
 (try dsimp only[awp]);conv=>whnf
 refine And.intro (fun h=>?_) (fun h=>?_)
 ·have hlt : i < m.pages.length:=by simpa using h
  rw [errL_step hlt] at hn
  have bad : ∀ e : Int,e ≠ 0 → pgErr m i m.pages[i] = e → pagesErr m = e:=by
   intro e he h
   unfold pagesErr
   rw [h,if_pos he] at hn
   rw [if_neg h1,if_neg h2,hn]
  (try dsimp only[awp]);conv=>whnf
  refine aidx hlt ?_
  generalize m.pages[i] = x at *
  (try dsimp only[awp]);conv=>whnf
  refine .pure _ _ ?_ ⟨rfl,rfl⟩ (c_tokenName x.name) fun _=>?_
  ·exact leL_refl _
  (try dsimp only[awp]);conv=>whnf
  refine And.intro (fun g1=>?_) (fun g1=>?_)
  ·have g1 : nameR x.name = false:=by simpa using g1
   obtain rfl : R = .ifc 111 (.int .i64 5):=by rw [hR,show pagesErr m = 5 from by exact bad 5 (by decide) (by unfold pgErr; rw [if_pos g1])]; rfl
   (try dsimp only[awp]);conv=>whnf
   refine fM ?_;(conv=>whnf);refine ⟨?_,rfl⟩;conv=>whnf
   all_goals exact wk
  have g1 : ¬ nameR x.name = false:=by simpa using g1
  (try dsimp only[awp]);conv=>whnf
  refine .pure _ _ ?_ ⟨rfl,rfl⟩ (cp x.name) fun _=>?_
  ·exact leL_refl _
  (try dsimp only[awp]);conv=>whnf
  refine And.intro (fun g2=>?_) (fun g2=>?_)
  ·obtain rfl : R = .ifc 111 (.int .i64 6):=by rw [hR,show pagesErr m = 6 from by exact bad 6 (by decide) (by unfold pgErr; rw [if_neg g1,if_pos g2])]; rfl
   (try dsimp only[awp]);conv=>whnf
   refine fM ?_;(conv=>whnf);refine ⟨?_,rfl⟩;conv=>whnf
   all_goals exact wk
  (try dsimp only[awp]);conv=>whnf
  refine zA ?_;conv=>whnf
  refine ⟨i + 1,?_,?_,?_⟩
  ·exact ⟨hlt,by rw [hn,if_neg (by rw [show pgErr m i x = 0 from by unfold pgErr; rw [if_neg g1,if_neg g2]]; simp)]⟩
  ·refine ⟨?_,.mk ?_ ⟨by simp,trivial⟩⟩
   ·all_goals exact wk
   ·all_goals exact wk
  ·omega
 have hil : i = m.pages.length:=by have : ¬ i < m.pages.length:=by simpa using h
                                   omega
 rw [errL_end (by omega)] at hn
 obtain rfl : R = .nilI:=by rw [hR,show pagesErr m = 0 from by unfold pagesErr; rw [if_neg h1,if_neg h2,hn]]; rfl
 (try dsimp only[awp]);conv=>whnf
 refine fM ?_;(conv=>whnf);refine ⟨?_,rfl⟩;conv=>whnf
 all_goals exact wk

theorem c_minputs (kind n : Int) : FnH Tryz.prog 260 [.int .i64 kind,.int .i64 n] [] (.bool (argsR kind n)) []:=by
 refine FnH.intro lay mixed Tryz.func260 (by kernel_rfl) rfl (by kernel_rfl) rfl fun hok=>?_
 (try dsimp only[argC,succC]);(try dsimp only[awp]);conv=>whnf
 (repeat' (first|(refine aI (fun _=>?_) (fun _=>?_)<;>(conv=>whnf))|(refine ADraw.auto (by kernel_rfl) ?_;(conv=>whnf))|(refine fM ?_;(conv=>whnf);refine ⟨?_,rfl⟩;(conv=>whnf))|(refine aI (inr64 (by omega) (by omega)) ?_;(conv=>whnf))|(refine aI (by decide) ?_;(conv=>whnf))))
 all_goals first | (simp_all [argsR]; done) | (simp_all [argsR]; omega)

theorem c_mzero (r : Rat) : FnH Tryz.prog 261 [r.av] [] (.bool (zeroR r)) []:=by
 refine FnH.intro lay mixed Tryz.func261 (by kernel_rfl) rfl (by kernel_rfl) rfl fun hok=>?_
 (try dsimp only[argC,succC]);(try dsimp only[awp]);conv=>whnf
 refine And.intro (fun h=>?_) (fun h=>?_)
 all_goals
  (try dsimp only[awp]);conv=>whnf
  (repeat' (first|(refine aI (fun _=>?_) (fun _=>?_)<;>(conv=>whnf))|(refine ADraw.auto (by kernel_rfl) ?_;(conv=>whnf))|(refine fM ?_;(conv=>whnf);refine ⟨?_,rfl⟩;(conv=>whnf))|(refine aI (inr64 (by omega) (by omega)) ?_;(conv=>whnf))|(refine aI (by decide) ?_;(conv=>whnf))))
 all_goals (simp_all [zeroR]; done)

def mgErr (g : Mg) : Int :=
 if g.kind < 0 then 7 else if 8 < g.kind then 7
 else if argsR g.kind g.ins.length = false then 11
 else if g.kind = 2 ∧ (g.k < 1 ∨ (g.ins.length : Int) < g.k) then 3
 else if g.kind ≠ 2 ∧ g.k ≠ 0 then 2
 else if g.kind = 7 ∧ prob g.dorm = false then 3
 else if g.kind ≠ 7 ∧ zeroR g.dorm = false then 2
 else 0

theorem c_mcheckGate (g : Mg) (hr : RatC g.dorm) (R : AV) (hR : R = errAV (mgErr g)) : FnH Tryz.prog 206 [g.av] [] R []:=by
 have ca:=c_minputs g.kind g.ins.length
 refine FnH.intro lay mixed Tryz.func206 (by kernel_rfl) rfl (by kernel_rfl) rfl fun hok=>?_
 (try dsimp only[argC,succC]);(try dsimp only[awp]);conv=>whnf
 refine And.intro (fun n1=>?_) (fun n1=>?_)
 ·obtain rfl : R = .ifc 111 (.int .i64 7):=by rw [hR,show mgErr g = 7 from by unfold mgErr; rw [if_pos n1]]; rfl
  (try dsimp only[awp]);conv=>whnf
  refine fM ?_;(conv=>whnf);refine ⟨?_,rfl⟩;conv=>whnf
  all_goals exact wk
 (try dsimp only[awp]);conv=>whnf
 refine And.intro (fun n2=>?_) (fun n2=>?_)
 ·obtain rfl : R = .ifc 111 (.int .i64 7):=by rw [hR,show mgErr g = 7 from by unfold mgErr; rw [if_neg n1,if_pos n2]]; rfl
  (try dsimp only[awp]);conv=>whnf
  refine fM ?_;(conv=>whnf);refine ⟨?_,rfl⟩;conv=>whnf
  all_goals exact wk
 (try dsimp only[awp]);conv=>whnf
 refine .pure _ _ ?_ ⟨rfl,rfl⟩ ca fun _=>?_
 ·repeat' first|exact rfl|exact trivial|exact wR|exact lR _|apply aI
  simp
 (try dsimp only[awp]);conv=>whnf
 refine And.intro (fun n3=>?_) (fun n3=>?_)
 ·have n3 : argsR g.kind g.ins.length = false:=by simpa using n3
  obtain rfl : R = .ifc 111 (.int .i64 11):=by rw [hR,show mgErr g = 11 from by unfold mgErr; rw [if_neg n1,if_neg n2,if_pos n3]]; rfl
  (try dsimp only[awp]);conv=>whnf
  refine fM ?_;(conv=>whnf);refine ⟨?_,rfl⟩;conv=>whnf
  all_goals exact wk
 have n3 : ¬ argsR g.kind g.ins.length = false:=by simpa using n3
 (try dsimp only[awp]);conv=>whnf
 refine And.intro (fun k2=>?_) (fun k2=>?_)
 ·have n5 : ¬ (g.kind ≠ 2 ∧ g.k ≠ 0):=fun h=>h.1 k2
  (try dsimp only[awp]);conv=>whnf
  refine And.intro (fun kk=>?_) (fun kk=>?_)
  ·obtain rfl : R = .ifc 111 (.int .i64 3):=by rw [hR,show mgErr g = 3 from by unfold mgErr; rw [if_neg n1,if_neg n2,if_neg n3,if_pos ⟨k2,.inl kk⟩]]; rfl
   (try dsimp only[awp]);conv=>whnf
   refine fM ?_;(conv=>whnf);refine ⟨?_,rfl⟩;conv=>whnf
   all_goals exact wk
  (try dsimp only[awp]);conv=>whnf
  refine And.intro (fun kl=>?_) (fun kl=>?_)
  ·have kl : (g.ins.length : Int) < g.k:=by simpa using kl
   obtain rfl : R = .ifc 111 (.int .i64 3):=by rw [hR,show mgErr g = 3 from by unfold mgErr; rw [if_neg n1,if_neg n2,if_neg n3,if_pos ⟨k2,.inr kl⟩]]; rfl
   (try dsimp only[awp]);conv=>whnf
   refine fM ?_;(conv=>whnf);refine ⟨?_,rfl⟩;conv=>whnf
   all_goals exact wk
  have kl : ¬ (g.ins.length : Int) < g.k:=by simpa using kl
  have n4 : ¬ (g.kind = 2 ∧ (g.k < 1 ∨ (g.ins.length : Int) < g.k)):=by omega
  (try dsimp only[awp]);conv=>whnf
  refine And.intro (fun k7=>?_) (fun k7=>?_)
  ·(try dsimp only[awp]);conv=>whnf
   refine .pure _ _ ?_ ⟨rfl,rfl⟩ hr.p fun _=>?_
   ·exact leL_refl _
   (try dsimp only[awp]);conv=>whnf
   refine And.intro (fun kp=>?_) (fun kp=>?_)
   ·have kp : prob g.dorm = false:=by simpa using kp
    obtain rfl : R = .ifc 111 (.int .i64 3):=by rw [hR,show mgErr g = 3 from by unfold mgErr; rw [if_neg n1,if_neg n2,if_neg n3,if_neg n4,if_neg n5,if_pos ⟨k7,kp⟩]]; rfl
    (try dsimp only[awp]);conv=>whnf
    refine fM ?_;(conv=>whnf);refine ⟨?_,rfl⟩;conv=>whnf
    all_goals exact wk
   have kp : prob g.dorm = true:=by simpa using kp
   obtain rfl : R = .nilI:=by rw [hR,show mgErr g = 0 from by unfold mgErr; rw [if_neg n1,if_neg n2,if_neg n3,if_neg n4,if_neg n5,if_neg (fun h=>by rw [kp] at h; cases h.2),if_neg (fun h=>h.1 k7)]]; rfl
   (try dsimp only[awp]);conv=>whnf
   refine fM ?_;(conv=>whnf);refine ⟨?_,rfl⟩;conv=>whnf
   all_goals exact wk
  ·(try dsimp only[awp]);conv=>whnf
   refine .pure _ _ ?_ ⟨rfl,rfl⟩ (c_mzero g.dorm) fun _=>?_
   ·exact leL_refl _
   (try dsimp only[awp]);conv=>whnf
   refine And.intro (fun kz=>?_) (fun kz=>?_)
   ·have kz : zeroR g.dorm = false:=by simpa using kz
    obtain rfl : R = .ifc 111 (.int .i64 2):=by rw [hR,show mgErr g = 2 from by unfold mgErr; rw [if_neg n1,if_neg n2,if_neg n3,if_neg n4,if_neg n5,if_neg (fun h=>k7 h.1),if_pos ⟨k7,kz⟩]]; rfl
    (try dsimp only[awp]);conv=>whnf
    refine fM ?_;(conv=>whnf);refine ⟨?_,rfl⟩;conv=>whnf
    all_goals exact wk
   have kz : zeroR g.dorm = true:=by simpa using kz
   obtain rfl : R = .nilI:=by rw [hR,show mgErr g = 0 from by unfold mgErr; rw [if_neg n1,if_neg n2,if_neg n3,if_neg n4,if_neg n5,if_neg (fun h=>k7 h.1),if_neg (fun h=>by rw [kz] at h; cases h.2)]]; rfl
   (try dsimp only[awp]);conv=>whnf
   refine fM ?_;(conv=>whnf);refine ⟨?_,rfl⟩;conv=>whnf
   all_goals exact wk
 ·have n4 : ¬ (g.kind = 2 ∧ (g.k < 1 ∨ (g.ins.length : Int) < g.k)):=by omega
  (try dsimp only[awp]);conv=>whnf
  refine And.intro (fun kk=>?_) (fun kk=>?_)
  ·obtain rfl : R = .ifc 111 (.int .i64 2):=by rw [hR,show mgErr g = 2 from by unfold mgErr; rw [if_neg n1,if_neg n2,if_neg n3,if_neg n4,if_pos ⟨k2,kk⟩]]; rfl
   (try dsimp only[awp]);conv=>whnf
   refine fM ?_;(conv=>whnf);refine ⟨?_,rfl⟩;conv=>whnf
   all_goals exact wk
  have n5 : ¬ (g.kind ≠ 2 ∧ g.k ≠ 0):=fun h=>kk h.2
  (try dsimp only[awp]);conv=>whnf
  refine And.intro (fun k7=>?_) (fun k7=>?_)
  ·(try dsimp only[awp]);conv=>whnf
   refine .pure _ _ ?_ ⟨rfl,rfl⟩ hr.p fun _=>?_
   ·exact leL_refl _
   (try dsimp only[awp]);conv=>whnf
   refine And.intro (fun kp=>?_) (fun kp=>?_)
   ·have kp : prob g.dorm = false:=by simpa using kp
    obtain rfl : R = .ifc 111 (.int .i64 3):=by rw [hR,show mgErr g = 3 from by unfold mgErr; rw [if_neg n1,if_neg n2,if_neg n3,if_neg n4,if_neg n5,if_pos ⟨k7,kp⟩]]; rfl
    (try dsimp only[awp]);conv=>whnf
    refine fM ?_;(conv=>whnf);refine ⟨?_,rfl⟩;conv=>whnf
    all_goals exact wk
   have kp : prob g.dorm = true:=by simpa using kp
   obtain rfl : R = .nilI:=by rw [hR,show mgErr g = 0 from by unfold mgErr; rw [if_neg n1,if_neg n2,if_neg n3,if_neg n4,if_neg n5,if_neg (fun h=>by rw [kp] at h; cases h.2),if_neg (fun h=>h.1 k7)]]; rfl
   (try dsimp only[awp]);conv=>whnf
   refine fM ?_;(conv=>whnf);refine ⟨?_,rfl⟩;conv=>whnf
   all_goals exact wk
  ·(try dsimp only[awp]);conv=>whnf
   refine .pure _ _ ?_ ⟨rfl,rfl⟩ (c_mzero g.dorm) fun _=>?_
   ·exact leL_refl _
   (try dsimp only[awp]);conv=>whnf
   refine And.intro (fun kz=>?_) (fun kz=>?_)
   ·have kz : zeroR g.dorm = false:=by simpa using kz
    obtain rfl : R = .ifc 111 (.int .i64 2):=by rw [hR,show mgErr g = 2 from by unfold mgErr; rw [if_neg n1,if_neg n2,if_neg n3,if_neg n4,if_neg n5,if_neg (fun h=>k7 h.1),if_pos ⟨k7,kz⟩]]; rfl
    (try dsimp only[awp]);conv=>whnf
    refine fM ?_;(conv=>whnf);refine ⟨?_,rfl⟩;conv=>whnf
    all_goals exact wk
   have kz : zeroR g.dorm = true:=by simpa using kz
   obtain rfl : R = .nilI:=by rw [hR,show mgErr g = 0 from by unfold mgErr; rw [if_neg n1,if_neg n2,if_neg n3,if_neg n4,if_neg n5,if_neg (fun h=>k7 h.1),if_neg (fun h=>by rw [kz] at h; cases h.2)]]; rfl
   (try dsimp only[awp]);conv=>whnf
   refine fM ?_;(conv=>whnf);refine ⟨?_,rfl⟩;conv=>whnf
   all_goals exact wk

def gateErrM (m : Md) (a : Int) (i : Nat) (x : Mg) : Int :=
 if nameR x.name = false then 5 else if 0 ≤ i_event m.evs x.name then 6 else if 0 ≤ i_house m.hs x.name then 6 else if i_gate (gatesM m a) x.name < i then 6 else mgErr x

theorem c_checkGates (m : Md) (a : Int) (ha : a = -1 ∨ (0 ≤ a ∧ a < (m.pages.length : Int))) (hC : mgC (gatesM m a)) (R : AV) (hR : R = errAV (errL (gateErrM m a) 0 (gatesM m a))) : FnH Tryz.prog 111 [m.av,.int .i64 a] [] R []:=by
 have ce:=fun s=>c_event m s
 have ch:=fun s=>c_house m s
 have cg:=fun s=>c_gate (gatesM m a) s
 have cG:=c_gatesOf m a ha
 have hgm : ∀ i x,gateErrM m a i x = if nameR x.name = false then 5 else if 0 ≤ i_event m.evs x.name then 6 else if 0 ≤ i_house m.hs x.name then 6 else if i_gate (gatesM m a) x.name < i then 6 else mgErr x:=fun _ _=>rfl
 generalize gateErrM m a = F at *
 generalize gatesM m a = l at *
 refine FnH.intro lay mixed Tryz.func111 (by kernel_rfl) rfl (by kernel_rfl) rfl fun hok=>?_
 (try dsimp only[argC,succC]);(try dsimp only[awp]);conv=>whnf
 refine .pure _ _ ?_ ⟨rfl,rfl⟩ cG fun hokl=>?_
 ·exact leL_refl _
 have hll : l.length ≤ 9223372036854775807:=by have:=hokl.1; simpa [maxL] using this
 (try dsimp only[awp]);conv=>whnf
 refine LoopE.of <| LoopSpec.inv (.refl _ _) (fun (i : Nat)=>i ≤ l.length ∧ errL F 0 l = errL F i (l.drop i)) (fun (i : Nat)=>[(14,.int .i64 i)]) (fun _=>_) (fun (i : Nat)=>l.length - i) 0 ?_ (fun _=>rfl) ?_ ?_
 ·exact ⟨Nat.zero_le _,rfl⟩
 ·all_goals exact wk
 rintro i ⟨hi,hn⟩ _
 (try dsimp only[awp]);conv=>whnf
 refine And.intro (fun h=>?_) (fun h=>?_)
 ·have hlt : i < l.length:=by simpa using h
  have hr:=hC _ (List.getElem_mem hlt)
  have hgx:=hgm i l[i]
  rw [errL_step hlt] at hn
  have bad : ∀ e : Int,e ≠ 0 → F i l[i] = e → errL F 0 l = e:=by
   intro e he h
   rw [h,if_pos he] at hn
   rw [hn]
  (try dsimp only[awp]);conv=>whnf
  refine aidx hlt ?_
  generalize l[i] = x at *
  (try dsimp only[awp]);conv=>whnf
  refine .pure _ _ ?_ ⟨rfl,rfl⟩ (c_tokenName x.name) fun _=>?_
  ·exact leL_refl _
  (try dsimp only[awp]);conv=>whnf
  refine And.intro (fun g1=>?_) (fun g1=>?_)
  ·have g1 : nameR x.name = false:=by simpa using g1
   obtain rfl : R = .ifc 111 (.int .i64 5):=by rw [hR,show errL F 0 l = 5 from by exact bad 5 (by decide) (by rw [hgx,if_pos g1])]; rfl
   (try dsimp only[awp]);conv=>whnf
   refine fM ?_;(conv=>whnf);refine ⟨?_,rfl⟩;conv=>whnf
   all_goals exact wk
  have g1 : ¬ nameR x.name = false:=by simpa using g1
  (try dsimp only[awp]);conv=>whnf
  refine .pure _ _ ?_ ⟨rfl,rfl⟩ (ce x.name) fun _=>?_
  ·exact leL_refl _
  (try dsimp only[awp]);conv=>whnf
  refine And.intro (fun g2=>?_) (fun g2=>?_)
  ·obtain rfl : R = .ifc 111 (.int .i64 6):=by rw [hR,show errL F 0 l = 6 from by exact bad 6 (by decide) (by rw [hgx,if_neg g1,if_pos g2])]; rfl
   (try dsimp only[awp]);conv=>whnf
   refine fM ?_;(conv=>whnf);refine ⟨?_,rfl⟩;conv=>whnf
   all_goals exact wk
  (try dsimp only[awp]);conv=>whnf
  refine .pure _ _ ?_ ⟨rfl,rfl⟩ (ch x.name) fun _=>?_
  ·exact leL_refl _
  (try dsimp only[awp]);conv=>whnf
  refine And.intro (fun g3=>?_) (fun g3=>?_)
  ·obtain rfl : R = .ifc 111 (.int .i64 6):=by rw [hR,show errL F 0 l = 6 from by exact bad 6 (by decide) (by rw [hgx,if_neg g1,if_neg g2,if_pos g3])]; rfl
   (try dsimp only[awp]);conv=>whnf
   refine fM ?_;(conv=>whnf);refine ⟨?_,rfl⟩;conv=>whnf
   all_goals exact wk
  (try dsimp only[awp]);conv=>whnf
  refine .pure _ _ ?_ ⟨rfl,rfl⟩ (cg x.name) fun _=>?_
  ·exact leL_refl _
  (try dsimp only[awp]);conv=>whnf
  refine And.intro (fun g4=>?_) (fun g4=>?_)
  ·obtain rfl : R = .ifc 111 (.int .i64 6):=by rw [hR,show errL F 0 l = 6 from by exact bad 6 (by decide) (by rw [hgx,if_neg g1,if_neg g2,if_neg g3,if_pos g4])]; rfl
   (try dsimp only[awp]);conv=>whnf
   refine fM ?_;(conv=>whnf);refine ⟨?_,rfl⟩;conv=>whnf
   all_goals exact wk
  rw [if_neg g1,if_neg g2,if_neg g3,if_neg g4] at hgx
  have cm:=c_mcheckGate x hr _ rfl
  by_cases g5 : mgErr x ≠ 0
  ·rw [errAV_ne g5] at cm
   rw [bad _ g5 hgx,errAV_ne g5] at hR
   subst hR
   (try dsimp only[awp]);conv=>whnf
   refine .pure _ _ ?_ ⟨rfl,rfl⟩ cm fun _=>?_
   ·exact leL_refl _
   (try dsimp only[awp]);conv=>whnf
   refine fM ?_;(conv=>whnf);refine ⟨?_,rfl⟩;conv=>whnf
   all_goals exact wk
  have g5 : mgErr x = 0:=by simpa using g5
  rw [g5,errAV_zero] at cm
  rw [g5] at hgx
  (try dsimp only[awp]);conv=>whnf
  refine .pure _ _ ?_ ⟨rfl,rfl⟩ cm fun _=>?_
  ·exact leL_refl _
  (try dsimp only[awp]);conv=>whnf
  refine zA ?_;conv=>whnf
  refine ⟨i + 1,?_,?_,?_⟩
  ·exact ⟨hlt,by rw [hn,if_neg (by rw [show F i x = 0 from by exact hgx]; simp)]⟩
  ·refine ⟨?_,.mk ?_ ⟨by simp,trivial⟩⟩
   ·all_goals exact wk
   ·all_goals exact wk
  ·omega
 have hil : i = l.length:=by have : ¬ i < l.length:=by simpa using h
                             omega
 rw [errL_end (by omega)] at hn
 obtain rfl : R = .nilI:=by rw [hR,hn]; rfl
 (try dsimp only[awp]);conv=>whnf
 refine fM ?_;(conv=>whnf);refine ⟨?_,rfl⟩;conv=>whnf
 all_goals exact wk

def mustEv (g : Mg) (k : Int) : Bool:=decide (g.kind = 7) || (decide (g.kind = 8) && decide (0 < k))

theorem c_mustBeEvent (g : Mg) (k : Int) : FnH Tryz.prog 207 [g.av,.int .i64 k] [] (.bool (mustEv g k)) []:=by
 refine FnH.intro lay mixed Tryz.func207 (by kernel_rfl) rfl (by kernel_rfl) rfl fun hok=>?_
 (try dsimp only[argC,succC]);(try dsimp only[awp]);conv=>whnf
 refine And.intro (fun h=>?_) (fun h=>?_)
 ·(try dsimp only[awp]);conv=>whnf
  refine fM ?_;(conv=>whnf);refine ⟨?_,rfl⟩;conv=>whnf
  simp [mustEv,h]
 ·(try dsimp only[awp]);conv=>whnf
  refine And.intro (fun h8=>?_) (fun h8=>?_)
  ·(try dsimp only[awp]);conv=>whnf
   refine fM ?_;(conv=>whnf);refine ⟨?_,rfl⟩;conv=>whnf
   simp [mustEv,h8]
  ·(try dsimp only[awp]);conv=>whnf
   refine fM ?_;(conv=>whnf);refine ⟨?_,rfl⟩;conv=>whnf
   simp [mustEv,h,h8]

theorem c_indexStr (l : List Str) (x : Str) : FnH Tryz.prog 262 [sL l,.str x] [] (.int .i64 (idxP (fun y=>decide (x = y)) l)) []:=by
 refine FnH.intro lay mixed Tryz.func262 (by kernel_rfl) rfl (by kernel_rfl) rfl fun hok=>?_
 have hl : l.length ≤ 9223372036854775807:=by have:=hok.1.1; simpa [maxL] using this
 (try dsimp only[argC,succC]);(try dsimp only[awp]);conv=>whnf
 refine LoopE.of <| LoopSpec.inv (.refl _ _) (fun (i : Nat)=>i ≤ l.length ∧ ∀ (j : Nat) (hj : j < l.length),j < i → (fun y=>decide (x = y)) l[j] = false) (fun (i : Nat)=>[(8,.int .i64 i)]) (fun _=>_) (fun (i : Nat)=>l.length - i) 0 ?_ (fun _=>rfl) ?_ ?_
 ·exact ⟨Nat.zero_le _,by omega⟩
 ·all_goals exact wk
 rintro i ⟨hi,hn⟩ _
 (try dsimp only[awp]);conv=>whnf
 refine And.intro (fun h=>?_) (fun h=>?_)
 ·have hlt : i < l.length:=by simpa using h
  (try dsimp only[awp]);conv=>whnf
  refine aidx hlt ?_
  (try dsimp only[awp]);conv=>whnf
  refine And.intro (fun h=>?_) (fun h=>?_)
  ·(try dsimp only[awp]);conv=>whnf
   refine fM ?_;(conv=>whnf);refine ⟨?_,rfl⟩;conv=>whnf
   exact ⟨rfl,(idxP_some hlt (by simpa using h) fun j hj=>hn j (by omega) hj).symm⟩
  ·(try dsimp only[awp]);conv=>whnf
   refine zA ?_;conv=>whnf
   refine ⟨i + 1,?_,?_,?_⟩
   ·refine ⟨hlt,fun j hj hji=>?_⟩
    by_cases hji' : j = i
    ·subst hji'; simpa using h
    ·exact hn j hj (by omega)
   ·all_goals exact wk
   ·omega
 ·have hlt : i = l.length:=by have : ¬ i < l.length:=by simpa using h
                              omega
  subst hlt
  (try dsimp only[awp]);conv=>whnf
  refine fM ?_;(conv=>whnf);refine ⟨?_,rfl⟩;conv=>whnf
  exact ⟨rfl,(idxP_none fun j hj=>hn j hj hj).symm⟩

theorem c_containsStr (l : List Str) (x : Str) : FnH Tryz.prog 208 [sL l,.str x] [] (.bool (l.any fun y=>decide (x = y))) []:=by
 refine FnH.intro lay mixed Tryz.func208 (by kernel_rfl) rfl (by kernel_rfl) rfl fun hok=>?_
 (try dsimp only[argC,succC]);(try dsimp only[awp]);conv=>whnf
 refine .pure _ _ ?_ ⟨rfl,rfl⟩ (c_indexStr l x) fun _=>?_
 ·all_goals exact wk
 (try dsimp only[awp]);conv=>whnf
 refine fM ?_;(conv=>whnf);refine ⟨?_,rfl⟩;conv=>whnf
 exact idxP_nonneg _ l

def insErr (m : Md) (a : Int) (g : Mg) : Nat → List Str → List Str → Int × List Str
 | _,[],sp=>(0,sp)
 | k,s :: l,sp=>if isInR m a s = false then (5,[]) else if mustEv g k = true ∧ i_event m.evs s < 0 then (7,[])
   else if g.kind = 7 then (if (sp.any fun y=>decide (s = y)) = true then (6,[]) else insErr m a g (k + 1) l (sp ++ [s])) else insErr m a g (k + 1) l sp

def gatesIns (m : Md) (a : Int) : List Mg → List Str → Int × List Str
 | [],sp=>(0,sp)
 | g :: l,sp=>if (insErr m a g 0 g.ins sp).1 ≠ 0 then insErr m a g 0 g.ins sp else gatesIns m a l (insErr m a g 0 g.ins sp).2

def pageTop (m : Md) (a : Int) : Str:=(m.pages.getD a.toNat default).top

def pageIns (m : Md) (a : Int) (sp : List Str) : Int × List Str :=
 if (gatesIns m a (gatesM m a) sp).1 ≠ 0 then gatesIns m a (gatesM m a) sp
 else if a ≠ -1 ∧ i_gate (gatesM m a) (pageTop m a) < 0 ∧ i_event m.evs (pageTop m a) < 0 then (5,[]) else gatesIns m a (gatesM m a) sp

theorem insErr_len {m : Md} {a : Int} {g : Mg} : ∀ {l : List Str} {k : Nat} {sp : List Str},(insErr m a g k l sp).2.length ≤ sp.length + l.length
 | [],k,sp=>by simp [insErr]
 | s :: l,k,sp=>by
   simp only [insErr]
   split
   ·simp
   split
   ·simp
   split
   ·split
    ·simp
    ·have:=insErr_len (m:=m) (a:=a) (g:=g) (l:=l) (k:=k + 1) (sp:=sp ++ [s])
     simp only [List.length_append,List.length_cons,List.length_nil] at this ⊢
     omega
   ·have:=insErr_len (m:=m) (a:=a) (g:=g) (l:=l) (k:=k + 1) (sp:=sp)
    simp only [List.length_cons]
    omega

theorem c_checkInputs (m : Md) (a : Int) (sp : List Str) (ha : a = -1 ∨ (0 ≤ a ∧ a < (m.pages.length : Int))) (hB : (gatesM m a).length ≤ 100 ∧ ∀ x ∈ gatesM m a,x.ins.length ≤ 40) (hsp : sp.length ≤ 1000000) (R : AV) (G : Heap)
  (hR : R = if (pageIns m a sp).1 = 0 then .tup [.sl 1 ((pageIns m a sp).2.map .str) (.own 0),.nilI] else .tup [.nils,.ifc 111 (.int .i64 (pageIns m a sp).1)])
  (hG : G = if (pageIns m a sp).1 = 0 then [(0,.tok 1 (pageIns m a sp).2.length)] else [(0,.gone)]) :
  FnH Tryz.prog 112 [m.av,.int .i64 a,.sl 1 (sp.map .str) (.own 0)] [(0,.tok 1 sp.length)] R G:=by
 have ce:=fun s=>c_event m s
 have cg:=fun s=>c_gate (gatesM m a) s
 have cG:=c_gatesOf m a ha
 have ci:=fun s=>c_isInput m a s ha
 have err : ∀ e : Int,e ≠ 0 → (pageIns m a sp).1 = e → R = .tup [.nils,.ifc 111 (.int .i64 e)] ∧ G = [(0,.gone)]:=by
  intro e h0 he
  rw [hR,hG,he,if_neg h0,if_neg h0]; exact ⟨rfl,rfl⟩
 have hpi : pageIns m a sp = if (gatesIns m a (gatesM m a) sp).1 ≠ 0 then gatesIns m a (gatesM m a) sp
  else if a ≠ -1 ∧ i_gate (gatesM m a) (pageTop m a) < 0 ∧ i_event m.evs (pageTop m a) < 0 then (5,[]) else gatesIns m a (gatesM m a) sp:=rfl
 have hgl : a ≠ -1 → gatesM m a = (m.pages.getD a.toNat default).gates:=fun h=>if_neg h
 refine FnH.intro lay mixed Tryz.func112 (by kernel_rfl) rfl (by kernel_rfl) rfl fun hok=>?_
 (try dsimp only[argC,succC]);(try dsimp only[awp]);conv=>whnf
 refine .pure _ _ ?_ ⟨rfl,rfl⟩ cG fun hokl=>?_
 ·exact leL_refl _
 generalize hgs : gatesM m a = gs at *
 (try dsimp only[awp]);conv=>whnf
 refine LoopE.of <| LoopSpec.inv (.refl _ _) (fun (s : Nat × List Str)=>s.1 ≤ gs.length ∧ gatesIns m a gs sp = gatesIns m a (gs.drop s.1) s.2 ∧ s.2.length ≤ sp.length + 40 * s.1)
  (fun s=>[(17,.int .i64 s.1),(2,.sl 1 (s.2.map .str) (.own 0))]) (fun s=>[(1,.box m.av),(0,.tok 1 s.2.length)]) (fun s=>gs.length - s.1) (0,sp) ?_ (fun _=>rfl) ?_ ?_
 ·exact ⟨Nat.zero_le _,rfl,by simp⟩
 ·refine ⟨?_,.mk ?_ ⟨by simp,by simp,trivial⟩⟩
  ·all_goals exact wk
  ·all_goals exact wk
 rintro ⟨i,s1⟩ ⟨hi,hn,hs1⟩ _
 dsimp only at hi hn hs1
 (try dsimp only[awp]);conv=>whnf
 refine And.intro (fun h=>?_) (fun h=>?_)
 ·have hlt : i < gs.length:=by simpa using h
  have hxi:=hB.2 _ (List.getElem_mem hlt)
  rw [List.drop_eq_getElem_cons hlt] at hn
  simp only [gatesIns] at hn
  have bad : ∀ e : Int,e ≠ 0 → (insErr m a gs[i] 0 (gs[i]).ins s1).1 = e → (pageIns m a sp).1 = e:=by
   intro e he h
   rw [h,if_pos he] at hn
   rw [hpi,hn,h,if_pos he,h]
  (try dsimp only[awp]);conv=>whnf
  refine aidx hlt ?_
  generalize gs[i] = g at *
  have cm:=fun k=>c_mustBeEvent g k
  (try dsimp only[awp]);conv=>whnf
  refine LoopE.of <| LoopSpec.inv (.refl _ _) (fun (s : Nat × List Str)=>s.1 ≤ g.ins.length ∧ insErr m a g 0 g.ins s1 = insErr m a g s.1 (g.ins.drop s.1) s.2 ∧ s.2.length ≤ s1.length + s.1)
   (fun s=>[(24,.int .i64 s.1),(2,.sl 1 (s.2.map .str) (.own 0))]) (fun s=>[(2,.box g.av),(1,.box m.av),(0,.tok 1 s.2.length)]) (fun s=>g.ins.length - s.1) (0,s1) ?_ (fun _=>rfl) ?_ ?_
  ·exact ⟨Nat.zero_le _,rfl,by simp⟩
  ·refine ⟨?_,.mk ?_ ⟨by simp,by simp,by simp,trivial⟩⟩
   ·all_goals exact wk
   ·all_goals exact wk
  rintro ⟨j,s2⟩ ⟨hj,hnj,hs2⟩ _
  dsimp only at hj hnj hs2
  (try dsimp only[awp]);conv=>whnf
  refine And.intro (fun hh=>?_) (fun hh=>?_)
  ·have hjl : j < g.ins.length:=by simpa using hh
   rw [List.drop_eq_getElem_cons hjl] at hnj
   simp only [insErr] at hnj
   (try dsimp only[awp]);conv=>whnf
   refine aidx hjl ?_
   generalize g.ins[j] = x at *
   (try dsimp only[awp]);conv=>whnf
   refine .pure _ _ ?_ ⟨rfl,rfl⟩ (ci x) fun _=>?_
   ·exact leL_refl _
   (try dsimp only[awp]);conv=>whnf
   refine And.intro (fun g1=>?_) (fun g1=>?_)
   ·have g1 : isInR m a x = false:=by simpa using g1
    obtain ⟨rfl,rfl⟩:=err 5 (by decide) (bad 5 (by decide) (by rw [hnj]; rw [if_pos g1]))
    (try dsimp only[awp]);conv=>whnf
    refine ⟨⟨_,_,.refl _ _,?_⟩⟩
    conv=>whnf
    refine ⟨?_,rfl,by simp [nextId],.mk ?_ ⟨by simp,trivial⟩⟩
    ·all_goals exact wk
    ·all_goals exact wk
   have g1 : ¬ isInR m a x = false:=by simpa using g1
   (try dsimp only[awp]);conv=>whnf
   refine .pure _ _ ?_ ⟨rfl,rfl⟩ (cm j) fun _=>?_
   ·exact leL_refl _
   (try dsimp only[awp]);conv=>whnf
   refine And.intro (fun g2=>?_) (fun g2=>?_)
   ·(try dsimp only[awp]);conv=>whnf
    refine .pure _ _ ?_ ⟨rfl,rfl⟩ (ce x) fun _=>?_
    ·exact leL_refl _
    (try dsimp only[awp]);conv=>whnf
    refine And.intro (fun g4=>?_) (fun g4=>?_)
    ·obtain ⟨rfl,rfl⟩:=err 7 (by decide) (bad 7 (by decide) (by rw [hnj]; rw [if_neg g1,if_pos ⟨g2,g4⟩]))
     (try dsimp only[awp]);conv=>whnf
     refine ⟨⟨_,_,.refl _ _,?_⟩⟩
     conv=>whnf
     refine ⟨?_,rfl,by simp [nextId],.mk ?_ ⟨by simp,trivial⟩⟩
     ·all_goals exact wk
     ·all_goals exact wk
    (try dsimp only[awp]);conv=>whnf
    refine And.intro (fun k7=>?_) (fun k7=>?_)
    ·(try dsimp only[awp]);conv=>whnf
     refine .pure _ _ ?_ ⟨rfl,rfl⟩ (c_containsStr s2 x) fun _=>?_
     ·all_goals exact wk
     (try dsimp only[awp]);conv=>whnf
     refine And.intro (fun g3=>?_) (fun g3=>?_)
     ·obtain ⟨rfl,rfl⟩:=err 6 (by decide) (bad 6 (by decide) (by rw [hnj]; rw [if_neg g1,if_neg (fun h=>g4 h.2),if_pos k7,if_pos g3]))
      (try dsimp only[awp]);conv=>whnf
      refine ⟨⟨_,_,.refl _ _,?_⟩⟩
      conv=>whnf
      refine ⟨?_,rfl,by simp [nextId],.mk ?_ ⟨by simp,trivial⟩⟩
      ·all_goals exact wk
      ·all_goals exact wk
     have g3 : ¬ (s2.any fun y=>decide (x = y)) = true:=by rw [g3]; simp
     (try dsimp only[awp]);conv=>whnf
     refine ⟨by rw [List.length_map],.mk (by simp [maxL]; omega) (by simp; omega) ?_⟩
     (try dsimp only[awp]);conv=>whnf
     refine zA ?_;conv=>whnf
     refine ⟨(j + 1,s2 ++ [x]),?_,?_,?_⟩
     ·exact ⟨hjl,by rw [hnj]; rw [if_neg g1,if_neg (fun h=>g4 h.2),if_pos k7,if_neg g3],by first | (show s2.length ≤ s1.length + (j + 1); omega) | (show (s2 ++ [x]).length ≤ s1.length + (j + 1); simp; omega)⟩
     ·refine ⟨?_,.mk ?_ ⟨by simp,by simp,by simp,trivial⟩⟩
      ·repeat' first|exact rfl|exact trivial|exact wR|exact lR _|apply aI
       all_goals first | (refine leRL_of ?_; simp [strip]; done) | (simp; done) | (simp; omega)
      ·repeat' first|exact rfl|exact trivial|exact wR|exact lR _|apply aI
       all_goals first | (refine leRL_of ?_; simp [strip]; done) | (simp; done) | (simp; omega)
     ·show g.ins.length - (j + 1) < g.ins.length - j
      omega
    ·(try dsimp only[awp]);conv=>whnf
     refine zA ?_;conv=>whnf
     refine ⟨(j + 1,s2),?_,?_,?_⟩
     ·exact ⟨hjl,by rw [hnj]; rw [if_neg g1,if_neg (fun h=>g4 h.2),if_neg k7],by first | (show s2.length ≤ s1.length + (j + 1); omega) | (show (s2 ++ [x]).length ≤ s1.length + (j + 1); simp; omega)⟩
     ·refine ⟨?_,.mk ?_ ⟨by simp,by simp,by simp,trivial⟩⟩
      ·repeat' first|exact rfl|exact trivial|exact wR|exact lR _|apply aI
       all_goals first | (refine leRL_of ?_; simp [strip]; done) | (simp; done) | (simp; omega)
      ·repeat' first|exact rfl|exact trivial|exact wR|exact lR _|apply aI
       all_goals first | (refine leRL_of ?_; simp [strip]; done) | (simp; done) | (simp; omega)
     ·show g.ins.length - (j + 1) < g.ins.length - j
      omega
   ·(try dsimp only[awp]);conv=>whnf
    refine And.intro (fun k7=>?_) (fun k7=>?_)
    ·(try dsimp only[awp]);conv=>whnf
     refine .pure _ _ ?_ ⟨rfl,rfl⟩ (c_containsStr s2 x) fun _=>?_
     ·all_goals exact wk
     (try dsimp only[awp]);conv=>whnf
     refine And.intro (fun g3=>?_) (fun g3=>?_)
     ·obtain ⟨rfl,rfl⟩:=err 6 (by decide) (bad 6 (by decide) (by rw [hnj]; rw [if_neg g1,if_neg (fun h=>by rw [g2] at h; cases h.1),if_pos k7,if_pos g3]))
      (try dsimp only[awp]);conv=>whnf
      refine ⟨⟨_,_,.refl _ _,?_⟩⟩
      conv=>whnf
      refine ⟨?_,rfl,by simp [nextId],.mk ?_ ⟨by simp,trivial⟩⟩
      ·all_goals exact wk
      ·all_goals exact wk
     have g3 : ¬ (s2.any fun y=>decide (x = y)) = true:=by rw [g3]; simp
     (try dsimp only[awp]);conv=>whnf
     refine ⟨by rw [List.length_map],.mk (by simp [maxL]; omega) (by simp; omega) ?_⟩
     (try dsimp only[awp]);conv=>whnf
     refine zA ?_;conv=>whnf
     refine ⟨(j + 1,s2 ++ [x]),?_,?_,?_⟩
     ·exact ⟨hjl,by rw [hnj]; rw [if_neg g1,if_neg (fun h=>by rw [g2] at h; cases h.1),if_pos k7,if_neg g3],by first | (show s2.length ≤ s1.length + (j + 1); omega) | (show (s2 ++ [x]).length ≤ s1.length + (j + 1); simp; omega)⟩
     ·refine ⟨?_,.mk ?_ ⟨by simp,by simp,by simp,trivial⟩⟩
      ·repeat' first|exact rfl|exact trivial|exact wR|exact lR _|apply aI
       all_goals first | (refine leRL_of ?_; simp [strip]; done) | (simp; done) | (simp; omega)
      ·repeat' first|exact rfl|exact trivial|exact wR|exact lR _|apply aI
       all_goals first | (refine leRL_of ?_; simp [strip]; done) | (simp; done) | (simp; omega)
     ·show g.ins.length - (j + 1) < g.ins.length - j
      omega
    ·(try dsimp only[awp]);conv=>whnf
     refine zA ?_;conv=>whnf
     refine ⟨(j + 1,s2),?_,?_,?_⟩
     ·exact ⟨hjl,by rw [hnj]; rw [if_neg g1,if_neg (fun h=>by rw [g2] at h; cases h.1),if_neg k7],by first | (show s2.length ≤ s1.length + (j + 1); omega) | (show (s2 ++ [x]).length ≤ s1.length + (j + 1); simp; omega)⟩
     ·refine ⟨?_,.mk ?_ ⟨by simp,by simp,by simp,trivial⟩⟩
      ·repeat' first|exact rfl|exact trivial|exact wR|exact lR _|apply aI
       all_goals first | (refine leRL_of ?_; simp [strip]; done) | (simp; done) | (simp; omega)
      ·repeat' first|exact rfl|exact trivial|exact wR|exact lR _|apply aI
       all_goals first | (refine leRL_of ?_; simp [strip]; done) | (simp; done) | (simp; omega)
     ·show g.ins.length - (j + 1) < g.ins.length - j
      omega
  ·have hjl : j = g.ins.length:=by have : ¬ j < g.ins.length:=by simpa using hh
                                   omega
   subst hjl
   rw [List.drop_length] at hnj
   simp only [insErr] at hnj
   rw [hnj] at hn
   (try dsimp only[awp]);conv=>whnf
   refine zA ?_;conv=>whnf
   refine ⟨(i + 1,s2),?_,?_,?_⟩
   ·exact ⟨hlt,hn,by show s2.length ≤ sp.length + 40 * (i + 1); omega⟩
   ·refine ⟨?_,.mk ?_ ⟨by simp,by simp,trivial⟩⟩
    ·all_goals exact wk
    ·all_goals exact wk
   ·show gs.length - (i + 1) < gs.length - i
    omega
 have hil : i = gs.length:=by have : ¬ i < gs.length:=by simpa using h
                              omega
 rw [List.drop_eq_nil_of_le (by omega)] at hn
 simp only [gatesIns] at hn
 clear h
 rw [hn] at hpi
 rw [if_neg (by simp)] at hpi
 (try dsimp only[awp]);conv=>whnf
 refine And.intro (fun a1=>?_) (fun a1=>?_)
 ·have hb : 0 ≤ a ∧ a < (m.pages.length : Int):=by omega
  have hgl:=hgl a1
  have hpt : (m.pages.getD a.toNat default).top = pageTop m a:=rfl
  generalize hpg : m.pages.getD a.toNat default = pg at *
  (try dsimp only[awp]);conv=>whnf
  refine aidxD default hb ?_
  rw [hpg]
  (try dsimp only[awp]);conv=>whnf
  refine aidxD default hb ?_
  rw [hpg]
  (try dsimp only[awp]);conv=>whnf
  rw [← hgl,hpt]
  refine .pure _ _ ?_ ⟨rfl,rfl⟩ (cg (pageTop m a)) fun _=>?_
  ·exact leL_refl _
  (try dsimp only[awp]);conv=>whnf
  refine And.intro (fun g1=>?_) (fun g1=>?_)
  ·(try dsimp only[awp]);conv=>whnf
   refine .pure _ _ ?_ ⟨rfl,rfl⟩ (ce (pageTop m a)) fun _=>?_
   ·exact leL_refl _
   (try dsimp only[awp]);conv=>whnf
   refine And.intro (fun g2=>?_) (fun g2=>?_)
   ·obtain ⟨rfl,rfl⟩:=err 5 (by decide) (by rw [hpi,if_pos ⟨a1,g1,g2⟩])
    (try dsimp only[awp]);conv=>whnf
    refine ⟨⟨_,_,.refl _ _,?_⟩⟩
    conv=>whnf
    refine ⟨?_,rfl,by simp [nextId],.mk ?_ ⟨by simp,trivial⟩⟩
    ·all_goals exact wk
    ·all_goals exact wk
   ·rw [if_neg (fun h=>g2 h.2.2)] at hpi
    rw [hpi,if_pos rfl] at hR hG
    subst hR; subst hG
    (try dsimp only[awp]);conv=>whnf
    refine ⟨⟨_,_,.refl _ _,?_⟩⟩
    conv=>whnf
    refine ⟨?_,rfl,by simp [nextId],.mk ?_ ⟨by simp,trivial⟩⟩
    ·all_goals exact wk
    ·all_goals exact wk
  ·rw [if_neg (fun h=>g1 h.2.1)] at hpi
   rw [hpi,if_pos rfl] at hR hG
   subst hR; subst hG
   (try dsimp only[awp]);conv=>whnf
   refine ⟨⟨_,_,.refl _ _,?_⟩⟩
   conv=>whnf
   refine ⟨?_,rfl,by simp [nextId],.mk ?_ ⟨by simp,trivial⟩⟩
   ·all_goals exact wk
   ·all_goals exact wk
 ·rw [if_neg (fun h=>a1 h.1)] at hpi
  rw [hpi,if_pos rfl] at hR hG
  subst hR; subst hG
  (try dsimp only[awp]);conv=>whnf
  refine ⟨⟨_,_,.refl _ _,?_⟩⟩
  conv=>whnf
  refine ⟨?_,rfl,by simp [nextId],.mk ?_ ⟨by simp,trivial⟩⟩
  ·all_goals exact wk
  ·all_goals exact wk

theorem c_idx_Rat (l : List Rat) (g : Nat) (cap : List AV) (p : Rat → Bool) (H : Heap) (hg : ∀ x ∈ l,FnH Tryz.prog g (x.av :: cap) H (.bool (p x)) H) :
  FnH Tryz.prog 235 [.sl 3 (l.map Rat.av) .no,.fn g cap] H (.int .i64 (idxP p l)) H:=by
 refine FnH.intro lay mixed Tryz.func235 (by kernel_rfl) rfl (by kernel_rfl) rfl fun hok=>?_
 have hl : l.length ≤ 9223372036854775807:=by have:=hok.1.1; simpa [maxL] using this
 (try dsimp only[argC,succC]);(try dsimp only[awp]);conv=>whnf
 refine LoopE.of <| LoopSpec.inv (.refl _ _) (fun (i : Nat)=>i ≤ l.length ∧ ∀ (j : Nat) (hj : j < l.length),j < i → p l[j] = false) (fun (i : Nat)=>[(8,.int .i64 i)]) (fun _=>_) (fun (i : Nat)=>l.length - i) 0 ?_ (fun _=>rfl) ?_ ?_
 ·exact ⟨Nat.zero_le _,by omega⟩
 ·all_goals exact wk
 rintro i ⟨hi,hn⟩ _
 (try dsimp only[awp]);conv=>whnf
 refine And.intro (fun h=>?_) (fun h=>?_)
 ·have hlt : i < l.length:=by simpa using h
  (try dsimp only[awp]);conv=>whnf
  refine aidx hlt ?_
  (try dsimp only[awp]);conv=>whnf
  refine .gen _ _ (hg _ (List.getElem_mem hlt)) fun _=>?_
  (try dsimp only[awp]);conv=>whnf
  refine And.intro (fun h=>?_) (fun h=>?_)
  ·(try dsimp only[awp]);conv=>whnf
   (refine FinSpec.same ?_;(conv=>whnf);refine ⟨?_,rfl⟩;(conv=>whnf))
   exact ⟨rfl,(idxP_some hlt h fun j hj=>hn j (by omega) hj).symm⟩
  ·(try dsimp only[awp]);conv=>whnf
   refine zA ?_;conv=>whnf
   refine ⟨i + 1,?_,?_,?_⟩
   ·refine ⟨hlt,fun j hj hji=>?_⟩
    by_cases hji' : j = i
    ·subst hji'; exact h
    ·exact hn j hj (by omega)
   ·all_goals exact wk
   ·omega
 ·have hlt : i = l.length:=by have : ¬ i < l.length:=by simpa using h
                              omega
  subst hlt
  (try dsimp only[awp]);conv=>whnf
  (refine FinSpec.same ?_;(conv=>whnf);refine ⟨?_,rfl⟩;(conv=>whnf))
  exact ⟨rfl,(idxP_none fun j hj=>hn j hj hj).symm⟩

theorem c_containsRat (l : List Rat) (g : Nat) (cap : List AV) (p : Rat → Bool) (H : Heap) (hg : ∀ x ∈ l,FnH Tryz.prog g (x.av :: cap) H (.bool (p x)) H) :
  FnH Tryz.prog 141 [.sl 3 (l.map Rat.av) .no,.fn g cap] H (.bool (l.any p)) H:=by
 refine FnH.intro lay mixed Tryz.func141 (by kernel_rfl) rfl (by kernel_rfl) rfl fun hok=>?_
 (try dsimp only[argC,succC]);(try dsimp only[awp]);conv=>whnf
 refine .gen _ _ (c_idx_Rat l g cap p H hg) fun _=>?_
 (try dsimp only[awp]);conv=>whnf
 (refine FinSpec.same ?_;(conv=>whnf);refine ⟨?_,rfl⟩;(conv=>whnf))
 exact idxP_nonneg _ l

theorem c_notProb (x : Rat) (hx : RatC x) : FnH Tryz.prog 211 [x.av] [] (.bool (!prob x)) []:=by
 refine FnH.intro lay mixed Tryz.func211 (by kernel_rfl) rfl (by kernel_rfl) rfl fun hok=>?_
 (try dsimp only[argC,succC]);(try dsimp only[awp]);conv=>whnf
 refine .pure _ _ ?_ ⟨rfl,rfl⟩ hx.p fun _=>?_
 ·exact leL_refl _
 (try dsimp only[awp]);conv=>whnf
 refine fM ?_;(conv=>whnf);refine ⟨?_,rfl⟩;conv=>whnf
 all_goals exact wk

def memErr (m : Md) : List Str → List Str → Int × List Str
 | [],sp=>(0,sp)
 | s :: l,sp=>if i_event m.evs s < 0 then (5,[]) else if (sp.any fun y=>decide (s = y)) = true then (6,[]) else memErr m l (sp ++ [s])

def grErr (m : Md) (i : Nat) (x : Gr) (sp : List Str) : Int × List Str :=
 if nameR x.name = false then (5,[]) else if idxP (fun y=>decide (y.name = x.name)) m.grs < i then (6,[])
 else if x.kind ≠ 0 ∧ x.kind ≠ 1 then (7,[])
 else if x.mem.length < 2 then (11,[]) else if (if x.kind = 1 then (4 : Int) else 24) < x.mem.length then (11,[])
 else if (x.fac.length : Int) ≠ (if x.kind = 1 then (x.mem.length : Int) - 1 else 1) then (11,[])
 else if (memErr m x.mem sp).1 ≠ 0 then memErr m x.mem sp else if (x.fac.any fun f=>!prob f) = true then (3,[]) else memErr m x.mem sp

def grsErr (m : Md) : Nat → List Gr → List Str → Int
 | _,[],_=>0
 | i,x :: l,sp=>if (grErr m i x sp).1 ≠ 0 then (grErr m i x sp).1 else grsErr m (i + 1) l (grErr m i x sp).2

def groupsErr (m : Md) : Int:=if 8 < m.grs.length then 4 else grsErr m 0 m.grs []

theorem c1_grp (x y : Gr) (m : Md) (n : Nat) : FnH Tryz.prog 210 [y.av,.ptr 2 [] 0] [(2,.box x.av),(1,.tok 1 n),(0,.box m.av)] (.bool (decide (y.name = x.name))) [(2,.box x.av),(1,.tok 1 n),(0,.box m.av)]:=by
 refine FnH.intro lay mixed Tryz.func210 (by kernel_rfl) rfl (by kernel_rfl) rfl fun hok=>?_
 (try dsimp only[argC,succC]);(try dsimp only[awp]);conv=>whnf
 refine ⟨⟨_,_,.refl _ _,?_⟩⟩
 conv=>whnf
 refine ⟨?_,rfl,by simp [nextId],.mk ?_ ⟨by simp,by simp,by simp,trivial⟩⟩
 ·show _ ↔ _
  simp
 ·all_goals exact wk

theorem c_checkGroups (m : Md) (hC : MdC m) (hB : MdB m) (R : AV) (hR : R = errAV (groupsErr m)) : FnH Tryz.prog 114 [m.av] [] R []:=by
 have ce:=fun s=>c_event m s
 have hgl:=hB.grs
 refine FnH.intro lay mixed Tryz.func114 (by kernel_rfl) rfl (by kernel_rfl) rfl fun hok=>?_
 (try dsimp only[argC,succC]);(try dsimp only[awp]);conv=>whnf
 refine And.intro (fun h1=>?_) (fun h1=>?_)
 ·have h1 : 8 < m.grs.length:=by simp only [List.length_map] at h1; omega
  obtain rfl : R = .ifc 111 (.int .i64 4):=by rw [hR,show groupsErr m = 4 from if_pos h1]; rfl
  (try dsimp only[awp]);conv=>whnf
  refine fM ?_;(conv=>whnf);refine ⟨?_,rfl⟩;conv=>whnf
  all_goals exact wk
 have h1 : ¬ 8 < m.grs.length:=by simp only [List.length_map] at h1; omega
 have hge : groupsErr m = grsErr m 0 m.grs []:=if_neg h1
 (try dsimp only[awp]);conv=>whnf
 refine LoopE.of <| LoopSpec.inv (.grow 3 1 [] _ rfl (.inl ⟨rfl,rfl⟩) (.refl _ _)) (fun (s : Nat × List Str)=>s.1 ≤ m.grs.length ∧ grsErr m 0 m.grs [] = grsErr m s.1 (m.grs.drop s.1) s.2 ∧ s.2.length ≤ 60 * s.1)
  (fun s=>[(18,.int .i64 s.1),(3,.sl 1 (s.2.map .str) (.own 1))]) (fun s=>[(1,.tok 1 s.2.length),(0,.box m.av)]) (fun s=>m.grs.length - s.1) (0,[]) ?_ (fun _=>rfl) ?_ ?_
 ·exact ⟨Nat.zero_le _,rfl,by simp⟩
 ·refine ⟨?_,.mk ?_ ⟨by simp,by simp,trivial⟩⟩
  ·all_goals exact wk
  ·all_goals exact wk
 rintro ⟨i,sp⟩ ⟨hi,hn,hs1⟩ _
 dsimp only at hi hn hs1
 (try dsimp only[awp]);conv=>whnf
 refine And.intro (fun h=>?_) (fun h=>?_)
 ·have hlt : i < m.grs.length:=by simpa using h
  have hml:=hB.mem _ (List.getElem_mem hlt)
  have hfc:=hC.grs _ (List.getElem_mem hlt)
  rw [List.drop_eq_getElem_cons hlt] at hn
  simp only [grsErr] at hn
  have bad : ∀ e : Int,e ≠ 0 → (grErr m i m.grs[i] sp).1 = e → groupsErr m = e:=by
   intro e he h
   rw [h,if_pos he] at hn
   rw [hge,hn]
  (try dsimp only[awp]);conv=>whnf
  refine aidx hlt ?_
  generalize hx0 : m.grs[i] = x at *
  (try dsimp only[awp]);conv=>whnf
  refine .pure _ _ ?_ ⟨rfl,rfl⟩ (c_tokenName x.name) fun _=>?_
  ·exact leL_refl _
  (try dsimp only[awp]);conv=>whnf
  refine And.intro (fun g1=>?_) (fun g1=>?_)
  ·have g1 : nameR x.name = false:=by simpa using g1
   obtain rfl : R = .ifc 111 (.int .i64 5):=by rw [hR,bad 5 (by decide) (by unfold grErr; rw [if_pos g1])]; rfl
   (try dsimp only[awp]);conv=>whnf
   refine fM ?_;(conv=>whnf);refine ⟨?_,rfl⟩;conv=>whnf
   all_goals exact wk
  have g1 : ¬ nameR x.name = false:=by simpa using g1
  (try dsimp only[awp]);conv=>whnf
  refine .gen _ _ (c_idx_Gr m.grs 210 [.ptr 2 [] 0] (fun y=>decide (y.name = x.name)) _ fun y _=>c1_grp x y m sp.length) fun _=>?_
  (try dsimp only[awp]);conv=>whnf
  refine And.intro (fun g2=>?_) (fun g2=>?_)
  ·obtain rfl : R = .ifc 111 (.int .i64 6):=by rw [hR,bad 6 (by decide) (by unfold grErr; rw [if_neg g1,if_pos g2])]; rfl
   (try dsimp only[awp]);conv=>whnf
   refine fM ?_;(conv=>whnf);refine ⟨?_,rfl⟩;conv=>whnf
   all_goals exact wk
  (try dsimp only[awp]);conv=>whnf
  refine And.intro (fun k0=>?_) (fun k0=>?_)
  ·(try dsimp only[awp]);conv=>whnf
   refine And.intro (fun k1=>?_) (fun k1=>?_)
   ·obtain rfl : R = .ifc 111 (.int .i64 7):=by rw [hR,bad 7 (by decide) (by unfold grErr; rw [if_neg g1,if_neg g2,if_pos ⟨k0,k1⟩])]; rfl
    (try dsimp only[awp]);conv=>whnf
    refine fM ?_;(conv=>whnf);refine ⟨?_,rfl⟩;conv=>whnf
    all_goals exact wk
   have k1 : x.kind = 1:=by omega
   have g3 : ¬ (x.kind ≠ 0 ∧ x.kind ≠ 1):=fun h=>h.2 k1
   (try dsimp only[awp]);conv=>whnf
   refine And.intro (fun _=>?_) (fun h=>absurd k1 h)
   (try dsimp only[awp]);conv=>whnf
   refine ADraw.auto (by kernel_rfl) ?_;conv=>whnf
   refine ⟨inr64 (by simp; omega) (by simp; omega),?_⟩
   rw [show ((x.mem.map AV.str).length : Int) = (x.mem.length : Int) by simp]
   have e1 : (if x.kind = 1 then (4 : Int) else 24) = 4:=if_pos k1
   have e2 : (if x.kind = 1 then (x.mem.length : Int) - 1 else 1) = (x.mem.length : Int) - 1:=if_pos k1
   (try dsimp only[awp]);conv=>whnf
   refine And.intro (fun g4=>?_) (fun g4=>?_)
   ·have g4 : x.mem.length < 2:=by simp only [List.length_map] at g4; omega
    obtain rfl : R = .ifc 111 (.int .i64 11):=by rw [hR,bad 11 (by decide) (by unfold grErr; rw [if_neg g1,if_neg g2,if_neg g3,if_pos g4])]; rfl
    (try dsimp only[awp]);conv=>whnf
    refine fM ?_;(conv=>whnf);refine ⟨?_,rfl⟩;conv=>whnf
    all_goals exact wk
   have g4 : ¬ x.mem.length < 2:=by simp only [List.length_map] at g4; omega
   (try dsimp only[awp]);conv=>whnf
   refine And.intro (fun g5=>?_) (fun g5=>?_)
   ·rw [show ((x.mem.map AV.str).length : Int) = (x.mem.length : Int) by simp,← e1] at g5
    obtain rfl : R = .ifc 111 (.int .i64 11):=by rw [hR,bad 11 (by decide) (by unfold grErr; rw [if_neg g1,if_neg g2,if_neg g3,if_neg g4,if_pos g5])]; rfl
    (try dsimp only[awp]);conv=>whnf
    refine fM ?_;(conv=>whnf);refine ⟨?_,rfl⟩;conv=>whnf
    all_goals exact wk
   rw [show ((x.mem.map AV.str).length : Int) = (x.mem.length : Int) by simp,← e1] at g5
   (try dsimp only[awp]);conv=>whnf
   refine And.intro (fun g6=>?_) (fun g6=>?_)
   ·rw [show ((x.fac.map Rat.av).length : Int) = (x.fac.length : Int) by simp,← e2] at g6
    obtain rfl : R = .ifc 111 (.int .i64 11):=by rw [hR,bad 11 (by decide) (by unfold grErr; rw [if_neg g1,if_neg g2,if_neg g3,if_neg g4,if_neg g5,if_pos g6])]; rfl
    (try dsimp only[awp]);conv=>whnf
    refine fM ?_;(conv=>whnf);refine ⟨?_,rfl⟩;conv=>whnf
    all_goals exact wk
   rw [show ((x.fac.map Rat.av).length : Int) = (x.fac.length : Int) by simp,← e2] at g6
   have hgr : grErr m i x sp = if (memErr m x.mem sp).1 ≠ 0 then memErr m x.mem sp else if (x.fac.any fun f=>!prob f) = true then (3,[]) else memErr m x.mem sp:=by
    unfold grErr; rw [if_neg g1,if_neg g2,if_neg g3,if_neg g4,if_neg g5,if_neg g6]
   (try dsimp only[awp]);conv=>whnf
   refine LoopE.of <| LoopSpec.inv (.refl _ _) (fun (s : Nat × List Str)=>s.1 ≤ x.mem.length ∧ memErr m x.mem sp = memErr m (x.mem.drop s.1) s.2 ∧ s.2.length ≤ sp.length + s.1)
    (fun s=>[(73,.int .i64 s.1),(3,.sl 1 (s.2.map .str) (.own 1))]) (fun s=>[(2,.box x.av),(1,.tok 1 s.2.length),(0,.box m.av)]) (fun s=>x.mem.length - s.1) (0,sp) ?_ (fun _=>rfl) ?_ ?_
   ·exact ⟨Nat.zero_le _,rfl,by simp⟩
   ·refine ⟨?_,.mk ?_ ⟨by simp,by simp,by simp,trivial⟩⟩
    ·all_goals exact wk
    ·all_goals exact wk
   rintro ⟨j,s2⟩ ⟨hj,hnj,hs2⟩ _
   dsimp only at hj hnj hs2
   (try dsimp only[awp]);conv=>whnf
   refine And.intro (fun hh=>?_) (fun hh=>?_)
   ·have hjl : j < x.mem.length:=by simpa using hh
    rw [List.drop_eq_getElem_cons hjl] at hnj
    simp only [memErr] at hnj
    (try dsimp only[awp]);conv=>whnf
    refine aidx hjl ?_
    generalize x.mem[j] = y at *
    (try dsimp only[awp]);conv=>whnf
    refine .pure _ _ ?_ ⟨rfl,rfl⟩ (ce y) fun _=>?_
    ·exact leL_refl _
    (try dsimp only[awp]);conv=>whnf
    refine And.intro (fun q1=>?_) (fun q1=>?_)
    ·rw [if_pos q1] at hnj
     obtain rfl : R = .ifc 111 (.int .i64 5):=by rw [hR,bad 5 (by decide) (by rw [hgr,hnj]; rfl)]; rfl
     (try dsimp only[awp]);conv=>whnf
     refine fM ?_;(conv=>whnf);refine ⟨?_,rfl⟩;conv=>whnf
     all_goals exact wk
    rw [if_neg q1] at hnj
    (try dsimp only[awp]);conv=>whnf
    refine .pure _ _ ?_ ⟨rfl,rfl⟩ (c_containsStr s2 y) fun _=>?_
    ·all_goals exact wk
    (try dsimp only[awp]);conv=>whnf
    refine And.intro (fun q2=>?_) (fun q2=>?_)
    ·rw [if_pos q2] at hnj
     obtain rfl : R = .ifc 111 (.int .i64 6):=by rw [hR,bad 6 (by decide) (by rw [hgr,hnj]; rfl)]; rfl
     (try dsimp only[awp]);conv=>whnf
     refine fM ?_;(conv=>whnf);refine ⟨?_,rfl⟩;conv=>whnf
     all_goals exact wk
    rw [if_neg (by rw [q2]; simp)] at hnj
    (try dsimp only[awp]);conv=>whnf
    refine ⟨by rw [List.length_map],.mk (by simp [maxL]; omega) (by simp; omega) ?_⟩
    (try dsimp only[awp]);conv=>whnf
    refine zA ?_;conv=>whnf
    refine ⟨(j + 1,s2 ++ [y]),?_,?_,?_⟩
    ·exact ⟨hjl,hnj,by show (s2 ++ [y]).length ≤ sp.length + (j + 1); simp; omega⟩
    ·refine ⟨?_,.mk ?_ ⟨by simp,by simp,by simp,trivial⟩⟩
     ·repeat' first|exact rfl|exact trivial|exact wR|exact lR _|apply aI
      all_goals first | (refine leRL_of ?_; simp [strip]; done) | (simp; done) | (simp; omega)
     ·repeat' first|exact rfl|exact trivial|exact wR|exact lR _|apply aI
      all_goals first | (refine leRL_of ?_; simp [strip]; done) | (simp; done) | (simp; omega)
    ·show x.mem.length - (j + 1) < x.mem.length - j
     omega
   have hjl : j = x.mem.length:=by have : ¬ j < x.mem.length:=by simpa using hh
                                   omega
   rw [List.drop_eq_nil_of_le (by omega)] at hnj
   simp only [memErr] at hnj
   rw [hnj,if_neg (by simp)] at hgr
   (try dsimp only[awp]);conv=>whnf
   refine .gen _ _ (c_containsRat x.fac 211 [] (fun f=>!prob f) _ fun f hf=>FnH.ofPure (c_notProb f (hfc f hf)) (leL_refl _) ⟨rfl,rfl⟩) fun _=>?_
   (try dsimp only[awp]);conv=>whnf
   refine And.intro (fun q3=>?_) (fun q3=>?_)
   ·rw [if_pos q3] at hgr
    obtain rfl : R = .ifc 111 (.int .i64 3):=by rw [hR,bad 3 (by decide) (by rw [hgr])]; rfl
    (try dsimp only[awp]);conv=>whnf
    refine fM ?_;(conv=>whnf);refine ⟨?_,rfl⟩;conv=>whnf
    all_goals exact wk
   rw [if_neg (by rw [q3]; simp)] at hgr
   rw [hgr,if_neg (by simp)] at hn
   (try dsimp only[awp]);conv=>whnf
   refine zA ?_;conv=>whnf
   refine ⟨(i + 1,s2),?_,?_,?_⟩
   ·exact ⟨hlt,hn,by show s2.length ≤ 60 * (i + 1); omega⟩
   ·refine ⟨?_,.mk ?_ ⟨by simp,by simp,trivial⟩⟩
    ·all_goals exact wk
    ·all_goals exact wk
   ·show m.grs.length - (i + 1) < m.grs.length - i
    omega
  ·have k0 : x.kind = 0:=by omega
   have g3 : ¬ (x.kind ≠ 0 ∧ x.kind ≠ 1):=fun h=>h.1 k0
   (try dsimp only[awp]);conv=>whnf
   refine And.intro (fun h=>by exfalso; omega) (fun h1=>?_)
   have e1 : (if x.kind = 1 then (4 : Int) else 24) = 24:=if_neg h1
   have e2 : (if x.kind = 1 then (x.mem.length : Int) - 1 else 1) = 1:=if_neg h1
   (try dsimp only[awp]);conv=>whnf
   refine And.intro (fun g4=>?_) (fun g4=>?_)
   ·have g4 : x.mem.length < 2:=by simp only [List.length_map] at g4; omega
    obtain rfl : R = .ifc 111 (.int .i64 11):=by rw [hR,bad 11 (by decide) (by unfold grErr; rw [if_neg g1,if_neg g2,if_neg g3,if_pos g4])]; rfl
    (try dsimp only[awp]);conv=>whnf
    refine fM ?_;(conv=>whnf);refine ⟨?_,rfl⟩;conv=>whnf
    all_goals exact wk
   have g4 : ¬ x.mem.length < 2:=by simp only [List.length_map] at g4; omega
   (try dsimp only[awp]);conv=>whnf
   refine And.intro (fun g5=>?_) (fun g5=>?_)
   ·rw [show ((x.mem.map AV.str).length : Int) = (x.mem.length : Int) by simp,← e1] at g5
    obtain rfl : R = .ifc 111 (.int .i64 11):=by rw [hR,bad 11 (by decide) (by unfold grErr; rw [if_neg g1,if_neg g2,if_neg g3,if_neg g4,if_pos g5])]; rfl
    (try dsimp only[awp]);conv=>whnf
    refine fM ?_;(conv=>whnf);refine ⟨?_,rfl⟩;conv=>whnf
    all_goals exact wk
   rw [show ((x.mem.map AV.str).length : Int) = (x.mem.length : Int) by simp,← e1] at g5
   (try dsimp only[awp]);conv=>whnf
   refine And.intro (fun g6=>?_) (fun g6=>?_)
   ·rw [show ((x.fac.map Rat.av).length : Int) = (x.fac.length : Int) by simp,← e2] at g6
    obtain rfl : R = .ifc 111 (.int .i64 11):=by rw [hR,bad 11 (by decide) (by unfold grErr; rw [if_neg g1,if_neg g2,if_neg g3,if_neg g4,if_neg g5,if_pos g6])]; rfl
    (try dsimp only[awp]);conv=>whnf
    refine fM ?_;(conv=>whnf);refine ⟨?_,rfl⟩;conv=>whnf
    all_goals exact wk
   rw [show ((x.fac.map Rat.av).length : Int) = (x.fac.length : Int) by simp,← e2] at g6
   have hgr : grErr m i x sp = if (memErr m x.mem sp).1 ≠ 0 then memErr m x.mem sp else if (x.fac.any fun f=>!prob f) = true then (3,[]) else memErr m x.mem sp:=by
    unfold grErr; rw [if_neg g1,if_neg g2,if_neg g3,if_neg g4,if_neg g5,if_neg g6]
   (try dsimp only[awp]);conv=>whnf
   refine LoopE.of <| LoopSpec.inv (.refl _ _) (fun (s : Nat × List Str)=>s.1 ≤ x.mem.length ∧ memErr m x.mem sp = memErr m (x.mem.drop s.1) s.2 ∧ s.2.length ≤ sp.length + s.1)
    (fun s=>[(73,.int .i64 s.1),(3,.sl 1 (s.2.map .str) (.own 1))]) (fun s=>[(2,.box x.av),(1,.tok 1 s.2.length),(0,.box m.av)]) (fun s=>x.mem.length - s.1) (0,sp) ?_ (fun _=>rfl) ?_ ?_
   ·exact ⟨Nat.zero_le _,rfl,by simp⟩
   ·refine ⟨?_,.mk ?_ ⟨by simp,by simp,by simp,trivial⟩⟩
    ·all_goals exact wk
    ·all_goals exact wk
   rintro ⟨j,s2⟩ ⟨hj,hnj,hs2⟩ _
   dsimp only at hj hnj hs2
   (try dsimp only[awp]);conv=>whnf
   refine And.intro (fun hh=>?_) (fun hh=>?_)
   ·have hjl : j < x.mem.length:=by simpa using hh
    rw [List.drop_eq_getElem_cons hjl] at hnj
    simp only [memErr] at hnj
    (try dsimp only[awp]);conv=>whnf
    refine aidx hjl ?_
    generalize x.mem[j] = y at *
    (try dsimp only[awp]);conv=>whnf
    refine .pure _ _ ?_ ⟨rfl,rfl⟩ (ce y) fun _=>?_
    ·exact leL_refl _
    (try dsimp only[awp]);conv=>whnf
    refine And.intro (fun q1=>?_) (fun q1=>?_)
    ·rw [if_pos q1] at hnj
     obtain rfl : R = .ifc 111 (.int .i64 5):=by rw [hR,bad 5 (by decide) (by rw [hgr,hnj]; rfl)]; rfl
     (try dsimp only[awp]);conv=>whnf
     refine fM ?_;(conv=>whnf);refine ⟨?_,rfl⟩;conv=>whnf
     all_goals exact wk
    rw [if_neg q1] at hnj
    (try dsimp only[awp]);conv=>whnf
    refine .pure _ _ ?_ ⟨rfl,rfl⟩ (c_containsStr s2 y) fun _=>?_
    ·all_goals exact wk
    (try dsimp only[awp]);conv=>whnf
    refine And.intro (fun q2=>?_) (fun q2=>?_)
    ·rw [if_pos q2] at hnj
     obtain rfl : R = .ifc 111 (.int .i64 6):=by rw [hR,bad 6 (by decide) (by rw [hgr,hnj]; rfl)]; rfl
     (try dsimp only[awp]);conv=>whnf
     refine fM ?_;(conv=>whnf);refine ⟨?_,rfl⟩;conv=>whnf
     all_goals exact wk
    rw [if_neg (by rw [q2]; simp)] at hnj
    (try dsimp only[awp]);conv=>whnf
    refine ⟨by rw [List.length_map],.mk (by simp [maxL]; omega) (by simp; omega) ?_⟩
    (try dsimp only[awp]);conv=>whnf
    refine zA ?_;conv=>whnf
    refine ⟨(j + 1,s2 ++ [y]),?_,?_,?_⟩
    ·exact ⟨hjl,hnj,by show (s2 ++ [y]).length ≤ sp.length + (j + 1); simp; omega⟩
    ·refine ⟨?_,.mk ?_ ⟨by simp,by simp,by simp,trivial⟩⟩
     ·repeat' first|exact rfl|exact trivial|exact wR|exact lR _|apply aI
      all_goals first | (refine leRL_of ?_; simp [strip]; done) | (simp; done) | (simp; omega)
     ·repeat' first|exact rfl|exact trivial|exact wR|exact lR _|apply aI
      all_goals first | (refine leRL_of ?_; simp [strip]; done) | (simp; done) | (simp; omega)
    ·show x.mem.length - (j + 1) < x.mem.length - j
     omega
   have hjl : j = x.mem.length:=by have : ¬ j < x.mem.length:=by simpa using hh
                                   omega
   rw [List.drop_eq_nil_of_le (by omega)] at hnj
   simp only [memErr] at hnj
   rw [hnj,if_neg (by simp)] at hgr
   (try dsimp only[awp]);conv=>whnf
   refine .gen _ _ (c_containsRat x.fac 211 [] (fun f=>!prob f) _ fun f hf=>FnH.ofPure (c_notProb f (hfc f hf)) (leL_refl _) ⟨rfl,rfl⟩) fun _=>?_
   (try dsimp only[awp]);conv=>whnf
   refine And.intro (fun q3=>?_) (fun q3=>?_)
   ·rw [if_pos q3] at hgr
    obtain rfl : R = .ifc 111 (.int .i64 3):=by rw [hR,bad 3 (by decide) (by rw [hgr])]; rfl
    (try dsimp only[awp]);conv=>whnf
    refine fM ?_;(conv=>whnf);refine ⟨?_,rfl⟩;conv=>whnf
    all_goals exact wk
   rw [if_neg (by rw [q3]; simp)] at hgr
   rw [hgr,if_neg (by simp)] at hn
   (try dsimp only[awp]);conv=>whnf
   refine zA ?_;conv=>whnf
   refine ⟨(i + 1,s2),?_,?_,?_⟩
   ·exact ⟨hlt,hn,by show s2.length ≤ 60 * (i + 1); omega⟩
   ·refine ⟨?_,.mk ?_ ⟨by simp,by simp,trivial⟩⟩
    ·all_goals exact wk
    ·all_goals exact wk
   ·show m.grs.length - (i + 1) < m.grs.length - i
    omega
 ·have hil : i = m.grs.length:=by have : ¬ i < m.grs.length:=by simpa using h
                                  omega
  rw [List.drop_eq_nil_of_le (by omega)] at hn
  simp only [grsErr] at hn
  rw [hge,hn] at hR
  subst hR
  (try dsimp only[awp]);conv=>whnf
  refine fM ?_;(conv=>whnf);refine ⟨?_,rfl⟩;conv=>whnf
  all_goals exact wk

def pvErr (m : Md) (x : Ph) (k : Nat) (v : Pv) : Int :=
 if i_event m.evs v.ev < 0 then 5 else if idxP (fun y=>decide (y.ev = v.ev)) x.vals < k then 6 else if prob v.p = false then 3 else 0

def phErr (m : Md) (i : Nat) (x : Ph) : Int :=
 if nameR x.name = false then 5 else if idxP (fun y=>decide (y.name = x.name)) m.phs < i then 6
 else if isInR m (-1) x.top = false then 5 else errL (pvErr m x) 0 x.vals

def phasesErr (m : Md) : Int:=if 6 < m.phs.length then 4 else errL (phErr m) 0 m.phs

theorem c1_ph (x y : Ph) (m : Md) : FnH Tryz.prog 213 [y.av,.ptr 1 [] 0] [(1,.box x.av),(0,.box m.av)] (.bool (decide (y.name = x.name))) [(1,.box x.av),(0,.box m.av)]:=by
 refine FnH.intro lay mixed Tryz.func213 (by kernel_rfl) rfl (by kernel_rfl) rfl fun hok=>?_
 (try dsimp only[argC,succC]);(try dsimp only[awp]);conv=>whnf
 refine ⟨⟨_,_,.refl _ _,?_⟩⟩
 conv=>whnf
 refine ⟨?_,rfl,by simp [nextId],.mk ?_ ⟨by simp,by simp,trivial⟩⟩
 ·show _ ↔ _
  simp
 ·all_goals exact wk

theorem c2_ph (v y : Pv) (x : Ph) (m : Md) : FnH Tryz.prog 215 [y.av,.ptr 2 [] 0] [(2,.box v.av),(1,.box x.av),(0,.box m.av)] (.bool (decide (y.ev = v.ev))) [(2,.box v.av),(1,.box x.av),(0,.box m.av)]:=by
 refine FnH.intro lay mixed Tryz.func215 (by kernel_rfl) rfl (by kernel_rfl) rfl fun hok=>?_
 (try dsimp only[argC,succC]);(try dsimp only[awp]);conv=>whnf
 refine ⟨⟨_,_,.refl _ _,?_⟩⟩
 conv=>whnf
 refine ⟨?_,rfl,by simp [nextId],.mk ?_ ⟨by simp,by simp,by simp,trivial⟩⟩
 ·show _ ↔ _
  simp
 ·all_goals exact wk

theorem c_checkPhases (m : Md) (hC : MdC m) (hB : MdB m) (R : AV) (hR : R = errAV (phasesErr m)) : FnH Tryz.prog 115 [m.av] [] R []:=by
 have ce:=fun s=>c_event m s
 have ci:=fun s=>c_isInput m (-1) s (.inl rfl)
 have hpl:=hB.phs
 refine FnH.intro lay mixed Tryz.func115 (by kernel_rfl) rfl (by kernel_rfl) rfl fun hok=>?_
 (try dsimp only[argC,succC]);(try dsimp only[awp]);conv=>whnf
 refine And.intro (fun h1=>?_) (fun h1=>?_)
 ·have h1 : 6 < m.phs.length:=by simp only [List.length_map] at h1; omega
  obtain rfl : R = .ifc 111 (.int .i64 4):=by rw [hR,show phasesErr m = 4 from if_pos h1]; rfl
  (try dsimp only[awp]);conv=>whnf
  refine fM ?_;(conv=>whnf);refine ⟨?_,rfl⟩;conv=>whnf
  all_goals exact wk
 have h1 : ¬ 6 < m.phs.length:=by simp only [List.length_map] at h1; omega
 have hge : phasesErr m = errL (phErr m) 0 m.phs:=if_neg h1
 (try dsimp only[awp]);conv=>whnf
 refine LoopE.of <| LoopSpec.inv (.refl _ _) (fun (i : Nat)=>i ≤ m.phs.length ∧ errL (phErr m) 0 m.phs = errL (phErr m) i (m.phs.drop i)) (fun (i : Nat)=>[(15,.int .i64 i)]) (fun _=>_) (fun (i : Nat)=>m.phs.length - i) 0 ?_ (fun _=>rfl) ?_ ?_
 ·exact ⟨Nat.zero_le _,rfl⟩
 ·all_goals exact wk
 rintro i ⟨hi,hn⟩ _
 (try dsimp only[awp]);conv=>whnf
 refine And.intro (fun h=>?_) (fun h=>?_)
 ·have hlt : i < m.phs.length:=by simpa using h
  have hvl:=hB.vals _ (List.getElem_mem hlt)
  have hfc:=hC.phs _ (List.getElem_mem hlt)
  rw [errL_step hlt] at hn
  have bad : ∀ e : Int,e ≠ 0 → phErr m i m.phs[i] = e → phasesErr m = e:=by
   intro e he h
   rw [h,if_pos he] at hn
   rw [hge,hn]
  (try dsimp only[awp]);conv=>whnf
  refine aidx hlt ?_
  generalize hx0 : m.phs[i] = x at *
  (try dsimp only[awp]);conv=>whnf
  refine .pure _ _ ?_ ⟨rfl,rfl⟩ (c_tokenName x.name) fun _=>?_
  ·exact leL_refl _
  (try dsimp only[awp]);conv=>whnf
  refine And.intro (fun g1=>?_) (fun g1=>?_)
  ·have g1 : nameR x.name = false:=by simpa using g1
   obtain rfl : R = .ifc 111 (.int .i64 5):=by rw [hR,bad 5 (by decide) (by unfold phErr; rw [if_pos g1])]; rfl
   (try dsimp only[awp]);conv=>whnf
   refine fM ?_;(conv=>whnf);refine ⟨?_,rfl⟩;conv=>whnf
   all_goals exact wk
  have g1 : ¬ nameR x.name = false:=by simpa using g1
  (try dsimp only[awp]);conv=>whnf
  refine .gen _ _ (c_idx_Ph m.phs 213 [.ptr 1 [] 0] (fun y=>decide (y.name = x.name)) _ fun y _=>c1_ph x y m) fun _=>?_
  (try dsimp only[awp]);conv=>whnf
  refine And.intro (fun g2=>?_) (fun g2=>?_)
  ·obtain rfl : R = .ifc 111 (.int .i64 6):=by rw [hR,bad 6 (by decide) (by unfold phErr; rw [if_neg g1,if_pos g2])]; rfl
   (try dsimp only[awp]);conv=>whnf
   refine fM ?_;(conv=>whnf);refine ⟨?_,rfl⟩;conv=>whnf
   all_goals exact wk
  (try dsimp only[awp]);conv=>whnf
  refine .pure _ _ ?_ ⟨rfl,rfl⟩ (ci x.top) fun _=>?_
  ·exact leL_refl _
  (try dsimp only[awp]);conv=>whnf
  refine And.intro (fun g3=>?_) (fun g3=>?_)
  ·have g3 : isInR m (-1) x.top = false:=by simpa using g3
   obtain rfl : R = .ifc 111 (.int .i64 5):=by rw [hR,bad 5 (by decide) (by unfold phErr; rw [if_neg g1,if_neg g2,if_pos g3])]; rfl
   (try dsimp only[awp]);conv=>whnf
   refine fM ?_;(conv=>whnf);refine ⟨?_,rfl⟩;conv=>whnf
   all_goals exact wk
  have g3 : ¬ isInR m (-1) x.top = false:=by simpa using g3
  have hph : phErr m i x = errL (pvErr m x) 0 x.vals:=by unfold phErr; rw [if_neg g1,if_neg g2,if_neg g3]
  rw [hph] at bad hn
  (try dsimp only[awp]);conv=>whnf
  refine LoopE.of <| LoopSpec.inv (.refl _ _) (fun (j : Nat)=>j ≤ x.vals.length ∧ errL (pvErr m x) 0 x.vals = errL (pvErr m x) j (x.vals.drop j)) (fun (j : Nat)=>[(41,.int .i64 j)]) (fun _=>_) (fun (j : Nat)=>x.vals.length - j) 0 ?_ (fun _=>rfl) ?_ ?_
  ·exact ⟨Nat.zero_le _,rfl⟩
  ·all_goals exact wk
  rintro j ⟨hj,hnj⟩ _
  (try dsimp only[awp]);conv=>whnf
  refine And.intro (fun hh=>?_) (fun hh=>?_)
  ·have hjl : j < x.vals.length:=by simpa using hh
   have hp:=hfc _ (List.getElem_mem hjl)
   rw [errL_step hjl] at hnj
   have bad : ∀ e : Int,e ≠ 0 → pvErr m x j x.vals[j] = e → phasesErr m = e:=by
    intro e he h
    rw [h,if_pos he] at hnj
    exact bad e he hnj
   (try dsimp only[awp]);conv=>whnf
   refine aidx hjl ?_
   generalize x.vals[j] = v at *
   (try dsimp only[awp]);conv=>whnf
   refine .pure _ _ ?_ ⟨rfl,rfl⟩ (ce v.ev) fun _=>?_
   ·exact leL_refl _
   (try dsimp only[awp]);conv=>whnf
   refine And.intro (fun q1=>?_) (fun q1=>?_)
   ·obtain rfl : R = .ifc 111 (.int .i64 5):=by rw [hR,bad 5 (by decide) (by unfold pvErr; rw [if_pos q1])]; rfl
    (try dsimp only[awp]);conv=>whnf
    refine fM ?_;(conv=>whnf);refine ⟨?_,rfl⟩;conv=>whnf
    all_goals exact wk
   (try dsimp only[awp]);conv=>whnf
   refine .gen _ _ (c_idx_Pv x.vals 215 [.ptr 2 [] 0] (fun y=>decide (y.ev = v.ev)) _ fun y _=>c2_ph v y x m) fun _=>?_
   (try dsimp only[awp]);conv=>whnf
   refine And.intro (fun q2=>?_) (fun q2=>?_)
   ·obtain rfl : R = .ifc 111 (.int .i64 6):=by rw [hR,bad 6 (by decide) (by unfold pvErr; rw [if_neg q1,if_pos q2])]; rfl
    (try dsimp only[awp]);conv=>whnf
    refine fM ?_;(conv=>whnf);refine ⟨?_,rfl⟩;conv=>whnf
    all_goals exact wk
   (try dsimp only[awp]);conv=>whnf
   refine .pure _ _ ?_ ⟨rfl,rfl⟩ hp.p fun _=>?_
   ·exact leL_refl _
   (try dsimp only[awp]);conv=>whnf
   refine And.intro (fun q3=>?_) (fun q3=>?_)
   ·have q3 : prob v.p = false:=by simpa using q3
    obtain rfl : R = .ifc 111 (.int .i64 3):=by rw [hR,bad 3 (by decide) (by unfold pvErr; rw [if_neg q1,if_neg q2,if_pos q3])]; rfl
    (try dsimp only[awp]);conv=>whnf
    refine fM ?_;(conv=>whnf);refine ⟨?_,rfl⟩;conv=>whnf
    all_goals exact wk
   have q3 : ¬ prob v.p = false:=by simpa using q3
   (try dsimp only[awp]);conv=>whnf
   refine zA ?_;conv=>whnf
   refine ⟨j + 1,?_,?_,?_⟩
   ·exact ⟨hjl,by rw [hnj,if_neg (by rw [show pvErr m x j v = 0 from by unfold pvErr; rw [if_neg q1,if_neg q2,if_neg q3]]; simp)]⟩
   ·refine ⟨?_,.mk ?_ ⟨by simp,by simp,trivial⟩⟩
    ·all_goals exact wk
    ·all_goals exact wk
   ·omega
  have hjl : j = x.vals.length:=by have : ¬ j < x.vals.length:=by simpa using hh
                                   omega
  rw [errL_end (by omega)] at hnj
  rw [hnj,if_neg (by simp)] at hn
  (try dsimp only[awp]);conv=>whnf
  refine zA ?_;conv=>whnf
  refine ⟨i + 1,?_,?_,?_⟩
  ·exact ⟨hlt,hn⟩
  ·refine ⟨?_,.mk ?_ ⟨by simp,trivial⟩⟩
   ·all_goals exact wk
   ·all_goals exact wk
  ·omega
 ·have hil : i = m.phs.length:=by have : ¬ i < m.phs.length:=by simpa using h
                                  omega
  rw [errL_end (by omega)] at hn
  rw [hge,hn] at hR
  subst hR
  (try dsimp only[awp]);conv=>whnf
  refine fM ?_;(conv=>whnf);refine ⟨?_,rfl⟩;conv=>whnf
  all_goals exact wk

abbrev Node:=Int × Int × Int
abbrev nAV (x : Node) : AV:=.ag [.int .i64 x.1,.int .i64 x.2.1,.int .i64 x.2.2]

def resOn (m : Md) (a : Int) (s : Str) : Node :=
 if 0 ≤ i_event m.evs s then (0,0,i_event m.evs s) else if 0 ≤ i_house m.hs s then (1,0,i_house m.hs s) else (2,a,i_gate (gatesM m a) s)

def resR (m : Md) (a : Int) (s : Str) : Node :=
 if atS s = true then resOn m (i_page m.pages (s.drop 1)) (pageTop m (i_page m.pages (s.drop 1))) else resOn m a s

theorem idxP_lt {α : Type} (p : α → Bool) (l : List α) : idxP p l < (l.length : Int):=by
 rcases idxP_cases p l with ⟨h,_⟩ | ⟨i,h,h1,_⟩ <;> omega

theorem c_resolve (m : Md) (a : Int) (s : Str) (h0 : 0 < s.length) (ha : a = -1 ∨ (0 ≤ a ∧ a < (m.pages.length : Int))) (hp : atS s = true → 0 ≤ i_page m.pages (s.drop 1)) : FnH Tryz.prog 263 [m.av,.int .i64 a,.str s] [] (nAV (resR m a s)) []:=by
 have ce:=fun s=>c_event m s
 have ch:=fun s=>c_house m s
 have cG:=fun a h=>c_gatesOf m a h
 have cg:=fun a s=>c_gate (gatesM m a) s
 have cp:=c_page m (s.drop 1)
 have hpl : i_page m.pages (s.drop 1) < (m.pages.length : Int):=idxP_lt _ _
 refine FnH.intro lay mixed Tryz.func263 (by kernel_rfl) rfl (by kernel_rfl) rfl fun hok=>?_
 (try dsimp only[argC,succC]);(try dsimp only[awp]);conv=>whnf
 refine sidx0 h0 ?_
 (try dsimp only[awp]);conv=>whnf
 refine And.intro (fun h2=>?_) (fun h2=>?_)
 ·have e : atS s = true:=by simp only [atS,h0,h2,decide_true,Bool.true_and]
  have hp:=hp e
  rw [show resR m a s = resOn m (i_page m.pages (s.drop 1)) (pageTop m (i_page m.pages (s.drop 1))) from if_pos e]
  have hpt : (m.pages.getD (i_page m.pages (s.drop 1)).toNat default).top = pageTop m (i_page m.pages (s.drop 1)):=rfl
  (try dsimp only[awp]);conv=>whnf
  refine ADraw.auto (by kernel_rfl) ?_;conv=>whnf
  refine ⟨⟨by omega,by omega,by omega⟩,?_⟩
  rw [cut1]
  (try dsimp only[awp]);conv=>whnf
  refine ACallP.pure _ _ ?_ ⟨rfl,rfl⟩ cp ?_
  ·exact leL_refl _
  generalize i_page m.pages (s.drop 1) = p at *
  have hpb : p = -1 ∨ (0 ≤ p ∧ p < (m.pages.length : Int)):=.inr ⟨hp,hpl⟩
  (try dsimp only[awp]);conv=>whnf
  refine aidxD default ⟨hp,hpl⟩ ?_
  (try dsimp only[awp]);conv=>whnf
  rw [hpt]
  generalize pageTop m p = t at *
  (try dsimp only[awp]);conv=>whnf
  refine .pure _ _ ?_ ⟨rfl,rfl⟩ (ce t) fun _=>?_
  ·exact leL_refl _
  (try dsimp only[awp]);conv=>whnf
  refine And.intro (fun h3=>?_) (fun h3=>?_)
  ·rw [show resOn m p t = (0,0,i_event m.evs t) from if_pos h3]
   (try dsimp only[awp]);conv=>whnf
   refine fM ?_;(conv=>whnf);refine ⟨?_,rfl⟩;conv=>whnf
   all_goals exact wk
  (try dsimp only[awp]);conv=>whnf
  refine .pure _ _ ?_ ⟨rfl,rfl⟩ (ch t) fun _=>?_
  ·exact leL_refl _
  (try dsimp only[awp]);conv=>whnf
  refine And.intro (fun h4=>?_) (fun h4=>?_)
  ·rw [show resOn m p t = (1,0,i_house m.hs t) from (if_neg h3).trans (if_pos h4)]
   (try dsimp only[awp]);conv=>whnf
   refine fM ?_;(conv=>whnf);refine ⟨?_,rfl⟩;conv=>whnf
   all_goals exact wk
  rw [show resOn m p t = (2,p,i_gate (gatesM m p) t) from (if_neg h3).trans (if_neg h4)]
  (try dsimp only[awp]);conv=>whnf
  refine .pure _ _ ?_ ⟨rfl,rfl⟩ (cG p (by assumption)) fun _=>?_
  ·exact leL_refl _
  (try dsimp only[awp]);conv=>whnf
  refine .pure _ _ ?_ ⟨rfl,rfl⟩ (cg p t) fun _=>?_
  ·exact leL_refl _
  (try dsimp only[awp]);conv=>whnf
  refine fM ?_;(conv=>whnf);refine ⟨?_,rfl⟩;conv=>whnf
  all_goals exact wk
 ·have e : atS s = false:=by simp only [atS,decide_eq_false h2,Bool.and_false]
  rw [show resR m a s = resOn m a s from if_neg (by rw [e]; simp)]
  (try dsimp only[awp]);conv=>whnf
  refine .pure _ _ ?_ ⟨rfl,rfl⟩ (ce s) fun _=>?_
  ·exact leL_refl _
  (try dsimp only[awp]);conv=>whnf
  refine And.intro (fun h3=>?_) (fun h3=>?_)
  ·rw [show resOn m a s = (0,0,i_event m.evs s) from if_pos h3]
   (try dsimp only[awp]);conv=>whnf
   refine fM ?_;(conv=>whnf);refine ⟨?_,rfl⟩;conv=>whnf
   all_goals exact wk
  (try dsimp only[awp]);conv=>whnf
  refine .pure _ _ ?_ ⟨rfl,rfl⟩ (ch s) fun _=>?_
  ·exact leL_refl _
  (try dsimp only[awp]);conv=>whnf
  refine And.intro (fun h4=>?_) (fun h4=>?_)
  ·rw [show resOn m a s = (1,0,i_house m.hs s) from (if_neg h3).trans (if_pos h4)]
   (try dsimp only[awp]);conv=>whnf
   refine fM ?_;(conv=>whnf);refine ⟨?_,rfl⟩;conv=>whnf
   all_goals exact wk
  rw [show resOn m a s = (2,a,i_gate (gatesM m a) s) from (if_neg h3).trans (if_neg h4)]
  (try dsimp only[awp]);conv=>whnf
  refine .pure _ _ ?_ ⟨rfl,rfl⟩ (cG a (by assumption)) fun _=>?_
  ·exact leL_refl _
  (try dsimp only[awp]);conv=>whnf
  refine .pure _ _ ?_ ⟨rfl,rfl⟩ (cg a s) fun _=>?_
  ·exact leL_refl _
  (try dsimp only[awp]);conv=>whnf
  refine fM ?_;(conv=>whnf);refine ⟨?_,rfl⟩;conv=>whnf
  all_goals exact wk

abbrev Marks:=List (Node × Int)

def look : Marks → Node → Int
 | [],_=>0
 | (y,v) :: es,x=>if y = x then v else look es x

def mark : Marks → Node → Int → Marks
 | [],x,v=>[(x,v)]
 | (y,u) :: es,x,v=>if y = x then (x,v) :: es else (y,u) :: mark es x v

abbrev encM (es : Marks) : List (AV × AV):=es.map fun e=>(nAV e.1,.int .i64 e.2)

theorem kv_inj {x y : Node} : kvC (nAV x) = kvC (nAV y) ↔ x = y:=by
 obtain ⟨a,b,c⟩:=x
 obtain ⟨d,e,f⟩:=y
 simp [kvC,kvCL]

theorem alook_es {es : Marks} {x : Node} {k : AV → Prop} (h : k (.int .i64 (look es x))) : ALook (encM es) (nAV x) fun r=>lookK false (.int .i64 0) r k:=by
 have key : ∃ r,LookR (encM es) (nAV x) r ∧ lookK false (.int .i64 0) r k:=by
  induction es with
  | nil=>exact ⟨none,by simp [LookR,encM],h⟩
  | cons e es ih =>
    obtain ⟨y,v⟩:=e
    by_cases hy : y = x
    ·subst hy
     refine ⟨some (.int .i64 v),⟨_,List.mem_cons_self,rfl,rfl⟩,?_⟩
     rw [show look ((y,v) :: es) y = v from if_pos rfl] at h
     exact h
    ·have h' : k (.int .i64 (look es x)):=by rw [show look ((y,v) :: es) x = look es x from if_neg hy] at h; exact h
     obtain ⟨r,h1,h2⟩:=ih h'
     refine ⟨r,?_,h2⟩
     cases r with
     | none =>
       intro z hz
       simp only [encM,List.map_cons,List.mem_cons] at hz
       rcases hz with rfl | hz
       ·exact fun e=>hy (kv_inj.1 e)
       ·exact h1 z hz
     | some w =>
       obtain ⟨z,hz,h3,h4⟩:=h1
       exact ⟨z,by simp only [encM,List.map_cons,List.mem_cons]; exact .inr hz,h3,h4⟩
 exact ⟨key⟩

theorem upd_es {es : Marks} {x : Node} {v : Int} : UpdR (encM es) (nAV x) (.int .i64 v) (encM (mark es x v)):=by
 induction es with
 | nil=>exact .inl ⟨by simp [encM],rfl⟩
 | cons e es ih =>
   obtain ⟨y,u⟩:=e
   by_cases hy : y = x
   ·subst hy
    exact .inr ⟨0,(nAV y,.int .i64 u),rfl,rfl,by simp [mark,encM]⟩
   ·simp only [mark,if_neg hy]
    rcases ih with ⟨h1,h2⟩ | ⟨j,z,h1,h2,h3⟩
    ·refine .inl ⟨?_,?_⟩
     ·intro z hz
      simp only [encM,List.map_cons,List.mem_cons] at hz
      rcases hz with rfl | hz
      ·exact fun e=>hy (kv_inj.1 e)
      ·exact h1 z hz
     ·simp only [encM,List.map_cons,List.cons_append] at h2 ⊢
      rw [h2]
    ·refine .inr ⟨j + 1,z,by simpa [encM] using h1,h2,?_⟩
     simp only [encM,List.map_cons,List.set_cons_succ] at h3 ⊢
     rw [h3]

theorem aupd_es {es : Marks} {x : Node} {v : Int} {k : List (AV × AV) → Prop} (h : k (encM (mark es x v))) : AUpd (encM es) (nAV x) (.int .i64 v) k:=⟨_,upd_es,h⟩

theorem look_mark {es : Marks} {x y : Node} {v : Int} : look (mark es x v) y = if x = y then v else look es y:=by
 induction es with
 | nil=>simp [mark,look]
 | cons e es ih =>
   obtain ⟨z,u⟩:=e
   simp only [mark]
   by_cases hz : z = x
   ·subst hz
    rw [if_pos rfl]
    simp only [look]
    split <;> rfl
   ·rw [if_neg hz]
    simp only [look,ih]
    by_cases h1 : z = y
    ·subst h1
     rw [if_pos rfl,if_pos rfl,if_neg (fun e=>hz e.symm)]
    ·rw [if_neg h1,if_neg h1]

structure WS (σ : Type) where
 es : Marks
 st : σ

def kidsF {σ : Type} (f : Node → WS σ → Bool × WS σ) : List Node → WS σ → Bool × WS σ
 | [],s=>(false,s)
 | y :: l,s=>if (f y s).1 = true then f y s else kidsF f l (f y s).2

def walkF {σ : Type} (kids : Node → List Node) (step : σ → Node → σ) : Nat → Node → WS σ → Bool × WS σ
 | 0,_,s=>(false,s)
 | n + 1,x,s =>
   if x.1 ≠ 2 then (false,⟨s.es,step s.st x⟩)
   else if look s.es x = 1 then (true,s)
   else if look s.es x = 2 then (false,s)
   else if (kidsF (walkF kids step n) (kids x) ⟨mark s.es x 1,step s.st x⟩).1 = true then kidsF (walkF kids step n) (kids x) ⟨mark s.es x 1,step s.st x⟩
   else (false,⟨mark (kidsF (walkF kids step n) (kids x) ⟨mark s.es x 1,step s.st x⟩).2.es x 2,(kidsF (walkF kids step n) (kids x) ⟨mark s.es x 1,step s.st x⟩).2.st⟩)

def isM (es : Marks) (x : Node) : Bool:=decide (look es x = 1) || decide (look es x = 2)

def free (all : List Node) (es : Marks) : Nat:=(all.filter fun x=>!isM es x).length

def MLe (es es' : Marks) : Prop:=∀ x,isM es x = true → isM es' x = true

theorem MLe.refl (es : Marks) : MLe es es:=fun _ h=>h
theorem MLe.trans {a b c : Marks} (h1 : MLe a b) (h2 : MLe b c) : MLe a c:=fun x h=>h2 x (h1 x h)

theorem isM_mark {es : Marks} {x y : Node} {v : Int} (hv : v = 1 ∨ v = 2) : isM (mark es x v) y = if x = y then true else isM es y:=by
 unfold isM
 rw [look_mark]
 split
 ·rcases hv with rfl | rfl <;> rfl
 ·rfl

theorem MLe.mark {es : Marks} {x : Node} {v : Int} (hv : v = 1 ∨ v = 2) : MLe es (mark es x v):=by
 intro y hy
 rw [isM_mark hv]
 split
 ·rfl
 ·exact hy

theorem filter_len_le {α : Type} {p q : α → Bool} : ∀ {l : List α},(∀ x ∈ l,p x = true → q x = true) → (l.filter p).length ≤ (l.filter q).length
 | [],_=>by simp
 | x :: l,h=>by
   have ih:=filter_len_le (l:=l) fun y hy=>h y (by simp [hy])
   have hx:=h x (by simp)
   simp only [List.filter_cons]
   cases hp : p x with
   | true=>rw [hx hp]; simp; exact ih
   | false =>
     cases hq : q x with
     | true=>simp; omega
     | false=>simpa using ih

theorem filter_len_lt {α : Type} {p q : α → Bool} : ∀ {l : List α} {y : α},(∀ x ∈ l,p x = true → q x = true) → y ∈ l → p y = false → q y = true → (l.filter p).length < (l.filter q).length
 | [],_,_,h,_,_=>by simp at h
 | x :: l,y,h,hy,h1,h2=>by
   have ihle:=filter_len_le (l:=l) fun z hz=>h z (by simp [hz])
   rcases List.mem_cons.1 hy with rfl | hy
   ·simp only [List.filter_cons,h1,h2]
    simp; omega
   ·have ih:=filter_len_lt (l:=l) (fun z hz=>h z (by simp [hz])) hy h1 h2
    have hx:=h x (by simp)
    simp only [List.filter_cons]
    cases hp : p x with
    | true=>rw [hx hp]; simp; exact ih
    | false =>
      cases hq : q x with
      | true=>simp; omega
      | false=>simpa using ih

theorem free_le {all : List Node} {es es' : Marks} (h : MLe es es') : free all es' ≤ free all es:=by
 unfold free
 refine filter_len_le fun x _ hx=>?_
 have:=h x
 cases h1 : isM es x with
 | false=>rfl
 | true=>rw [this h1] at hx; cases hx

theorem free_lt {all : List Node} {es : Marks} {x : Node} {v : Int} (hx : x ∈ all) (h1 : look es x ≠ 1) (h2 : look es x ≠ 2) (hv : v = 1 ∨ v = 2) : free all (mark es x v) < free all es:=by
 unfold free
 refine filter_len_lt (y:=x) (fun y _ hy=>?_) hx (by rw [isM_mark hv,if_pos rfl]; rfl) (by unfold isM; rw [decide_eq_false h1,decide_eq_false h2]; rfl)
 rw [isM_mark hv] at hy
 split at hy
 ·cases hy
 ·exact hy

theorem kidsF_mle {σ : Type} {f : Node → WS σ → Bool × WS σ} (hf : ∀ x s,MLe s.es (f x s).2.es) : ∀ (l : List Node) (s : WS σ),MLe s.es (kidsF f l s).2.es
 | [],s=>.refl _
 | y :: l,s=>by
   simp only [kidsF]
   split
   ·exact hf y s
   ·exact (hf y s).trans (kidsF_mle hf l _)

theorem walkF_mle {σ : Type} {kids : Node → List Node} {step : σ → Node → σ} : ∀ (n : Nat) (x : Node) (s : WS σ),MLe s.es (walkF kids step n x s).2.es
 | 0,x,s=>.refl _
 | n + 1,x,s=>by
   simp only [walkF]
   split
   ·exact .refl _
   split
   ·exact .refl _
   split
   ·exact .refl _
   have hk:=kidsF_mle (walkF_mle (kids:=kids) (step:=step) n) (kids x) ⟨mark s.es x 1,step s.st x⟩
   have h1 : MLe s.es (mark s.es x 1):=.mark (.inl rfl)
   split
   ·exact h1.trans hk
   ·exact (h1.trans hk).trans (.mark (.inr rfl))

abbrev shN : AV:=.ag [.int .i64 0,.int .i64 0,.int .i64 0]

theorem drop_of_get? {α : Type} {l : List α} {j : Nat} {y : α} (h : l[j]? = some y) : l.drop j = y :: l.drop (j + 1):=by
 obtain ⟨h1,rfl⟩:=List.getElem?_eq_some_iff.1 h
 exact List.drop_eq_getElem_cons h1

def gateAt (m : Md) (x : Node) : Mg:=(gatesM m x.2.1).getD x.2.2.toNat default
def kidsM (m : Md) (x : Node) : List Node:=(gateAt m x).ins.map (resR m x.2.1)

structure NodeOk (m : Md) (all : List Node) (ok : Node → Prop) (x : Node) : Prop where
 page : x.2.1 = -1 ∨ (0 ≤ x.2.1 ∧ x.2.1 < (m.pages.length : Int))
 idx : 0 ≤ x.2.2 ∧ x.2.2 < ((gatesM m x.2.1).length : Int)
 mem : x ∈ all
 len : (gateAt m x).ins.length ≤ 40
 ins : ∀ s ∈ (gateAt m x).ins,0 < s.length ∧ (atS s = true → 0 ≤ i_page m.pages (s.drop 1)) ∧ ok (resR m x.2.1 s)

theorem encM_bnd (n : Nat) : ∀ es : Marks,bndM n (encM es) = true
 | []=>rfl
 | _ :: es=>by
   show (match true,true with | true,true=>bndM n (encM es) | _,_=>false) = true
   exact encM_bnd n es

theorem encM_rn (f : Nat → Nat) : ∀ es : Marks,rnM f (encM es) = encM es
 | []=>rfl
 | _ :: es=>by
   show _ :: rnM f (encM es) = _ :: encM es
   rw [encM_rn f es]; rfl

theorem leM_rn (f : Nat → Nat) (es : Marks) : leM (encM es) (rnM f (encM es)):=by rw [encM_rn]; exact leM_refl _
theorem leM_nr (f : Nat → Nat) (es : Marks) : leM (rnM f (encM es)) (encM es):=by rw [encM_rn]; exact leM_refl _

abbrev hpA {σ : Type} (O : σ → AV) (s : WS σ) (_ : Md) : Heap:=[(1,.amap shN (encM s.es)),(0,.box (O s.st))]
abbrev ehA {σ : Type} (O : σ → AV) (st : σ) (_ : Md) : Heap:=[(0,.box (O st))]

theorem c_walkA {σ : Type} (m : Md) (g : Nat) (O : σ → AV) (hO : ∀ st n,bndB n (O st) = true) (hrn : ∀ st f,rnV f (O st) = O st) (step : σ → Node → σ) (all : List Node) (ok : Node → Prop) (hN : ∀ x,ok x → x.1 = 2 → NodeOk m all ok x)
  (hE : ∀ st x,ok x → FnH Tryz.prog g (nAV x :: [.ptr 0 [] 0]) (ehA O st m) (.tup []) (ehA O (step st x) m)) :
  ∀ (n : Nat) (x : Node) (s : WS σ),ok x → free all s.es < n → FnH Tryz.prog 216 [m.av,nAV x,.mp 1,.fn g [.ptr 0 [] 0]] (hpA O s m) (.bool (walkF (kidsM m) step n x s).1) (hpA O (walkF (kidsM m) step n x s).2 m):=by
 have hle0 : ∀ st f,le0 (O st) (rnV f (O st)):=fun st f=>by rw [hrn]; exact le0_refl _
 have hle1 : ∀ st f,le0 (rnV f (O st)) (O st):=fun st f=>by rw [hrn]; exact le0_refl _
 intro n
 induction n with
 | zero=>intro x s _ h; omega
 | succ n ih =>
   intro x s hx hf
   refine FnH.intro lay mixed Tryz.func216 (by kernel_rfl) rfl (by kernel_rfl) rfl fun hok=>?_
   (try dsimp only[argC,succC]);(try dsimp only[awp]);conv=>whnf
   refine And.intro (fun h1=>?_) (fun h1=>?_)
   ·have e : walkF (kidsM m) step (n + 1) x s = (false,⟨s.es,step s.st x⟩):=by simp only [walkF]; rw [if_pos h1]
    rw [e]
    (try dsimp only[awp]);conv=>whnf
    refine .gen _ _ (FnH.frame [0] (hE s.st x hx) ⟨rfl,rfl,rfl,rfl⟩ ?_ ?_) fun _=>?_
    ·repeat' first|exact rfl|exact trivial|exact wR|exact lR _|apply aI
     all_goals first | exact hle0 _ _ | exact hO _ _
    ·all_goals exact wk
    (try dsimp only[awp]);conv=>whnf
    refine ⟨⟨_,_,.refl _ _,?_⟩⟩
    conv=>whnf
    refine ⟨rfl,rfl,by simp [nextId],.mk ?_ ?_⟩
    ·repeat' first|exact rfl|exact trivial|exact wR|exact lR _|apply aI
     all_goals first | exact hle0 _ _ | exact hle1 _ _ | exact hO _ _ | exact leM_refl _ | exact leM_nr _ _ | exact encM_bnd _ _ | exact le0_refl _
    ·simp [idsOk]
   have hk : x.1 = 2:=by omega
   obtain ⟨hpg,hix,hmem,hil,hins⟩:=hN x hx hk
   have cG:=c_gatesOf m x.2.1 hpg
   have hwf : walkF (kidsM m) step (n + 1) x s = if look s.es x = 1 then (true,s) else if look s.es x = 2 then (false,s)
     else if (kidsF (walkF (kidsM m) step n) (kidsM m x) ⟨mark s.es x 1,step s.st x⟩).1 = true then kidsF (walkF (kidsM m) step n) (kidsM m x) ⟨mark s.es x 1,step s.st x⟩
     else (false,⟨mark (kidsF (walkF (kidsM m) step n) (kidsM m x) ⟨mark s.es x 1,step s.st x⟩).2.es x 2,(kidsF (walkF (kidsM m) step n) (kidsM m x) ⟨mark s.es x 1,step s.st x⟩).2.st⟩):=by
    simp only [walkF]; rw [if_neg h1]
   (try dsimp only[awp]);conv=>whnf
   refine alook_es ?_
   (try dsimp only[awp]);conv=>whnf
   refine And.intro (fun h2=>?_) (fun h2=>?_)
   ·rw [if_pos h2] at hwf
    rw [hwf]
    (try dsimp only[awp]);conv=>whnf
    refine ⟨⟨_,_,.refl _ _,?_⟩⟩
    conv=>whnf
    refine ⟨rfl,rfl,by simp [nextId],.mk ?_ ?_⟩
    ·repeat' first|exact rfl|exact trivial|exact wR|exact lR _|apply aI
     all_goals first | exact hle0 _ _ | exact hle1 _ _ | exact hO _ _ | exact leM_refl _ | exact leM_nr _ _ | exact encM_bnd _ _ | exact le0_refl _
    ·simp [idsOk]
   rw [if_neg h2] at hwf
   (try dsimp only[awp]);conv=>whnf
   refine And.intro (fun h3=>?_) (fun h3=>?_)
   ·rw [if_pos h3] at hwf
    rw [hwf]
    (try dsimp only[awp]);conv=>whnf
    refine ⟨⟨_,_,.refl _ _,?_⟩⟩
    conv=>whnf
    refine ⟨rfl,rfl,by simp [nextId],.mk ?_ ?_⟩
    ·repeat' first|exact rfl|exact trivial|exact wR|exact lR _|apply aI
     all_goals first | exact hle0 _ _ | exact hle1 _ _ | exact hO _ _ | exact leM_refl _ | exact leM_nr _ _ | exact encM_bnd _ _ | exact le0_refl _
    ·simp [idsOk]
   rw [if_neg h3] at hwf
   (try dsimp only[awp]);conv=>whnf
   refine aupd_es ?_
   (try dsimp only[awp]);conv=>whnf
   refine .gen _ _ (FnH.frame [0] (hE s.st x hx) ⟨rfl,rfl,rfl,rfl⟩ ?_ ?_) fun _=>?_
   ·repeat' first|exact rfl|exact trivial|exact wR|exact lR _|apply aI
    all_goals first | exact hle0 _ _ | exact hO _ _
   ·all_goals exact wk
   (try dsimp only[awp]);conv=>whnf
   refine ADraw.auto (by kernel_rfl) ?_;conv=>whnf
   refine ACallP.pure _ _ ?_ ⟨rfl,rfl⟩ cG ?_
   ·all_goals exact wk
   (try dsimp only[awp]);conv=>whnf
   refine aidxD default hix ?_
   have hga : (gatesM m x.2.1).getD x.2.2.toNat default = gateAt m x:=rfl
   rw [hga]
   have hlt0:=free_lt (all:=all) (v:=1) hmem h2 h3 (.inl rfl)
   generalize hS1 : (⟨mark s.es x 1,step s.st x⟩ : WS σ) = S1 at *
   have hS1e : S1.es = mark s.es x 1:=by rw [← hS1]
   have hS1s : S1.st = step s.st x:=by rw [← hS1]
   rw [← hS1e] at hlt0
   have hKl : (kidsM m x).length = (gateAt m x).ins.length:=by simp [kidsM]
   have hKj : ∀ (j : Nat) (h : j < (gateAt m x).ins.length),(kidsM m x)[j]? = some (resR m x.2.1 (gateAt m x).ins[j]):=fun j h=>by simp [kidsM,h]
   generalize gateAt m x = gt at *
   generalize hW : walkF (kidsM m) step n = W at *
   generalize kidsM m x = K at *
   (try dsimp only[awp]);conv=>whnf
   refine LoopE.of <| LoopSpec.inv (.refl _ _) (fun (q : Nat × WS σ)=>q.1 ≤ gt.ins.length ∧ kidsF W K S1 = kidsF W (K.drop q.1) q.2 ∧ MLe S1.es q.2.es)
    (fun q=>[(39,.int .i64 q.1)]) (fun q=>(3,.box (nAV x)) :: (2,.box m.av) :: hpA O q.2 m) (fun q=>gt.ins.length - q.1) (0,S1) ?_ (fun _=>rfl) ?_ ?_
   ·exact ⟨Nat.zero_le _,rfl,.refl _⟩
   ·refine ⟨?_,.mk ?_ ?_⟩
    ·all_goals exact wk
    ·repeat' first|exact rfl|exact trivial|exact wR|exact lR _|apply aI
     all_goals first | (rw [hS1e]; exact leM_refl _) | (rw [hS1s]; exact hle1 _ _) | exact hO _ _ | exact encM_bnd _ _
    ·simp [idsOk]
   rintro ⟨j,sj⟩ ⟨hj,hn,hle⟩ _
   dsimp only at hj hn hle
   (try dsimp only[awp]);conv=>whnf
   refine And.intro (fun hh=>?_) (fun hh=>?_)
   ·have hjl : j < gt.ins.length:=by simpa using hh
    have hfr:=free_le (all:=all) hle
    obtain ⟨i1,i2,i3⟩:=hins _ (List.getElem_mem hjl)
    rw [drop_of_get? (hKj j hjl)] at hn
    simp only [kidsF] at hn
    have cr:=c_resolve m x.2.1 gt.ins[j] i1 hpg i2
    have cw:=ih (resR m x.2.1 gt.ins[j]) sj i3 (by omega)
    have hml:=walkF_mle (kids:=kidsM m) (step:=step) n (resR m x.2.1 gt.ins[j]) sj
    rw [hW] at hml
    (try dsimp only[awp]);conv=>whnf
    refine aidx hjl ?_
    generalize resR m x.2.1 gt.ins[j] = y at *
    generalize W y sj = r at *
    obtain ⟨rb,rs⟩:=r
    dsimp only at hn cw hml
    (try dsimp only[awp]);conv=>whnf
    refine ADraw.mk ⟨[false,false,true,false,true,true,true,true,false],by kernel_rfl,?_⟩
    conv=>whnf
    refine ACallP.pure _ _ ?_ ⟨rfl,rfl⟩ cr ?_
    ·all_goals exact wk
    (try dsimp only[awp]);conv=>whnf
    refine .gen _ _ (FnH.frame [0,1] cw ⟨rfl,rfl,rfl,rfl⟩ ?_ ?_) fun _=>?_
    ·repeat' first|exact rfl|exact trivial|exact wR|exact lR _|apply aI
     all_goals first | exact leM_rn _ _ | exact hle0 _ _ | exact hO _ _ | exact encM_bnd _ _
    ·all_goals exact wk
    (try dsimp only[awp]);conv=>whnf
    refine And.intro (fun hb=>?_) (fun hb=>?_)
    ·rw [if_pos hb] at hn
     rw [hn,if_pos hb] at hwf
     rw [hwf,hb]
     (try dsimp only[awp]);conv=>whnf
     refine ⟨⟨_,_,.refl _ _,?_⟩⟩
     conv=>whnf
     refine ⟨rfl,rfl,by simp [nextId],.mk ?_ ?_⟩
     ·repeat' first|exact rfl|exact trivial|exact wR|exact lR _|apply aI
      all_goals first | exact hle0 _ _ | exact hle1 _ _ | exact hO _ _ | exact leM_refl _ | exact leM_nr _ _ | exact encM_bnd _ _ | exact le0_refl _
     ·simp [idsOk]
    ·rw [if_neg (by rw [hb]; simp)] at hn
     (try dsimp only[awp]);conv=>whnf
     refine zA ?_;conv=>whnf
     refine ⟨(j + 1,rs),?_,?_,?_⟩
     ·exact ⟨hjl,hn,hle.trans hml⟩
     ·refine ⟨?_,.mk ?_ ?_⟩
      ·all_goals exact wk
      ·repeat' first|exact rfl|exact trivial|exact wR|exact lR _|apply aI
       all_goals first | exact leM_nr _ _ | exact hle1 _ _ | exact hO _ _ | exact encM_bnd _ _
      ·simp [idsOk]
     ·show gt.ins.length - (j + 1) < gt.ins.length - j
      omega
   ·have hjl : K.length ≤ j:=by have : ¬ j < gt.ins.length:=by simpa using hh
                                omega
    rw [List.drop_eq_nil_of_le hjl] at hn
    simp only [kidsF] at hn
    rw [hn,if_neg (by simp)] at hwf
    rw [hwf]
    (try dsimp only[awp]);conv=>whnf
    refine aupd_es ?_
    (try dsimp only[awp]);conv=>whnf
    refine ⟨⟨_,_,.refl _ _,?_⟩⟩
    conv=>whnf
    refine ⟨rfl,rfl,by simp [nextId],.mk ?_ ?_⟩
    ·repeat' first|exact rfl|exact trivial|exact wR|exact lR _|apply aI
     all_goals first | exact hle0 _ _ | exact hle1 _ _ | exact hO _ _ | exact leM_refl _ | exact leM_nr _ _ | exact encM_bnd _ _ | exact le0_refl _
    ·simp [idsOk]
theorem c_walkC {σ : Type} (m : Md) (g : Nat) (O : σ → AV) (hO : ∀ st n,bndB n (O st) = true) (hrn : ∀ st f,rnV f (O st) = O st) (step : σ → Node → σ) (all : List Node) (ok : Node → Prop) (hN : ∀ x,ok x → x.1 = 2 → NodeOk m all ok x)
  (hE : ∀ st x,ok x → FnH Tryz.prog g (nAV x :: []) (ehA O st m) (.tup []) (ehA O (step st x) m)) :
  ∀ (n : Nat) (x : Node) (s : WS σ),ok x → free all s.es < n → FnH Tryz.prog 216 [m.av,nAV x,.mp 1,.fn g []] (hpA O s m) (.bool (walkF (kidsM m) step n x s).1) (hpA O (walkF (kidsM m) step n x s).2 m):=by
 have hle0 : ∀ st f,le0 (O st) (rnV f (O st)):=fun st f=>by rw [hrn]; exact le0_refl _
 have hle1 : ∀ st f,le0 (rnV f (O st)) (O st):=fun st f=>by rw [hrn]; exact le0_refl _
 intro n
 induction n with
 | zero=>intro x s _ h; omega
 | succ n ih =>
   intro x s hx hf
   refine FnH.intro lay mixed Tryz.func216 (by kernel_rfl) rfl (by kernel_rfl) rfl fun hok=>?_
   (try dsimp only[argC,succC]);(try dsimp only[awp]);conv=>whnf
   refine And.intro (fun h1=>?_) (fun h1=>?_)
   ·have e : walkF (kidsM m) step (n + 1) x s = (false,⟨s.es,step s.st x⟩):=by simp only [walkF]; rw [if_pos h1]
    rw [e]
    (try dsimp only[awp]);conv=>whnf
    refine .gen _ _ (FnH.frame [0] (hE s.st x hx) ⟨rfl,rfl,rfl,rfl⟩ ?_ ?_) fun _=>?_
    ·repeat' first|exact rfl|exact trivial|exact wR|exact lR _|apply aI
     all_goals first | exact hle0 _ _ | exact hO _ _
    ·all_goals exact wk
    (try dsimp only[awp]);conv=>whnf
    refine ⟨⟨_,_,.refl _ _,?_⟩⟩
    conv=>whnf
    refine ⟨rfl,rfl,by simp [nextId],.mk ?_ ?_⟩
    ·repeat' first|exact rfl|exact trivial|exact wR|exact lR _|apply aI
     all_goals first | exact hle0 _ _ | exact hle1 _ _ | exact hO _ _ | exact leM_refl _ | exact leM_nr _ _ | exact encM_bnd _ _ | exact le0_refl _
    ·simp [idsOk]
   have hk : x.1 = 2:=by omega
   obtain ⟨hpg,hix,hmem,hil,hins⟩:=hN x hx hk
   have cG:=c_gatesOf m x.2.1 hpg
   have hwf : walkF (kidsM m) step (n + 1) x s = if look s.es x = 1 then (true,s) else if look s.es x = 2 then (false,s)
     else if (kidsF (walkF (kidsM m) step n) (kidsM m x) ⟨mark s.es x 1,step s.st x⟩).1 = true then kidsF (walkF (kidsM m) step n) (kidsM m x) ⟨mark s.es x 1,step s.st x⟩
     else (false,⟨mark (kidsF (walkF (kidsM m) step n) (kidsM m x) ⟨mark s.es x 1,step s.st x⟩).2.es x 2,(kidsF (walkF (kidsM m) step n) (kidsM m x) ⟨mark s.es x 1,step s.st x⟩).2.st⟩):=by
    simp only [walkF]; rw [if_neg h1]
   (try dsimp only[awp]);conv=>whnf
   refine alook_es ?_
   (try dsimp only[awp]);conv=>whnf
   refine And.intro (fun h2=>?_) (fun h2=>?_)
   ·rw [if_pos h2] at hwf
    rw [hwf]
    (try dsimp only[awp]);conv=>whnf
    refine ⟨⟨_,_,.refl _ _,?_⟩⟩
    conv=>whnf
    refine ⟨rfl,rfl,by simp [nextId],.mk ?_ ?_⟩
    ·repeat' first|exact rfl|exact trivial|exact wR|exact lR _|apply aI
     all_goals first | exact hle0 _ _ | exact hle1 _ _ | exact hO _ _ | exact leM_refl _ | exact leM_nr _ _ | exact encM_bnd _ _ | exact le0_refl _
    ·simp [idsOk]
   rw [if_neg h2] at hwf
   (try dsimp only[awp]);conv=>whnf
   refine And.intro (fun h3=>?_) (fun h3=>?_)
   ·rw [if_pos h3] at hwf
    rw [hwf]
    (try dsimp only[awp]);conv=>whnf
    refine ⟨⟨_,_,.refl _ _,?_⟩⟩
    conv=>whnf
    refine ⟨rfl,rfl,by simp [nextId],.mk ?_ ?_⟩
    ·repeat' first|exact rfl|exact trivial|exact wR|exact lR _|apply aI
     all_goals first | exact hle0 _ _ | exact hle1 _ _ | exact hO _ _ | exact leM_refl _ | exact leM_nr _ _ | exact encM_bnd _ _ | exact le0_refl _
    ·simp [idsOk]
   rw [if_neg h3] at hwf
   (try dsimp only[awp]);conv=>whnf
   refine aupd_es ?_
   (try dsimp only[awp]);conv=>whnf
   refine .gen _ _ (FnH.frame [0] (hE s.st x hx) ⟨rfl,rfl,rfl,rfl⟩ ?_ ?_) fun _=>?_
   ·repeat' first|exact rfl|exact trivial|exact wR|exact lR _|apply aI
    all_goals first | exact hle0 _ _ | exact hO _ _
   ·all_goals exact wk
   (try dsimp only[awp]);conv=>whnf
   refine ADraw.auto (by kernel_rfl) ?_;conv=>whnf
   refine ACallP.pure _ _ ?_ ⟨rfl,rfl⟩ cG ?_
   ·all_goals exact wk
   (try dsimp only[awp]);conv=>whnf
   refine aidxD default hix ?_
   have hga : (gatesM m x.2.1).getD x.2.2.toNat default = gateAt m x:=rfl
   rw [hga]
   have hlt0:=free_lt (all:=all) (v:=1) hmem h2 h3 (.inl rfl)
   generalize hS1 : (⟨mark s.es x 1,step s.st x⟩ : WS σ) = S1 at *
   have hS1e : S1.es = mark s.es x 1:=by rw [← hS1]
   have hS1s : S1.st = step s.st x:=by rw [← hS1]
   rw [← hS1e] at hlt0
   have hKl : (kidsM m x).length = (gateAt m x).ins.length:=by simp [kidsM]
   have hKj : ∀ (j : Nat) (h : j < (gateAt m x).ins.length),(kidsM m x)[j]? = some (resR m x.2.1 (gateAt m x).ins[j]):=fun j h=>by simp [kidsM,h]
   generalize gateAt m x = gt at *
   generalize hW : walkF (kidsM m) step n = W at *
   generalize kidsM m x = K at *
   (try dsimp only[awp]);conv=>whnf
   refine LoopE.of <| LoopSpec.inv (.refl _ _) (fun (q : Nat × WS σ)=>q.1 ≤ gt.ins.length ∧ kidsF W K S1 = kidsF W (K.drop q.1) q.2 ∧ MLe S1.es q.2.es)
    (fun q=>[(39,.int .i64 q.1)]) (fun q=>(3,.box (nAV x)) :: (2,.box m.av) :: hpA O q.2 m) (fun q=>gt.ins.length - q.1) (0,S1) ?_ (fun _=>rfl) ?_ ?_
   ·exact ⟨Nat.zero_le _,rfl,.refl _⟩
   ·refine ⟨?_,.mk ?_ ?_⟩
    ·all_goals exact wk
    ·repeat' first|exact rfl|exact trivial|exact wR|exact lR _|apply aI
     all_goals first | (rw [hS1e]; exact leM_refl _) | (rw [hS1s]; exact hle1 _ _) | exact hO _ _ | exact encM_bnd _ _
    ·simp [idsOk]
   rintro ⟨j,sj⟩ ⟨hj,hn,hle⟩ _
   dsimp only at hj hn hle
   (try dsimp only[awp]);conv=>whnf
   refine And.intro (fun hh=>?_) (fun hh=>?_)
   ·have hjl : j < gt.ins.length:=by simpa using hh
    have hfr:=free_le (all:=all) hle
    obtain ⟨i1,i2,i3⟩:=hins _ (List.getElem_mem hjl)
    rw [drop_of_get? (hKj j hjl)] at hn
    simp only [kidsF] at hn
    have cr:=c_resolve m x.2.1 gt.ins[j] i1 hpg i2
    have cw:=ih (resR m x.2.1 gt.ins[j]) sj i3 (by omega)
    have hml:=walkF_mle (kids:=kidsM m) (step:=step) n (resR m x.2.1 gt.ins[j]) sj
    rw [hW] at hml
    (try dsimp only[awp]);conv=>whnf
    refine aidx hjl ?_
    generalize resR m x.2.1 gt.ins[j] = y at *
    generalize W y sj = r at *
    obtain ⟨rb,rs⟩:=r
    dsimp only at hn cw hml
    (try dsimp only[awp]);conv=>whnf
    refine ADraw.mk ⟨[false,false,true,false,true,true,true,true,false],by kernel_rfl,?_⟩
    conv=>whnf
    refine ACallP.pure _ _ ?_ ⟨rfl,rfl⟩ cr ?_
    ·all_goals exact wk
    (try dsimp only[awp]);conv=>whnf
    refine .gen _ _ (FnH.frame [0,1] cw ⟨rfl,rfl,rfl,rfl⟩ ?_ ?_) fun _=>?_
    ·repeat' first|exact rfl|exact trivial|exact wR|exact lR _|apply aI
     all_goals first | exact leM_rn _ _ | exact hle0 _ _ | exact hO _ _ | exact encM_bnd _ _
    ·all_goals exact wk
    (try dsimp only[awp]);conv=>whnf
    refine And.intro (fun hb=>?_) (fun hb=>?_)
    ·rw [if_pos hb] at hn
     rw [hn,if_pos hb] at hwf
     rw [hwf,hb]
     (try dsimp only[awp]);conv=>whnf
     refine ⟨⟨_,_,.refl _ _,?_⟩⟩
     conv=>whnf
     refine ⟨rfl,rfl,by simp [nextId],.mk ?_ ?_⟩
     ·repeat' first|exact rfl|exact trivial|exact wR|exact lR _|apply aI
      all_goals first | exact hle0 _ _ | exact hle1 _ _ | exact hO _ _ | exact leM_refl _ | exact leM_nr _ _ | exact encM_bnd _ _ | exact le0_refl _
     ·simp [idsOk]
    ·rw [if_neg (by rw [hb]; simp)] at hn
     (try dsimp only[awp]);conv=>whnf
     refine zA ?_;conv=>whnf
     refine ⟨(j + 1,rs),?_,?_,?_⟩
     ·exact ⟨hjl,hn,hle.trans hml⟩
     ·refine ⟨?_,.mk ?_ ?_⟩
      ·all_goals exact wk
      ·repeat' first|exact rfl|exact trivial|exact wR|exact lR _|apply aI
       all_goals first | exact leM_nr _ _ | exact hle1 _ _ | exact hO _ _ | exact encM_bnd _ _
      ·simp [idsOk]
     ·show gt.ins.length - (j + 1) < gt.ins.length - j
      omega
   ·have hjl : K.length ≤ j:=by have : ¬ j < gt.ins.length:=by simpa using hh
                                omega
    rw [List.drop_eq_nil_of_le hjl] at hn
    simp only [kidsF] at hn
    rw [hn,if_neg (by simp)] at hwf
    rw [hwf]
    (try dsimp only[awp]);conv=>whnf
    refine aupd_es ?_
    (try dsimp only[awp]);conv=>whnf
    refine ⟨⟨_,_,.refl _ _,?_⟩⟩
    conv=>whnf
    refine ⟨rfl,rfl,by simp [nextId],.mk ?_ ?_⟩
    ·repeat' first|exact rfl|exact trivial|exact wR|exact lR _|apply aI
     all_goals first | exact hle0 _ _ | exact hle1 _ _ | exact hO _ _ | exact leM_refl _ | exact leM_nr _ _ | exact encM_bnd _ _ | exact le0_refl _
    ·simp [idsOk]

def atsM (m : Md) : List Int:=(List.range (m.pages.length + 1)).map fun (k : Nat)=>(k : Int) - 1
def nodesAt (m : Md) (a : Int) : List Node:=(List.range (gatesM m a).length).map fun (i : Nat)=>((2 : Int),a,(i : Int))
def nodesFrom (m : Md) (k : Nat) : List Node:=((atsM m).drop k).flatMap (nodesAt m)
def allNodes (m : Md) : List Node:=(atsM m).flatMap (nodesAt m)

theorem ats_get {m : Md} {k : Nat} (h : k < m.pages.length + 1) : (atsM m)[k]? = some ((k : Int) - 1):=by
 unfold atsM
 rw [List.getElem?_map,List.getElem?_range h]; rfl

theorem ats_len (m : Md) : (atsM m).length = m.pages.length + 1:=by simp [atsM]

theorem nodesFrom_step {m : Md} {k : Nat} (h : k < m.pages.length + 1) : nodesFrom m k = nodesAt m ((k : Int) - 1) ++ nodesFrom m (k + 1):=by
 unfold nodesFrom
 rw [drop_of_get? (ats_get h),List.flatMap_cons]

theorem nodesFrom_end {m : Md} {k : Nat} (h : m.pages.length + 1 ≤ k) : nodesFrom m k = []:=by
 unfold nodesFrom
 rw [List.drop_eq_nil_of_le (by rw [ats_len]; omega)]; rfl

theorem nodesAt_get {m : Md} {a : Int} {i : Nat} (h : i < (gatesM m a).length) : (nodesAt m a)[i]? = some (2,a,(i : Int)):=by
 unfold nodesAt
 rw [List.getElem?_map,List.getElem?_range h]; rfl

theorem nodesAt_len (m : Md) (a : Int) : (nodesAt m a).length = (gatesM m a).length:=by simp [nodesAt]

theorem ats_mem {m : Md} {a : Int} : a ∈ atsM m ↔ (a = -1 ∨ (0 ≤ a ∧ a < (m.pages.length : Int))):=by
 unfold atsM
 simp only [List.mem_map,List.mem_range]
 constructor
 ·rintro ⟨k,hk,rfl⟩; omega
 ·intro h
  exact ⟨(a + 1).toNat,by omega,by omega⟩

theorem mem_nodesAt {m : Md} {a : Int} {x : Node} : x ∈ nodesAt m a ↔ x.1 = 2 ∧ x.2.1 = a ∧ 0 ≤ x.2.2 ∧ x.2.2 < ((gatesM m a).length : Int):=by
 obtain ⟨p,q,r⟩:=x
 unfold nodesAt
 simp only [List.mem_map,List.mem_range]
 constructor
 ·rintro ⟨i,hi,h⟩
  obtain ⟨rfl,rfl,rfl⟩ : 2 = p ∧ a = q ∧ (i : Int) = r:=by simpa using h
  exact ⟨rfl,rfl,by show (0 : Int) ≤ (i : Int); omega,by show (i : Int) < _; omega⟩
 ·rintro ⟨h1,h2,h3,h4⟩
  have h1 : p = 2:=h1
  have h2 : q = a:=h2
  have h3 : 0 ≤ r:=h3
  have h4 : r < ((gatesM m a).length : Int):=h4
  exact ⟨r.toNat,by omega,by rw [h1,h2,Int.toNat_of_nonneg h3]⟩

theorem mem_all {m : Md} {x : Node} : x ∈ allNodes m ↔ x.1 = 2 ∧ (x.2.1 = -1 ∨ (0 ≤ x.2.1 ∧ x.2.1 < (m.pages.length : Int))) ∧ 0 ≤ x.2.2 ∧ x.2.2 < ((gatesM m x.2.1).length : Int):=by
 unfold allNodes
 rw [List.mem_flatMap]
 constructor
 ·rintro ⟨a,ha,hx⟩
  obtain ⟨h1,rfl,h3⟩:=mem_nodesAt.1 hx
  exact ⟨h1,ats_mem.1 ha,h3⟩
 ·rintro ⟨h1,h2,h3⟩
  exact ⟨x.2.1,ats_mem.2 h2,mem_nodesAt.2 ⟨h1,rfl,h3⟩⟩

def okN (m : Md) (x : Node) : Prop :=
 (x.1 = 0 ∧ x.2.1 = 0 ∧ 0 ≤ x.2.2 ∧ x.2.2 < (m.evs.length : Int)) ∨ (x.1 = 1 ∧ x.2.1 = 0 ∧ 0 ≤ x.2.2 ∧ x.2.2 < (m.hs.length : Int)) ∨ x ∈ allNodes m

def ClosedM (m : Md) : Prop:=∀ x ∈ allNodes m,∀ s ∈ (gateAt m x).ins,0 < s.length ∧ (atS s = true → 0 ≤ i_page m.pages (s.drop 1)) ∧ okN m (resR m x.2.1 s)

theorem MdB.gatesM {m : Md} (hB : MdB m) {a : Int} (ha : a = -1 ∨ (0 ≤ a ∧ a < (m.pages.length : Int))) : (gatesM m a).length ≤ 100 ∧ ∀ x ∈ gatesM m a,x.ins.length ≤ 40:=by
 unfold S.gatesM
 split
 ·exact hB.gates
 ·exact hB.pgates _ (getD_mem (by omega))

theorem nodeOk {m : Md} (hB : MdB m) (hc : ClosedM m) (x : Node) (hx : okN m x) (h2 : x.1 = 2) : NodeOk m (allNodes m) (okN m) x:=by
 have hm : x ∈ allNodes m:=by
  rcases hx with h | h | h
  ·have:=h.1; omega
  ·have:=h.1; omega
  ·exact h
 obtain ⟨_,h3,h4⟩:=mem_all.1 hm
 exact ⟨h3,h4,hm,(hB.gatesM h3).2 _ (getD_mem (by omega)),hc x hm⟩

def fuelM (m : Md) : Nat:=(allNodes m).length + 1

theorem free_fuel (m : Md) (es : Marks) : free (allNodes m) es < fuelM m:=by
 unfold free fuelM
 have:=List.length_filter_le (fun x=>!isM es x) (allNodes m)
 omega

abbrev walk0 (m : Md) : Node → WS Unit → Bool × WS Unit:=walkF (kidsM m) (fun _ _=>()) (fuelM m)

def cycR (m : Md) : Bool:=(kidsF (walk0 m) (allNodes m) ⟨[],()⟩).1

theorem c_cyc1 (x : Node) (m : Md) : FnH Tryz.prog 217 [nAV x] [(0,.box m.av)] (.tup []) [(0,.box m.av)]:=by
 refine FnH.intro lay mixed Tryz.func217 (by kernel_rfl) rfl (by kernel_rfl) rfl fun hok=>?_
 (try dsimp only[argC,succC]);(try dsimp only[awp]);conv=>whnf
 refine ⟨⟨_,_,.refl _ _,?_⟩⟩
 conv=>whnf
 refine ⟨?_,rfl,by simp [nextId],.mk ?_ ⟨by simp,trivial⟩⟩
 ·exact trivial
 ·all_goals exact wk

theorem c_cyclic (m : Md) (hB : MdB m) (hc : ClosedM m) : FnH Tryz.prog 116 [m.av] [] (.bool (cycR m)) []:=by
 have cw:=c_walkC m 217 (fun _ : Unit=>m.av) (fun _ _=>rfl) (fun _ _=>rfl) (fun _ _=>()) (allNodes m) (okN m) (nodeOk hB hc) (fun _ x _=>c_cyc1 x m) (fuelM m)
 have cG:=fun a h=>c_gatesOf m a h
 have hcy : cycR m = (kidsF (walk0 m) (nodesFrom m 0) ⟨[],()⟩).1:=rfl
 have hpl:=hB.pages
 refine FnH.intro lay mixed Tryz.func116 (by kernel_rfl) rfl (by kernel_rfl) rfl fun hok=>?_
 (try dsimp only[argC,succC]);(try dsimp only[awp]);conv=>whnf
 refine LoopE.of <| LoopSpec.inv (.refl _ _) (fun (q : Nat × WS Unit)=>q.1 ≤ m.pages.length + 1 ∧ cycR m = (kidsF (walk0 m) (nodesFrom m q.1) q.2).1)
  (fun q=>[(4,.int .i64 ((q.1 : Int) - 1))]) (fun q=>[(1,.amap shN (encM q.2.es)),(0,.box m.av)]) (fun q=>m.pages.length + 1 - q.1) (0,⟨[],()⟩) ?_ (fun _=>rfl) ?_ ?_
 ·exact ⟨Nat.zero_le _,hcy⟩
 ·refine ⟨?_,.mk ?_ ⟨by simp,by simp,trivial⟩⟩
  ·all_goals exact wk
  ·all_goals exact wk
 rintro ⟨k,s⟩ ⟨hk,hn⟩ _
 dsimp only at hk hn
 (try dsimp only[awp]);conv=>whnf
 refine And.intro (fun h=>?_) (fun h=>?_)
 ·have hkl : k < m.pages.length + 1:=by simp only [List.length_map] at h; omega
  have ha : (k : Int) - 1 = -1 ∨ (0 ≤ (k : Int) - 1 ∧ (k : Int) - 1 < (m.pages.length : Int)):=by omega
  have hgl:=(hB.gatesM ha).1
  rw [nodesFrom_step hkl] at hn
  (try dsimp only[awp]);conv=>whnf
  refine .pure _ _ ?_ ⟨rfl,rfl⟩ (cG _ ha) fun _=>?_
  ·exact leL_refl _
  (try dsimp only[awp]);conv=>whnf
  refine LoopE.of <| LoopSpec.inv (.refl _ _) (fun (q : Nat × WS Unit)=>q.1 ≤ (gatesM m ((k : Int) - 1)).length ∧ cycR m = (kidsF (walk0 m) ((nodesAt m ((k : Int) - 1)).drop q.1 ++ nodesFrom m (k + 1)) q.2).1)
   (fun q=>[(18,.int .i64 q.1)]) (fun q=>[(1,.amap shN (encM q.2.es)),(0,.box m.av)]) (fun q=>(gatesM m ((k : Int) - 1)).length - q.1) (0,s) ?_ (fun _=>rfl) ?_ ?_
  ·exact ⟨Nat.zero_le _,hn⟩
  ·refine ⟨?_,.mk ?_ ⟨by simp,by simp,trivial⟩⟩
   ·all_goals exact wk
   ·repeat' first|exact rfl|exact trivial|exact wR|exact lR _|apply aI
    all_goals first | exact leM_refl _ | exact encM_bnd _ _
  rintro ⟨i,s2⟩ ⟨hi,hn2⟩ _
  dsimp only at hi hn2
  (try dsimp only[awp]);conv=>whnf
  refine And.intro (fun hh=>?_) (fun hh=>?_)
  ·have hil : i < (gatesM m ((k : Int) - 1)).length:=by simpa using hh
   rw [drop_of_get? (nodesAt_get hil),List.cons_append] at hn2
   simp only [kidsF,walk0] at hn2
   have hmem : (2,(k : Int) - 1,(i : Int)) ∈ allNodes m:=mem_all.2 ⟨rfl,ha,by show (0 : Int) ≤ i; omega,by show (i : Int) < ((gatesM m ((k : Int) - 1)).length : Int); omega⟩
   have cw:=cw (2,(k : Int) - 1,(i : Int)) s2 (.inr (.inr hmem)) (free_fuel m _)
   generalize hr : walkF (kidsM m) (fun _ _=>()) (fuelM m) (2,(k : Int) - 1,(i : Int)) s2 = r at *
   obtain ⟨rb,rs⟩:=r
   dsimp only at hn2 cw
   (try dsimp only[awp]);conv=>whnf
   refine .gen _ _ cw fun _=>?_
   (try dsimp only[awp]);conv=>whnf
   refine And.intro (fun hb=>?_) (fun hb=>?_)
   ·rw [if_pos hb] at hn2
    rw [hn2,hb]
    (try dsimp only[awp]);conv=>whnf
    refine fM ?_;(conv=>whnf);refine ⟨?_,rfl⟩;conv=>whnf
    all_goals exact wk
   ·rw [if_neg (by rw [hb]; simp)] at hn2
    (try dsimp only[awp]);conv=>whnf
    refine zA ?_;conv=>whnf
    refine ⟨(i + 1,rs),?_,?_,?_⟩
    ·exact ⟨hil,hn2⟩
    ·refine ⟨?_,.mk ?_ ⟨by simp,by simp,trivial⟩⟩
     ·all_goals exact wk
     ·repeat' first|exact rfl|exact trivial|exact wR|exact lR _|apply aI
      all_goals first | exact leM_refl _ | exact encM_bnd _ _
    ·show (gatesM m ((k : Int) - 1)).length - (i + 1) < (gatesM m ((k : Int) - 1)).length - i
     omega
  ·have hil : (nodesAt m ((k : Int) - 1)).length ≤ i:=by have : ¬ i < (gatesM m ((k : Int) - 1)).length:=by simpa using hh
                                                         rw [nodesAt_len]; omega
   rw [List.drop_eq_nil_of_le hil,List.nil_append] at hn2
   (try dsimp only[awp]);conv=>whnf
   refine zA ?_;conv=>whnf
   refine ⟨(k + 1,s2),?_,?_,?_⟩
   ·exact ⟨hkl,hn2⟩
   ·refine ⟨?_,.mk ?_ ⟨by simp,by simp,trivial⟩⟩
    ·repeat' first|exact rfl|exact trivial|exact wR|exact lR _|apply aI
     all_goals (show _ = _; congr 1; omega)
    ·repeat' first|exact rfl|exact trivial|exact wR|exact lR _|apply aI
     all_goals first | exact leM_refl _ | exact encM_bnd _ _
   ·show m.pages.length + 1 - (k + 1) < m.pages.length + 1 - k
    omega
 ·have hkl : m.pages.length + 1 ≤ k:=by simp only [List.length_map] at h; omega
  rw [nodesFrom_end hkl] at hn
  simp only [kidsF] at hn
  rw [hn]
  (try dsimp only[awp]);conv=>whnf
  refine fM ?_;(conv=>whnf);refine ⟨?_,rfl⟩;conv=>whnf
  all_goals exact wk

section
variable {σ : Type} (kids : Node → List Node) (step : σ → Node → σ) (V : σ → Node → Prop)

structure Inv (s : WS σ) : Prop where
 rank : ∃ rank : Node → Nat,∀ x,look s.es x = 2 → ∀ y ∈ kids x,y.1 = 2 → look s.es y = 2 ∧ rank y < rank x
 met : ∀ x,look s.es x = 2 → V s.st x ∧ ∀ y ∈ kids x,y.1 ≠ 2 → V s.st y

structure On (s s' : WS σ) : Prop where
 one : ∀ y,look s'.es y = 1 ↔ look s.es y = 1
 two : ∀ y,look s.es y = 2 → look s'.es y = 2
 met : ∀ y,V s.st y → V s'.st y

theorem On.refl (s : WS σ) : On V s s:=⟨fun _=>Iff.rfl,fun _ h=>h,fun _ h=>h⟩
theorem On.trans {a b c : WS σ} (h : On V a b) (g : On V b c) : On V a c:=⟨fun y=>(g.one y).trans (h.one y),fun y e=>g.two y (h.two y e),fun y e=>g.met y (h.met y e)⟩

structure After (x : Node) (s s' : WS σ) : Prop where
 inv : Inv kids V s'
 on : On V s s'
 done : x.1 = 2 → look s'.es x = 2
 leaf : x.1 ≠ 2 → V s'.st x

variable {kids step V}

theorem kids_after {f : Node → WS σ → Bool × WS σ} (ok : Node → Prop) (m : Nat) (fr : Marks → Nat) (hfr : ∀ y s,fr (f y s).2.es ≤ fr s.es)
  (hf : ∀ y s,ok y → fr s.es ≤ m → Inv kids V s → (f y s).1 = false → After kids V y s (f y s).2) :
  ∀ (l : List Node) (s : WS σ),(∀ y ∈ l,ok y) → fr s.es ≤ m → Inv kids V s → (kidsF f l s).1 = false →
    Inv kids V (kidsF f l s).2 ∧ On V s (kidsF f l s).2 ∧ ∀ y ∈ l,(y.1 = 2 → look (kidsF f l s).2.es y = 2) ∧ (y.1 ≠ 2 → V (kidsF f l s).2.st y)
 | [],s,_,_,hi,_=>⟨hi,.refl V s,by simp⟩
 | y :: l,s,hl,hm,hi,h=>by
   simp only [kidsF] at h ⊢
   by_cases hb : (f y s).1 = true
   ·rw [if_pos hb] at h
    rw [hb] at h; cases h
   ·rw [if_neg hb] at h ⊢
    have hy:=hf y s (hl y (by simp)) hm hi (by simpa using hb)
    have hm2:=hfr y s
    obtain ⟨h1,h2,h3⟩:=kids_after ok m fr hfr hf l (f y s).2 (fun z hz=>hl z (by simp [hz])) (by omega) hy.inv h
    refine ⟨h1,hy.on.trans V h2,fun z hz=>?_⟩
    rcases List.mem_cons.1 hz with rfl | hz
    ·exact ⟨fun e=>h2.two _ (hy.done e),fun e=>h2.met _ (hy.leaf e)⟩
    ·exact h3 z hz

theorem sum_ge {rank : Node → Nat} : ∀ {l : List Node} {y : Node},y ∈ l → rank y ≤ (l.map rank).sum
 | [],_,h=>by simp at h
 | x :: l,y,h=>by
   simp only [List.map_cons,List.sum_cons]
   rcases List.mem_cons.1 h with rfl | h
   ·omega
   ·have:=sum_ge (rank:=rank) h; omega

theorem walk_after (all : List Node) (ok : Node → Prop) (hok : ∀ x,ok x → x.1 = 2 → x ∈ all ∧ ∀ y ∈ kids x,ok y) (hV1 : ∀ st x,V (step st x) x) (hV2 : ∀ st x y,V st y → V (step st x) y) :
  ∀ (n : Nat) (x : Node) (s : WS σ),ok x → free all s.es < n → Inv kids V s → (walkF kids step n x s).1 = false → After kids V x s (walkF kids step n x s).2
 | 0,_,_,_,h,_,_=>by omega
 | n + 1,x,s,hx,hf,hi,h=>by
   simp only [walkF] at h ⊢
   by_cases h1 : x.1 ≠ 2
   ·rw [if_pos h1]
    exact ⟨⟨hi.rank,fun y hy=>⟨hV2 _ _ _ (hi.met y hy).1,fun z hz e=>hV2 _ _ _ ((hi.met y hy).2 z hz e)⟩⟩,⟨fun _=>Iff.rfl,fun _ h=>h,fun y=>hV2 _ _ _⟩,fun e=>absurd e h1,fun _=>hV1 _ _⟩
   rw [if_neg h1] at h ⊢
   by_cases h2 : look s.es x = 1
   ·rw [if_pos h2] at h; cases h
   rw [if_neg h2] at h ⊢
   by_cases h3 : look s.es x = 2
   ·rw [if_pos h3]
    exact ⟨hi,.refl V s,fun _=>h3,fun e=>absurd e h1⟩
   rw [if_neg h3] at h ⊢
   obtain ⟨hm,hk⟩:=hok x hx (by omega)
   have hlt:=free_lt (all:=all) (v:=1) hm h2 h3 (.inl rfl)
   have hi1 : Inv kids V ⟨mark s.es x 1,step s.st x⟩:=by
    obtain ⟨rank,hr⟩:=hi.rank
    refine ⟨⟨rank,fun y hy z hz e=>?_⟩,fun y hy=>?_⟩
    ·have hy : look (mark s.es x 1) y = 2:=hy
     rw [look_mark] at hy
     split at hy
     ·cases hy
     have:=hr y hy z hz e
     refine ⟨?_,this.2⟩
     show look (mark s.es x 1) z = 2
     rw [look_mark,if_neg (fun e=>h3 (by rw [e]; exact this.1))]
     exact this.1
    ·have hy : look (mark s.es x 1) y = 2:=hy
     rw [look_mark] at hy
     split at hy
     ·cases hy
     exact ⟨hV2 _ _ _ (hi.met y hy).1,fun z hz e=>hV2 _ _ _ ((hi.met y hy).2 z hz e)⟩
   by_cases hb : (kidsF (walkF kids step n) (kids x) ⟨mark s.es x 1,step s.st x⟩).1 = true
   ·rw [if_pos hb] at h
    rw [hb] at h; cases h
   rw [if_neg hb]
   obtain ⟨k1,k2,k3⟩:=kids_after (kids:=kids) (V:=V) ok (n - 1) (free all) (fun y s=>free_le (walkF_mle n y s)) (fun y s hy hs hi hb=>walk_after all ok hok hV1 hV2 n y s hy (by omega) hi hb) (kids x) ⟨mark s.es x 1,step s.st x⟩ hk (by show free all (mark s.es x 1) ≤ n - 1; omega) hi1 (by simpa using hb)
   generalize kidsF (walkF kids step n) (kids x) ⟨mark s.es x 1,step s.st x⟩ = r at *
   obtain ⟨rb,rs⟩:=r
   dsimp only at k1 k2 k3 ⊢
   have hx1 : look rs.es x = 1:=(k2.one x).2 (by show look (mark s.es x 1) x = 1; rw [look_mark,if_pos rfl])
   refine ⟨⟨?_,fun y hy=>?_⟩,⟨fun y=>?_,fun y hy=>?_,fun y hy=>k2.met y (hV2 _ _ _ hy)⟩,fun _=>?_,fun e=>absurd e h1⟩
   ·obtain ⟨rank,hr⟩:=k1.rank
    refine ⟨fun z=>if z = x then ((kids x).map rank).sum + 1 else rank z,fun y hy z hz e=>?_⟩
    show look (mark rs.es x 2) z = 2 ∧ _
    by_cases hyx : y = x
    ·subst hyx
     have hz2:=(k3 z hz).1 e
     have hzx : z ≠ y:=fun e=>by rw [e,hx1] at hz2; cases hz2
     rw [look_mark,if_neg (Ne.symm hzx)]
     refine ⟨hz2,?_⟩
     simp only [if_neg hzx,if_true]
     have:=sum_ge (rank:=rank) hz
     omega
    ·have hy : look (mark rs.es x 2) y = 2:=hy
     rw [look_mark,if_neg (Ne.symm hyx)] at hy
     have:=hr y hy z hz e
     have hzx : z ≠ x:=fun e=>by rw [e,hx1] at this; cases this.1
     rw [look_mark,if_neg (Ne.symm hzx)]
     refine ⟨this.1,?_⟩
     simp only [if_neg hzx,if_neg hyx]
     exact this.2
   ·have hy : look (mark rs.es x 2) y = 2:=hy
    rw [look_mark] at hy
    split at hy
    ·rename_i e
     subst e
     exact ⟨k2.met _ (hV1 _ _),fun z hz e=>(k3 z hz).2 e⟩
    ·exact k1.met y hy
   ·show look (mark rs.es x 2) y = 1 ↔ look s.es y = 1
    rw [look_mark]
    by_cases hyx : x = y
    ·subst hyx
     rw [if_pos rfl]
     exact ⟨fun e=>absurd e (by decide),fun e=>absurd e h2⟩
    ·rw [if_neg hyx,k2.one y]
     show look (mark s.es x 1) y = 1 ↔ _
     rw [look_mark,if_neg hyx]
   ·show look (mark rs.es x 2) y = 2
    rw [look_mark]
    split
    ·rfl
    ·rename_i hyx
     refine k2.two y ?_
     show look (mark s.es x 1) y = 2
     rw [look_mark,if_neg hyx]
     exact hy
   ·show look (mark rs.es x 2) x = 2
    rw [look_mark,if_pos rfl]

end

theorem okN_kids {m : Md} (hc : ClosedM m) {x : Node} (hx : okN m x) (h2 : x.1 = 2) : x ∈ allNodes m ∧ ∀ y ∈ kidsM m x,okN m y:=by
 have hm : x ∈ allNodes m:=by
  rcases hx with h | h | h
  ·have:=h.1; omega
  ·have:=h.1; omega
  ·exact h
 refine ⟨hm,fun y hy=>?_⟩
 unfold kidsM at hy
 obtain ⟨s,hs,rfl⟩:=List.mem_map.1 hy
 exact (hc x hm s hs).2.2

def RankM (m : Md) (rank : Node → Nat) : Prop:=∀ x,okN m x → x.1 = 2 → ∀ y ∈ kidsM m x,y.1 = 2 → rank y < rank x

theorem cyc_rank {m : Md} (hc : ClosedM m) (h : cycR m = false) : ∃ rank,RankM m rank:=by
 have hi : Inv (kidsM m) (fun (_ : Unit) _=>True) ⟨[],()⟩:=⟨⟨fun _=>0,fun x hx=>by simp [look] at hx⟩,fun x hx=>by simp [look] at hx⟩
 obtain ⟨k1,_,k3⟩:=kids_after (kids:=kidsM m) (V:=fun (_ : Unit) _=>True) (okN m) (allNodes m).length (free (allNodes m)) (f:=walk0 m) (fun y s=>free_le (walkF_mle _ y s))
  (fun y s hy hs hi hb=>walk_after (allNodes m) (okN m) (fun x hx h2=>okN_kids hc hx h2) (fun _ _=>trivial) (fun _ _ _ _=>trivial) (fuelM m) y s hy (by unfold fuelM; omega) hi hb)
  (allNodes m) ⟨[],()⟩ (fun y hy=>.inr (.inr hy)) (by have:=free_fuel m []; unfold fuelM at this; show free (allNodes m) [] ≤ _; omega) hi h
 obtain ⟨rank,hr⟩:=k1.rank
 refine ⟨rank,fun x hx h2 y hy e=>(hr x ?_ y hy e).2⟩
 exact (k3 x (okN_kids hc hx h2).1).1 h2


def gatesErrAll (m : Md) : Int:=errL (fun _ a=>errL (gateErrM m a) 0 (gatesM m a)) 0 (atsM m)

def insAll (m : Md) : List Int → List Str → Int
 | [],_=>0
 | a :: l,sp=>if (pageIns m a sp).1 ≠ 0 then (pageIns m a sp).1 else insAll m l (pageIns m a sp).2

def checkM (m : Md) : Int :=
 if nameR m.name = false then 5 else if eventsErr m ≠ 0 then eventsErr m else if pagesErr m ≠ 0 then pagesErr m
 else if gatesErrAll m ≠ 0 then gatesErrAll m else if insAll m (atsM m) [] ≠ 0 then insAll m (atsM m) []
 else if isInR m (-1) m.top = false then 5 else if groupsErr m ≠ 0 then groupsErr m else if phasesErr m ≠ 0 then phasesErr m
 else if cycR m = true then 14 else 0

theorem insErr_in {m : Md} {a : Int} {g : Mg} : ∀ {l : List Str} {k : Nat} {sp : List Str},(insErr m a g k l sp).1 = 0 → ∀ s ∈ l,isInR m a s = true
 | [],_,_,_,s,hs=>by simp at hs
 | x :: l,k,sp,h,s,hs=>by
   simp only [insErr] at h
   split at h
   ·cases h
   rename_i h1
   split at h
   ·cases h
   have hx : isInR m a x = true:=by simpa using h1
   rcases List.mem_cons.1 hs with rfl | hs
   ·exact hx
   split at h
   ·split at h
    ·cases h
    ·exact insErr_in h s hs
   ·exact insErr_in h s hs

theorem gatesIns_in {m : Md} {a : Int} : ∀ {l : List Mg} {sp : List Str},(gatesIns m a l sp).1 = 0 → ∀ g ∈ l,∀ s ∈ g.ins,isInR m a s = true
 | [],_,_,g,hg=>by simp at hg
 | x :: l,sp,h,g,hg=>by
   simp only [gatesIns] at h
   split at h
   ·rename_i h1; exact absurd h h1
   rename_i h1
   have h1 : (insErr m a x 0 x.ins sp).1 = 0:=by simpa using h1
   rcases List.mem_cons.1 hg with rfl | hg
   ·exact insErr_in h1
   ·exact gatesIns_in h g hg

theorem pageIns_in {m : Md} {a : Int} {sp : List Str} (h : (pageIns m a sp).1 = 0) : (∀ g ∈ gatesM m a,∀ s ∈ g.ins,isInR m a s = true) ∧ (a ≠ -1 → 0 ≤ i_gate (gatesM m a) (pageTop m a) ∨ 0 ≤ i_event m.evs (pageTop m a)):=by
 unfold pageIns at h
 split at h
 ·rename_i h1; exact absurd h h1
 rename_i h1
 have h1 : (gatesIns m a (gatesM m a) sp).1 = 0:=by simpa using h1
 split at h
 ·cases h
 rename_i h2
 exact ⟨gatesIns_in h1,fun ha=>by
  rcases Int.lt_or_le (i_gate (gatesM m a) (pageTop m a)) 0 with h3 | h3
  ·rcases Int.lt_or_le (i_event m.evs (pageTop m a)) 0 with h4 | h4
   ·exact absurd ⟨ha,h3,h4⟩ h2
   ·exact .inr h4
  ·exact .inl h3⟩

theorem insAll_in {m : Md} : ∀ {l : List Int} {sp : List Str},insAll m l sp = 0 → ∀ a ∈ l,∃ sp',(pageIns m a sp').1 = 0
 | [],_,_,a,ha=>by simp at ha
 | x :: l,sp,h,a,ha=>by
   simp only [insAll] at h
   split at h
   ·rename_i h1; exact absurd h h1
   rename_i h1
   rcases List.mem_cons.1 ha with rfl | ha
   ·exact ⟨sp,by simpa using h1⟩
   ·exact insAll_in h a ha

theorem nameR_pos {s : Str} (h : nameR s = true) : 0 < s.length:=by
 unfold nameR at h
 simp only [Bool.and_eq_true,decide_eq_true_eq] at h
 exact h.1.1.1

theorem idx_name {α : Type} {f : α → Str} {l : List α} {s : Str} (h : 0 ≤ idxP (fun x=>decide (f x = s)) l) : ∃ (i : Nat) (hi : i < l.length),idxP (fun x=>decide (f x = s)) l = i ∧ f l[i] = s:=by
 rcases idxP_cases (fun x=>decide (f x = s)) l with ⟨h1,_⟩ | ⟨i,hi,h1,h2,_⟩
 ·omega
 ·exact ⟨i,hi,h1,of_decide_eq_true h2⟩

theorem eventsErr_zero {m : Md} (h : eventsErr m = 0) : m.evs.length ≤ 24 ∧ m.hs.length ≤ 16 ∧ (∀ (k : Nat) (hk : k < m.evs.length),evErr m k m.evs[k] = 0) ∧ (∀ (k : Nat) (hk : k < m.hs.length),hsErr m k m.hs[k] = 0):=by
 unfold eventsErr at h
 split at h
 ·cases h
 split at h
 ·rename_i h1; exact absurd h h1
 rename_i h1
 split at h
 ·cases h
 have h1 : errL (evErr m) 0 m.evs = 0:=by simpa using h1
 refine ⟨by omega,by omega,fun k hk=>?_,fun k hk=>?_⟩
 ·have:=errL_zero.1 h1 k hk; simpa using this
 ·have:=errL_zero.1 h k hk; simpa using this

theorem gatesErrAll_zero {m : Md} (h : gatesErrAll m = 0) {a : Int} (ha : a = -1 ∨ (0 ≤ a ∧ a < (m.pages.length : Int))) : ∀ (k : Nat) (hk : k < (gatesM m a).length),gateErrM m a k (gatesM m a)[k] = 0:=by
 intro k hk
 have hm:=ats_mem.2 ha
 obtain ⟨j,hj,rfl⟩:=List.getElem_of_mem hm
 have:=errL_zero.1 h j hj
 have:=errL_zero.1 this k hk
 simpa using this

theorem ev_name {m : Md} (h : eventsErr m = 0) {s : Str} (hs : 0 ≤ i_event m.evs s) : 0 < s.length:=by
 obtain ⟨i,hi,_,h2⟩:=idx_name hs
 have:=(eventsErr_zero h).2.2.1 i hi
 unfold evErr at this
 split at this
 ·cases this
 rename_i h3
 rw [← h2]
 exact nameR_pos (by simpa using h3)

theorem hs_name {m : Md} (h : eventsErr m = 0) {s : Str} (hs : 0 ≤ i_house m.hs s) : 0 < s.length:=by
 obtain ⟨i,hi,_,h2⟩:=idx_name hs
 have:=(eventsErr_zero h).2.2.2 i hi
 unfold hsErr at this
 split at this
 ·cases this
 rename_i h3
 rw [← h2]
 exact nameR_pos (by simpa using h3)

theorem gate_name {m : Md} (h : gatesErrAll m = 0) {a : Int} (ha : a = -1 ∨ (0 ≤ a ∧ a < (m.pages.length : Int))) {s : Str} (hs : 0 ≤ i_gate (gatesM m a) s) : 0 < s.length:=by
 obtain ⟨i,hi,_,h2⟩:=idx_name hs
 have:=gatesErrAll_zero h ha i hi
 unfold gateErrM at this
 split at this
 ·cases this
 rename_i h3
 rw [← h2]
 exact nameR_pos (by simpa using h3)

theorem resOn_ok {m : Md} {a : Int} {s : Str} (ha : a = -1 ∨ (0 ≤ a ∧ a < (m.pages.length : Int))) (h : 0 ≤ i_event m.evs s ∨ 0 ≤ i_house m.hs s ∨ 0 ≤ i_gate (gatesM m a) s) : okN m (resOn m a s):=by
 unfold resOn
 split
 ·rename_i h1; exact .inl ⟨rfl,rfl,h1,idxP_lt _ _⟩
 split
 ·rename_i h2; exact .inr (.inl ⟨rfl,rfl,h2,idxP_lt _ _⟩)
 ·exact .inr (.inr (mem_all.2 ⟨rfl,ha,by show 0 ≤ i_gate _ _; omega,idxP_lt _ _⟩))

structure InOk (m : Md) (a : Int) (s : Str) : Prop where
 pos : 0 < s.length
 pg : atS s = true → 0 ≤ i_page m.pages (s.drop 1)
 ok : okN m (resR m a s)

theorem inOk {m : Md} (h1 : eventsErr m = 0) (h2 : gatesErrAll m = 0) (h3 : insAll m (atsM m) [] = 0) {a : Int} (ha : a = -1 ∨ (0 ≤ a ∧ a < (m.pages.length : Int))) {s : Str} (hs : isInR m a s = true) : InOk m a s:=by
 unfold isInR at hs
 by_cases hat : atS s = true
 ·rw [if_pos hat] at hs
  have hs : 0 ≤ i_page m.pages (s.drop 1):=of_decide_eq_true hs
  have hp : i_page m.pages (s.drop 1) < (m.pages.length : Int):=idxP_lt _ _
  refine ⟨?_,fun _=>hs,?_⟩
  ·unfold atS at hat
   simp only [Bool.and_eq_true,decide_eq_true_eq] at hat
   exact hat.1
  ·unfold resR
   rw [if_pos hat]
   obtain ⟨sp,h4⟩:=insAll_in h3 _ (ats_mem.2 (.inr ⟨hs,hp⟩))
   refine resOn_ok (.inr ⟨hs,hp⟩) ?_
   rcases (pageIns_in h4).2 (by omega) with h5 | h5
   ·exact .inr (.inr h5)
   ·exact .inl h5
 ·rw [if_neg hat] at hs
  have hs : 0 ≤ i_event m.evs s ∨ 0 ≤ i_house m.hs s ∨ 0 ≤ i_gate (gatesM m a) s:=by
   simp only [Bool.or_eq_true,decide_eq_true_eq] at hs
   rcases hs with (h | h) | h
   ·exact .inl h
   ·exact .inr (.inl h)
   ·exact .inr (.inr h)
  refine ⟨?_,fun h=>absurd h hat,?_⟩
  ·rcases hs with h | h | h
   ·exact ev_name h1 h
   ·exact hs_name h1 h
   ·exact gate_name h2 ha h
  ·unfold resR
   rw [if_neg hat]
   exact resOn_ok ha hs

theorem closed_of {m : Md} (h1 : eventsErr m = 0) (h2 : gatesErrAll m = 0) (h3 : insAll m (atsM m) [] = 0) : ClosedM m:=by
 intro x hx s hs
 obtain ⟨_,ha,hi⟩:=mem_all.1 hx
 obtain ⟨sp,h4⟩:=insAll_in h3 _ (ats_mem.2 ha)
 have hin:=(pageIns_in h4).1 (gateAt m x) (getD_mem (by omega)) s hs
 have:=inOk h1 h2 h3 ha hin
 exact ⟨this.pos,this.pg,this.ok⟩

theorem MdC.gatesM {m : Md} (hC : MdC m) {a : Int} (ha : a = -1 ∨ (0 ≤ a ∧ a < (m.pages.length : Int))) : mgC (gatesM m a):=by
 unfold S.gatesM
 split
 ·exact hC.gates
 ·exact hC.pages _ (getD_mem (by omega))

theorem gatesIns_len {m : Md} {a : Int} : ∀ {l : List Mg} {sp : List Str},(∀ x ∈ l,x.ins.length ≤ 40) → (gatesIns m a l sp).2.length ≤ sp.length + 40 * l.length
 | [],sp,_=>by simp [gatesIns]
 | g :: l,sp,h=>by
   have h1:=insErr_len (m:=m) (a:=a) (g:=g) (l:=g.ins) (k:=0) (sp:=sp)
   have h2:=h g (by simp)
   simp only [gatesIns]
   split
   ·simp only [List.length_cons]; omega
   ·have:=gatesIns_len (m:=m) (a:=a) (l:=l) (sp:=(insErr m a g 0 g.ins sp).2) fun x hx=>h x (by simp [hx])
    simp only [List.length_cons]; omega

theorem pageIns_len {m : Md} (hB : MdB m) {a : Int} (ha : a = -1 ∨ (0 ≤ a ∧ a < (m.pages.length : Int))) {sp : List Str} : (pageIns m a sp).2.length ≤ sp.length + 4000:=by
 obtain ⟨h1,h2⟩:=hB.gatesM ha
 have:=gatesIns_len (m:=m) (a:=a) (l:=gatesM m a) (sp:=sp) h2
 unfold pageIns
 split
 ·omega
 split
 ·simp
 ·omega

theorem c_mCheck (m : Md) (hC : MdC m) (hB : MdB m) (R : AV) (hR : R = errAV (checkM m)) : FnH Tryz.prog 42 [m.av] [] R []:=by
 have hpl:=hB.pages
 refine FnH.intro lay mixed Tryz.func42 (by kernel_rfl) rfl (by kernel_rfl) rfl fun hok=>?_
 (try dsimp only[argC,succC]);(try dsimp only[awp]);conv=>whnf
 refine .pure _ _ ?_ ⟨rfl,rfl⟩ (c_tokenName m.name) fun _=>?_
 ·exact leL_refl _
 (try dsimp only[awp]);conv=>whnf
 refine And.intro (fun g1=>?_) (fun g1=>?_)
 ·have g1 : nameR m.name = false:=by simpa using g1
  obtain rfl : R = .ifc 111 (.int .i64 5):=by rw [hR,show checkM m = 5 from by unfold checkM; rw [if_pos g1]]; rfl
  (try dsimp only[awp]);conv=>whnf
  refine fM ?_;(conv=>whnf);refine ⟨?_,rfl⟩;conv=>whnf
  all_goals exact wk
 have g1 : ¬ nameR m.name = false:=by simpa using g1
 (try dsimp only[awp]);conv=>whnf
 have cE:=c_checkEvents m hC _ rfl
 by_cases g2 : eventsErr m ≠ 0
 ·obtain rfl : R = .ifc 111 (.int .i64 (eventsErr m)):=by rw [hR,show checkM m = eventsErr m from by unfold checkM; rw [if_neg g1]; rw [if_pos g2],errAV_ne g2]
  rw [errAV_ne g2] at cE
  refine .pure _ _ ?_ ⟨rfl,rfl⟩ cE fun _=>?_
  ·exact leL_refl _
  (try dsimp only[awp]);conv=>whnf
  refine fM ?_;(conv=>whnf);refine ⟨?_,rfl⟩;conv=>whnf
  all_goals exact wk
 rw [show eventsErr m = 0 from by simpa using g2,errAV_zero] at cE
 refine .pure _ _ ?_ ⟨rfl,rfl⟩ cE fun _=>?_
 ·exact leL_refl _
 (try dsimp only[awp]);conv=>whnf
 have cE:=c_checkPages m hB _ rfl
 by_cases g3 : pagesErr m ≠ 0
 ·obtain rfl : R = .ifc 111 (.int .i64 (pagesErr m)):=by rw [hR,show checkM m = pagesErr m from by unfold checkM; rw [if_neg g1,if_neg g2]; rw [if_pos g3],errAV_ne g3]
  rw [errAV_ne g3] at cE
  refine .pure _ _ ?_ ⟨rfl,rfl⟩ cE fun _=>?_
  ·exact leL_refl _
  (try dsimp only[awp]);conv=>whnf
  refine fM ?_;(conv=>whnf);refine ⟨?_,rfl⟩;conv=>whnf
  all_goals exact wk
 rw [show pagesErr m = 0 from by simpa using g3,errAV_zero] at cE
 refine .pure _ _ ?_ ⟨rfl,rfl⟩ cE fun _=>?_
 ·exact leL_refl _
 (try dsimp only[awp]);conv=>whnf
 refine LoopE.of <| LoopSpec.inv (.refl _ _) (fun (k : Nat)=>k ≤ m.pages.length + 1 ∧ gatesErrAll m = errL (fun _ a=>errL (gateErrM m a) 0 (gatesM m a)) k ((atsM m).drop k)) (fun (k : Nat)=>[(5,.int .i64 ((k : Int) - 1))]) (fun _=>_) (fun (k : Nat)=>m.pages.length + 1 - k) 0 ?_ (fun _=>rfl) ?_ ?_
 ·exact ⟨Nat.zero_le _,rfl⟩
 ·all_goals exact wk
 rintro k ⟨hk,hn⟩ _
 (try dsimp only[awp]);conv=>whnf
 refine And.intro (fun h=>?_) (fun h=>?_)
 ·have hkl : k < m.pages.length + 1:=by simp only [List.length_map] at h; omega
  have ha : (k : Int) - 1 = -1 ∨ (0 ≤ (k : Int) - 1 ∧ (k : Int) - 1 < (m.pages.length : Int)):=by omega
  rw [drop_of_get? (ats_get hkl)] at hn
  simp only [errL] at hn
  have cE:=c_checkGates m _ ha (hC.gatesM ha) _ rfl
  by_cases g4 : errL (gateErrM m ((k : Int) - 1)) 0 (gatesM m ((k : Int) - 1)) ≠ 0
  ·rw [if_pos g4] at hn
   rw [← hn] at cE g4
   obtain rfl : R = .ifc 111 (.int .i64 (gatesErrAll m)):=by rw [hR,show checkM m = gatesErrAll m from by unfold checkM; rw [if_neg g1,if_neg g2,if_neg g3,if_pos g4],errAV_ne g4]
   rw [errAV_ne g4] at cE
   (try dsimp only[awp]);conv=>whnf
   refine .pure _ _ ?_ ⟨rfl,rfl⟩ cE fun _=>?_
   ·exact leL_refl _
   (try dsimp only[awp]);conv=>whnf
   refine fM ?_;(conv=>whnf);refine ⟨?_,rfl⟩;conv=>whnf
   all_goals exact wk
  ·rw [if_neg g4] at hn
   rw [show errL (gateErrM m ((k : Int) - 1)) 0 (gatesM m ((k : Int) - 1)) = 0 from by simpa using g4,errAV_zero] at cE
   (try dsimp only[awp]);conv=>whnf
   refine .pure _ _ ?_ ⟨rfl,rfl⟩ cE fun _=>?_
   ·exact leL_refl _
   (try dsimp only[awp]);conv=>whnf
   refine zA ?_;conv=>whnf
   refine ⟨k + 1,?_,?_,?_⟩
   ·exact ⟨hkl,hn⟩
   ·refine ⟨?_,.mk ?_ ⟨by simp,trivial⟩⟩
    ·repeat' first|exact rfl|exact trivial|exact wR|exact lR _|apply aI
     all_goals (show _ = _; congr 1; omega)
    ·all_goals exact wk
   ·omega
 have hkl : m.pages.length + 1 ≤ k:=by simp only [List.length_map] at h; omega
 rw [List.drop_eq_nil_of_le (by rw [ats_len]; omega)] at hn
 simp only [errL] at hn
 have g4 : ¬ gatesErrAll m ≠ 0:=by rw [hn]; simp
 have z4:=hn
 clear h hn hk hkl
 (try dsimp only[awp]);conv=>whnf
 refine LoopE.of <| LoopSpec.inv (.grow 7 1 [] _ rfl (.inl ⟨rfl,rfl⟩) (.refl _ _)) (fun (q : Nat × List Str)=>q.1 ≤ m.pages.length + 1 ∧ insAll m (atsM m) [] = insAll m ((atsM m).drop q.1) q.2 ∧ q.2.length ≤ 4000 * q.1)
  (fun q=>[(8,.int .i64 ((q.1 : Int) - 1)),(7,.sl 1 (q.2.map .str) (.own 1))]) (fun q=>[(1,.tok 1 q.2.length),(0,.box m.av)]) (fun q=>m.pages.length + 1 - q.1) (0,[]) ?_ (fun _=>rfl) ?_ ?_
 ·exact ⟨Nat.zero_le _,rfl,by simp⟩
 ·refine ⟨?_,.mk ?_ ⟨by simp,by simp,trivial⟩⟩
  ·all_goals exact wk
  ·all_goals exact wk
 rintro ⟨k,sp⟩ ⟨hk,hn,hsp⟩ _
 dsimp only at hk hn hsp
 (try dsimp only[awp]);conv=>whnf
 refine And.intro (fun h=>?_) (fun h=>?_)
 ·have hkl : k < m.pages.length + 1:=by simp only [List.length_map] at h; omega
  have ha : (k : Int) - 1 = -1 ∨ (0 ≤ (k : Int) - 1 ∧ (k : Int) - 1 < (m.pages.length : Int)):=by omega
  rw [drop_of_get? (ats_get hkl)] at hn
  simp only [insAll] at hn
  have hc:=fun R G=>c_checkInputs m ((k : Int) - 1) sp ha (hB.gatesM ha) (by omega) R G
  have hpi:=pageIns_len hB ha (sp:=sp)
  generalize pageIns m ((k : Int) - 1) sp = pi at *
  obtain ⟨pe,ps⟩:=pi
  dsimp only at hn hc hpi
  (try dsimp only[awp]);conv=>whnf
  by_cases hE : pe = 0
  ·rw [if_neg (by simp [hE])] at hn
   refine .gen _ _ (FnH.frame [1] (hc _ _ (by rw [if_pos hE]) (by rw [if_pos hE])) ⟨rfl,rfl,rfl,rfl⟩ ?_ ?_) fun _=>?_
   ·all_goals exact wk
   ·all_goals exact wk
   (try dsimp only[awp]);conv=>whnf
   refine zA ?_;conv=>whnf
   refine ⟨(k + 1,ps),?_,?_,?_⟩
   ·exact ⟨hkl,hn,by show ps.length ≤ 4000 * (k + 1); omega⟩
   ·refine ⟨?_,.mk ?_ ⟨by simp,by simp,trivial⟩⟩
    ·repeat' first|exact rfl|exact trivial|exact wR|exact lR _|apply aI
     all_goals (show _ = _; congr 1; omega)
    ·all_goals exact wk
   ·show m.pages.length + 1 - (k + 1) < m.pages.length + 1 - k
    omega
  ·rw [if_pos hE] at hn
   have g5 : insAll m (atsM m) [] ≠ 0:=by rw [hn]; exact hE
   obtain rfl : R = .ifc 111 (.int .i64 pe):=by rw [hR,show checkM m = pe from by unfold checkM; rw [if_neg g1,if_neg g2,if_neg g3,if_neg g4,if_pos g5,hn],errAV_ne hE]
   refine .gen _ _ (FnH.frame [1] (hc _ _ (by rw [if_neg hE]) (by rw [if_neg hE])) ⟨rfl,rfl,rfl,rfl⟩ ?_ ?_) fun _=>?_
   ·all_goals exact wk
   ·all_goals exact wk
   (try dsimp only[awp]);conv=>whnf
   refine fM ?_;(conv=>whnf);refine ⟨?_,rfl⟩;conv=>whnf
   all_goals exact wk
 have hkl : m.pages.length + 1 ≤ k:=by simp only [List.length_map] at h; omega
 rw [List.drop_eq_nil_of_le (by rw [ats_len]; omega)] at hn
 simp only [insAll] at hn
 have g5 : ¬ insAll m (atsM m) [] ≠ 0:=by rw [hn]; simp
 have z5:=hn
 clear h hn hk hkl hsp
 (try dsimp only[awp]);conv=>whnf
 refine .pure _ _ ?_ ⟨rfl,rfl⟩ (c_isInput m (-1) m.top (.inl rfl)) fun _=>?_
 ·exact leL_refl _
 (try dsimp only[awp]);conv=>whnf
 refine And.intro (fun g6=>?_) (fun g6=>?_)
 ·have g6 : isInR m (-1) m.top = false:=by simpa using g6
  obtain rfl : R = .ifc 111 (.int .i64 5):=by rw [hR,show checkM m = 5 from by unfold checkM; rw [if_neg g1,if_neg g2,if_neg g3,if_neg g4,if_neg g5,if_pos g6]]; rfl
  (try dsimp only[awp]);conv=>whnf
  refine fM ?_;(conv=>whnf);refine ⟨?_,rfl⟩;conv=>whnf
  all_goals exact wk
 have g6 : ¬ isInR m (-1) m.top = false:=by simpa using g6
 (try dsimp only[awp]);conv=>whnf
 have cE:=c_checkGroups m hC hB _ rfl
 by_cases g7 : groupsErr m ≠ 0
 ·obtain rfl : R = .ifc 111 (.int .i64 (groupsErr m)):=by rw [hR,show checkM m = groupsErr m from by unfold checkM; rw [if_neg g1,if_neg g2,if_neg g3,if_neg g4,if_neg g5,if_neg g6]; rw [if_pos g7],errAV_ne g7]
  rw [errAV_ne g7] at cE
  refine .pure _ _ ?_ ⟨rfl,rfl⟩ cE fun _=>?_
  ·exact leL_refl _
  (try dsimp only[awp]);conv=>whnf
  refine fM ?_;(conv=>whnf);refine ⟨?_,rfl⟩;conv=>whnf
  all_goals exact wk
 rw [show groupsErr m = 0 from by simpa using g7,errAV_zero] at cE
 refine .pure _ _ ?_ ⟨rfl,rfl⟩ cE fun _=>?_
 ·exact leL_refl _
 (try dsimp only[awp]);conv=>whnf
 have cE:=c_checkPhases m hC hB _ rfl
 by_cases g8 : phasesErr m ≠ 0
 ·obtain rfl : R = .ifc 111 (.int .i64 (phasesErr m)):=by rw [hR,show checkM m = phasesErr m from by unfold checkM; rw [if_neg g1,if_neg g2,if_neg g3,if_neg g4,if_neg g5,if_neg g6,if_neg g7]; rw [if_pos g8],errAV_ne g8]
  rw [errAV_ne g8] at cE
  refine .pure _ _ ?_ ⟨rfl,rfl⟩ cE fun _=>?_
  ·exact leL_refl _
  (try dsimp only[awp]);conv=>whnf
  refine fM ?_;(conv=>whnf);refine ⟨?_,rfl⟩;conv=>whnf
  all_goals exact wk
 rw [show phasesErr m = 0 from by simpa using g8,errAV_zero] at cE
 refine .pure _ _ ?_ ⟨rfl,rfl⟩ cE fun _=>?_
 ·exact leL_refl _
 (try dsimp only[awp]);conv=>whnf
 have cy:=c_cyclic m hB (closed_of (by simpa using g2) z4 z5)
 refine .pure _ _ ?_ ⟨rfl,rfl⟩ cy fun _=>?_
 ·exact leL_refl _
 (try dsimp only[awp]);conv=>whnf
 refine And.intro (fun g9=>?_) (fun g9=>?_)
 ·obtain rfl : R = .ifc 111 (.int .i64 14):=by rw [hR,show checkM m = 14 from by unfold checkM; rw [if_neg g1,if_neg g2,if_neg g3,if_neg g4,if_neg g5,if_neg g6,if_neg g7,if_neg g8,if_pos g9]]; rfl
  (try dsimp only[awp]);conv=>whnf
  refine fM ?_;(conv=>whnf);refine ⟨?_,rfl⟩;conv=>whnf
  all_goals exact wk
 ·obtain rfl : R = .nilI:=by rw [hR,show checkM m = 0 from by unfold checkM; rw [if_neg g1,if_neg g2,if_neg g3,if_neg g4,if_neg g5,if_neg g6,if_neg g7,if_neg g8,if_neg (by rw [g9]; simp)]]; rfl
  (try dsimp only[awp]);conv=>whnf
  refine fM ?_;(conv=>whnf);refine ⟨?_,rfl⟩;conv=>whnf
  all_goals exact wk

structure MOk (m : Md) : Prop where
 name : nameR m.name = true
 evs : eventsErr m = 0
 pages : pagesErr m = 0
 gates : gatesErrAll m = 0
 ins : insAll m (atsM m) [] = 0
 top : isInR m (-1) m.top = true
 grs : groupsErr m = 0
 phs : phasesErr m = 0
 cyc : cycR m = false

theorem checkM_ok {m : Md} (h : checkM m = 0) : MOk m:=by
 unfold checkM at h
 split at h
 ·cases h
 rename_i h1
 split at h
 ·rename_i h2; exact absurd h h2
 rename_i h2
 split at h
 ·rename_i h2; exact absurd h h2
 rename_i h3
 split at h
 ·rename_i h2; exact absurd h h2
 rename_i h4
 split at h
 ·rename_i h2; exact absurd h h2
 rename_i h5
 split at h
 ·cases h
 rename_i h6
 split at h
 ·rename_i h2; exact absurd h h2
 rename_i h7
 split at h
 ·rename_i h2; exact absurd h h2
 rename_i h8
 split at h
 ·cases h
 rename_i h9
 exact ⟨by simpa using h1,by simpa using h2,by simpa using h3,by simpa using h4,by simpa using h5,by simpa using h6,by simpa using h7,by simpa using h8,by simpa using h9⟩

theorem MOk.closed {m : Md} (h : MOk m) : ClosedM m:=closed_of h.evs h.gates h.ins
theorem MOk.inOk {m : Md} (h : MOk m) {a : Int} (ha : a = -1 ∨ (0 ≤ a ∧ a < (m.pages.length : Int))) {s : Str} (hs : isInR m a s = true) : InOk m a s:=S.inOk h.evs h.gates h.ins ha hs
theorem MOk.lens {m : Md} (h : MOk m) : m.evs.length ≤ 24 ∧ m.hs.length ≤ 16:=⟨(eventsErr_zero h.evs).1,(eventsErr_zero h.evs).2.1⟩

def inputR (m : Md) (a : Int) (s : Str) : Node × Int :=
 if checkM m ≠ 0 then ((0,0,0),checkM m) else if a < -1 then ((0,0,0),10) else if (m.pages.length : Int) ≤ a then ((0,0,0),10)
 else if isInR m a s = false then ((0,0,0),5) else (resR m a s,0)

theorem c_Input (m : Md) (a : Int) (s : Str) (hC : MdC m) (hB : MdB m) (R : AV) (hR : R = .tup [.int .i64 (inputR m a s).1.1,.int .i64 (inputR m a s).1.2.1,.int .i64 (inputR m a s).1.2.2,errAV (inputR m a s).2]) : FnH Tryz.prog 218 [m.av,.int .i64 a,.str s] [] R []:=by
 have cc:=c_mCheck m hC hB _ rfl
 have hpl:=hB.pages
 refine FnH.intro lay mixed Tryz.func218 (by kernel_rfl) rfl (by kernel_rfl) rfl fun hok=>?_
 (try dsimp only[argC,succC]);(try dsimp only[awp]);conv=>whnf
 refine .pure _ _ ?_ ⟨rfl,errAV_bnd _⟩ cc fun _=>?_
 ·exact leL_refl _
 by_cases g0 : checkM m ≠ 0
 ·rw [errAV_ne g0]
  rw [show inputR m a s = ((0,0,0),checkM m) from by unfold inputR; rw [if_pos g0]] at hR
  rw [errAV_ne g0] at hR
  subst hR
  (try dsimp only[awp]);conv=>whnf
  refine fM ?_;(conv=>whnf);refine ⟨?_,rfl⟩;conv=>whnf
  all_goals exact wk
 have h0 : checkM m = 0:=by simpa using g0
 have hM:=checkM_ok h0
 rw [h0,errAV_zero]
 (try dsimp only[awp]);conv=>whnf
 refine And.intro (fun g1=>?_) (fun g1=>?_)
 ·rw [show inputR m a s = ((0,0,0),10) from by unfold inputR; rw [if_neg g0,if_pos g1]] at hR
  rw [errAV_ne (by decide)] at hR
  subst hR
  (try dsimp only[awp]);conv=>whnf
  refine fM ?_;(conv=>whnf);refine ⟨?_,rfl⟩;conv=>whnf
  all_goals exact wk
 (try dsimp only[awp]);conv=>whnf
 refine And.intro (fun g2=>?_) (fun g2=>?_)
 ·have g2 : (m.pages.length : Int) ≤ a:=by simpa using g2
  rw [show inputR m a s = ((0,0,0),10) from by unfold inputR; rw [if_neg g0,if_neg g1,if_pos g2]] at hR
  rw [errAV_ne (by decide)] at hR
  subst hR
  (try dsimp only[awp]);conv=>whnf
  refine fM ?_;(conv=>whnf);refine ⟨?_,rfl⟩;conv=>whnf
  all_goals exact wk
 have g2 : ¬ (m.pages.length : Int) ≤ a:=by simpa using g2
 have ha : a = -1 ∨ (0 ≤ a ∧ a < (m.pages.length : Int)):=by omega
 (try dsimp only[awp]);conv=>whnf
 refine .pure _ _ ?_ ⟨rfl,rfl⟩ (c_isInput m a s ha) fun _=>?_
 ·exact leL_refl _
 (try dsimp only[awp]);conv=>whnf
 refine And.intro (fun g3=>?_) (fun g3=>?_)
 ·have g3 : isInR m a s = false:=by simpa using g3
  rw [show inputR m a s = ((0,0,0),5) from by unfold inputR; rw [if_neg g0,if_neg g1,if_neg g2,if_pos g3]] at hR
  rw [errAV_ne (by decide)] at hR
  subst hR
  (try dsimp only[awp]);conv=>whnf
  refine fM ?_;(conv=>whnf);refine ⟨?_,rfl⟩;conv=>whnf
  all_goals exact wk
 have g3 : isInR m a s = true:=by simpa using g3
 have hin:=hM.inOk ha g3
 have cr:=c_resolve m a s hin.pos ha hin.pg
 rw [show inputR m a s = (resR m a s,0) from by unfold inputR; rw [if_neg g0,if_neg g1,if_neg g2,if_neg (by simp [g3])]] at hR
 rw [errAV_zero] at hR
 generalize resR m a s = r at *
 subst hR
 (try dsimp only[awp]);conv=>whnf
 refine .pure _ _ ?_ ⟨rfl,rfl⟩ cr fun _=>?_
 ·exact leL_refl _
 (try dsimp only[awp]);conv=>whnf
 refine ADraw.auto (by kernel_rfl) ?_;conv=>whnf
 refine fM ?_;(conv=>whnf);refine ⟨?_,rfl⟩;conv=>whnf
 all_goals exact wk



structure GateOk (m : Md) (a : Int) (k : Nat) (x : Mg) : Prop where
 name : nameR x.name = true
 noEv : i_event m.evs x.name < 0
 noHs : i_house m.hs x.name < 0
 first : (k : Int) ≤ i_gate (gatesM m a) x.name
 own : mgErr x = 0

theorem MOk.gate {m : Md} (hM : MOk m) {a : Int} (ha : a = -1 ∨ (0 ≤ a ∧ a < (m.pages.length : Int))) {k : Nat} (hk : k < (gatesM m a).length) : GateOk m a k (gatesM m a)[k]:=by
 have h:=gatesErrAll_zero hM.gates ha k hk
 unfold gateErrM at h
 split at h
 ·cases h
 rename_i h1
 split at h
 ·cases h
 rename_i h2
 split at h
 ·cases h
 rename_i h3
 split at h
 ·cases h
 rename_i h4
 exact ⟨by simpa using h1,by omega,by omega,by omega,h⟩

theorem name_noAt {s : Str} (h : nameR s = true) : atS s = false:=by
 unfold nameR at h
 simp only [Bool.and_eq_true,decide_eq_true_eq] at h
 unfold atS
 rw [Bool.and_eq_false_iff]
 right
 apply decide_eq_false
 intro e
 have:=h.1.2
 rw [e] at this
 revert this
 decide

theorem MOk.ins_in {m : Md} (hM : MOk m) {a : Int} (ha : a = -1 ∨ (0 ≤ a ∧ a < (m.pages.length : Int))) {x : Mg} (hx : x ∈ gatesM m a) {s : Str} (hs : s ∈ x.ins) : isInR m a s = true:=by
 obtain ⟨sp,h4⟩:=insAll_in hM.ins _ (ats_mem.2 ha)
 exact (pageIns_in h4).1 x hx s hs

structure Local (m : Md) (a : Int) (s : Str) (r : Node) : Prop where
 idx : 0 ≤ r.2.2
 kind : r.1 = 0 ∨ r.1 = 1 ∨ r.1 = 2
 ev : r.1 = 0 → r.2.2 < (m.evs.length : Int) ∧ (atS s = false → (m.evs.getD r.2.2.toNat default).name = s)
 hs : r.1 = 1 → r.2.2 < (m.hs.length : Int) ∧ (m.hs.getD r.2.2.toNat default).name = s
 gate : r.1 = 2 → (r.2.1 = -1 ∨ (0 ≤ r.2.1 ∧ r.2.1 < (m.pages.length : Int))) ∧ r.2.2 < ((gatesM m r.2.1).length : Int) ∧
  (atS s = false → r.2.1 = a ∧ ((gatesM m r.2.1).getD r.2.2.toNat default).name = s) ∧
  (atS s = true → 0 ≤ r.2.1 ∧ (m.pages.getD r.2.1.toNat default).name = s.drop 1 ∧ (m.pages.getD r.2.1.toNat default).top = ((gatesM m r.2.1).getD r.2.2.toNat default).name)

theorem idx_getD {α : Type} [Inhabited α] {f : α → Str} {l : List α} {s : Str} (h : 0 ≤ idxP (fun x=>decide (f x = s)) l) : f (l.getD (idxP (fun x=>decide (f x = s)) l).toNat default) = s:=by
 obtain ⟨i,hi,h1,h2⟩:=idx_name h
 rw [h1,Int.toNat_natCast,getD_lt hi]
 exact h2


structure Nd where
 kind : Int
 k : Int
 args : List Int
 deriving DecidableEq,Inhabited

abbrev Nd.av (x : Nd) : AV:=.ag [.int .i64 x.kind,.int .i64 x.k,iL x.args]

structure Fo where
 vars : Int
 nodes : List Nd
 top : Int
 deriving DecidableEq,Inhabited

abbrev Fo.av (x : Fo) : AV:=.ag [.int .i64 x.vars,.sl 3 (x.nodes.map Nd.av) .no,.int .i64 x.top]

def lookO : Marks → Node → Option Int
 | [],_=>none
 | (y,v) :: es,x=>if y = x then some v else lookO es x

theorem alook_opt {es : Marks} {x : Node} {k : AV → Prop} (h1 : ∀ v,lookO es x = some v → k (.tup [.int .i64 v,.tt])) (h2 : lookO es x = none → k (.tup [.int .i64 0,.ff])) :
  ALook (encM es) (nAV x) fun r=>lookK true (.int .i64 0) r k:=by
 have key : ∃ r,LookR (encM es) (nAV x) r ∧ lookK true (.int .i64 0) r k:=by
  induction es with
  | nil=>exact ⟨none,by simp [LookR,encM],h2 rfl⟩
  | cons e es ih =>
    obtain ⟨y,v⟩:=e
    by_cases hy : y = x
    ·subst hy
     exact ⟨some (.int .i64 v),⟨_,List.mem_cons_self,rfl,rfl⟩,h1 v (if_pos rfl)⟩
    ·have e : lookO ((y,v) :: es) x = lookO es x:=if_neg hy
     rw [e] at h1 h2
     obtain ⟨r,g1,g2⟩:=ih h1 h2
     refine ⟨r,?_,g2⟩
     cases r with
     | none =>
       intro z hz
       simp only [encM,List.map_cons,List.mem_cons] at hz
       rcases hz with rfl | hz
       ·exact fun e=>hy (kv_inj.1 e)
       ·exact g1 z hz
     | some w =>
       obtain ⟨z,hz,h3,h4⟩:=g1
       exact ⟨z,by simp only [encM,List.map_cons,List.mem_cons]; exact .inr hz,h3,h4⟩
 exact ⟨key⟩

theorem lookO_mark {es : Marks} {x y : Node} {v : Int} : lookO (mark es x v) y = if x = y then some v else lookO es y:=by
 induction es with
 | nil=>simp [mark,lookO]
 | cons e es ih =>
   obtain ⟨z,u⟩:=e
   simp only [mark]
   by_cases hz : z = x
   ·subst hz
    simp only [if_true,lookO]
    split <;> rfl
   ·simp only [if_neg hz,lookO,ih]
    by_cases hzy : z = y
    ·subst hzy
     rw [if_pos rfl,if_neg (fun e=>hz e.symm)]
     simp
    ·simp only [if_neg hzy]

theorem alook_put {es : Marks} {x : Node} {v : Int} {k : AV → Prop} (h : k (.int .i64 v)) : ALook (encM (mark es x v)) (nAV x) fun r=>lookK false (.int .i64 0) r k:=by
 refine alook_es ?_
 rw [look_mark,if_pos rfl]; exact h

def kindN (k : Int) : Int:=if k = 0 then 2 else if k = 5 then 2 else if k = 1 then 3 else if k = 2 then 4 else if k = 3 then 1 else if k = 4 then 5 else 0
def statK (k : Int) : Bool:=decide (k = 0) || decide (k = 5) || decide (k = 1) || decide (k = 2) || decide (k = 3) || decide (k = 4)

structure CS where
 nodes : List Nd
 es : Marks
 deriving Inhabited

def pushN (vars : Int) (s : CS) (x : Node) (nd : Nd) : (Bool × Int) × CS:=((false,vars + s.nodes.length),⟨s.nodes ++ [nd],mark s.es x (vars + s.nodes.length)⟩)

def houseAt (m : Md) (x : Node) : Hs:=m.hs.getD x.2.2.toNat default

def compL (f : Node → CS → (Bool × Int) × CS) : List Node → CS → List Int → (Bool × List Int) × CS
 | [],s,acc=>((false,acc),s)
 | y :: l,s,acc=>if (f y s).1.1 = true then ((true,acc),(f y s).2) else compL f l (f y s).2 (acc ++ [(f y s).1.2])

def compN (m : Md) (vars : Int) : Nat → Node → CS → (Bool × Int) × CS
 | 0,_,s=>((true,0),s)
 | n + 1,x,s=>if x.1 = 0 then ((false,x.2.2),s) else
   match lookO s.es x with
   | some a=>((false,a),s)
   | none=>if x.1 = 1 then pushN vars s x ⟨0,if (houseAt m x).on = true then 1 else 0,[]⟩
     else if statK (gateAt m x).kind = false then ((true,0),s)
     else if (compL (compN m vars n) (kidsM m x) s []).1.1 = true then ((true,0),(compL (compN m vars n) (kidsM m x) s []).2)
     else pushN vars (compL (compN m vars n) (kidsM m x) s []).2 x ⟨kindN (gateAt m x).kind,(gateAt m x).k,(compL (compN m vars n) (kidsM m x) s []).1.2⟩

abbrev WkO (T : HO) : Prop:=leO T T ∧ (match T with | .amap _ es=>bndM 3 es = true | o=>bndO 3 o = true)
abbrev WkA (X : AV) : Prop:=le0 X X ∧ bndB 3 X = true

abbrev hpF (m : Md) (X : AV) (T M : HO) : Heap:=[(2,T),(1,.box (.ag [m.av,X,.mp 0])),(0,M)]

theorem c_find1 (x : Pg) (s : Str) (h0 : 0 < s.length) : FnH Tryz.prog 283 [x.av,.ptr 0 [] 0] [(0,.box (.str s))] (.bool (decide (x.name = s.drop 1))) [(0,.box (.str s))]:=by
 refine FnH.intro lay mixed Tryz.func283 (by kernel_rfl) rfl (by kernel_rfl) rfl fun hok=>?_
 (try dsimp only[argC,succC]);(try dsimp only[awp]);conv=>whnf
 refine ADraw.auto (by kernel_rfl) ?_;conv=>whnf
 refine ⟨⟨by omega,by omega,by omega⟩,?_⟩
 rw [cut1]
 (try dsimp only[awp]);conv=>whnf
 refine ⟨⟨_,_,.refl _ _,?_⟩⟩
 conv=>whnf
 refine ⟨?_,rfl,by simp [nextId],.mk ?_ ⟨by simp,trivial⟩⟩
 ·show _ ↔ _
  simp
 ·all_goals exact wk

theorem c_find2 (x : Ev) (s : Str) : FnH Tryz.prog 284 [x.av,.ptr 0 [] 0] [(0,.box (.str s))] (.bool (decide (x.name = s))) [(0,.box (.str s))]:=by
 refine FnH.intro lay mixed Tryz.func284 (by kernel_rfl) rfl (by kernel_rfl) rfl fun hok=>?_
 (try dsimp only[argC,succC]);(try dsimp only[awp]);conv=>whnf
 refine ⟨⟨_,_,.refl _ _,?_⟩⟩
 conv=>whnf
 refine ⟨?_,rfl,by simp [nextId],.mk ?_ ⟨by simp,trivial⟩⟩
 ·show _ ↔ _
  simp
 ·all_goals exact wk
theorem c_find3 (x : Hs) (s : Str) : FnH Tryz.prog 285 [x.av,.ptr 0 [] 0] [(0,.box (.str s))] (.bool (decide (x.name = s))) [(0,.box (.str s))]:=by
 refine FnH.intro lay mixed Tryz.func285 (by kernel_rfl) rfl (by kernel_rfl) rfl fun hok=>?_
 (try dsimp only[argC,succC]);(try dsimp only[awp]);conv=>whnf
 refine ⟨⟨_,_,.refl _ _,?_⟩⟩
 conv=>whnf
 refine ⟨?_,rfl,by simp [nextId],.mk ?_ ⟨by simp,trivial⟩⟩
 ·show _ ↔ _
  simp
 ·all_goals exact wk
theorem c_find4 (x : Mg) (s : Str) : FnH Tryz.prog 286 [x.av,.ptr 0 [] 0] [(0,.box (.str s))] (.bool (decide (x.name = s))) [(0,.box (.str s))]:=by
 refine FnH.intro lay mixed Tryz.func286 (by kernel_rfl) rfl (by kernel_rfl) rfl fun hok=>?_
 (try dsimp only[argC,succC]);(try dsimp only[awp]);conv=>whnf
 refine ⟨⟨_,_,.refl _ _,?_⟩⟩
 conv=>whnf
 refine ⟨?_,rfl,by simp [nextId],.mk ?_ ⟨by simp,trivial⟩⟩
 ·show _ ↔ _
  simp
 ·all_goals exact wk

theorem c_cgates (m : Md) (X : AV) (T M B3 B4 : HO) (a : Int) (h : a = -1 ∨ (0 ≤ a ∧ a < (m.pages.length : Int))) : FnH Tryz.prog 265 [.ptr 1 [] 0,.int .i64 a] ((4,B4) :: (3,B3) :: hpF m X T M) (gL (gatesM m a)) ((4,B4) :: (3,B3) :: hpF m X T M):=by
 refine FnH.intro lay mixed Tryz.func265 (by kernel_rfl) rfl (by kernel_rfl) rfl fun hok=>?_
 (try dsimp only[argC,succC]);(try dsimp only[awp]);conv=>whnf
 refine And.intro (fun h1=>?_) (fun h1=>?_)
 ·rw [show gatesM m a = m.gates from if_pos h1]
  (try dsimp only[awp]);conv=>whnf
  (refine FinSpec.same ?_;(conv=>whnf);refine ⟨?_,rfl⟩;(conv=>whnf))
  all_goals exact wk
 ·have hb : 0 ≤ a ∧ a < (m.pages.length : Int):=by omega
  rw [show gatesM m a = (m.pages.getD a.toNat default).gates from if_neg h1]
  (try dsimp only[awp]);conv=>whnf
  refine aidxD default hb ?_
  (try dsimp only[awp]);conv=>whnf
  (refine FinSpec.same ?_;(conv=>whnf);refine ⟨?_,rfl⟩;(conv=>whnf))
  all_goals exact wk

theorem c_cfind (m : Md) (X : AV) (T M : HO) (hX : WkA X) (hT : WkO T) (hO : WkO M) (a : Int) (s : Str) (h0 : 0 < s.length) (ha : a = -1 ∨ (0 ≤ a ∧ a < (m.pages.length : Int))) (hp : atS s = true → 0 ≤ i_page m.pages (s.drop 1)) :
  FnH Tryz.prog 264 [.ptr 1 [] 0,.int .i64 a,.str s] (hpF m X T M) (nAV (resR m a s)) (hpF m X T M):=by
 have hpl : i_page m.pages (s.drop 1) < (m.pages.length : Int):=idxP_lt _ _
 refine FnH.intro lay mixed Tryz.func264 (by kernel_rfl) rfl (by kernel_rfl) rfl fun hok=>?_
 (try dsimp only[argC,succC]);(try dsimp only[awp]);conv=>whnf
 refine sidx0 h0 ?_
 (try dsimp only[awp]);conv=>whnf
 refine And.intro (fun h2=>?_) (fun h2=>?_)
 ·have e : atS s = true:=by simp only [atS,h0,h2,decide_true,Bool.true_and]
  have hp:=hp e
  rw [show resR m a s = resOn m (i_page m.pages (s.drop 1)) (pageTop m (i_page m.pages (s.drop 1))) from if_pos e]
  have hpt : (m.pages.getD (i_page m.pages (s.drop 1)).toNat default).top = pageTop m (i_page m.pages (s.drop 1)):=rfl
  (try dsimp only[awp]);conv=>whnf
  refine .gen _ _ (c_idx_Pg m.pages 283 [.ptr 3 [] 0] (fun x=>decide (x.name = s.drop 1)) _ fun x _=>FnH.frame [3] (c_find1 x s h0) ⟨rfl,rfl,rfl,rfl⟩ (by (repeat' first|exact rfl|exact trivial|exact wR|exact lR _|apply aI)) (by (repeat' first|exact rfl|exact trivial|exact wR|exact lR _|apply aI))) fun _=>?_
  rw [show idxP (fun x=>decide (x.name = s.drop 1)) m.pages = i_page m.pages (s.drop 1) from rfl]
  generalize i_page m.pages (s.drop 1) = p at *
  have hpb : p = -1 ∨ (0 ≤ p ∧ p < (m.pages.length : Int)):=.inr ⟨hp,hpl⟩
  (try dsimp only[awp]);conv=>whnf
  refine aidxD default ⟨hp,hpl⟩ ?_
  (try dsimp only[awp]);conv=>whnf
  rw [hpt]
  generalize pageTop m p = t at *
  (try dsimp only[awp]);conv=>whnf
  refine .gen _ _ (c_idx_Ev m.evs 284 [.ptr 3 [] 0] (fun x=>decide (x.name = t)) _ fun x _=>FnH.frame [3] (c_find2 x t) ⟨rfl,rfl,rfl,rfl⟩ (by (repeat' first|exact rfl|exact trivial|exact wR|exact lR _|apply aI)) (by (repeat' first|exact rfl|exact trivial|exact wR|exact lR _|apply aI))) fun _=>?_
  (try dsimp only[awp]);conv=>whnf
  refine And.intro (fun h3=>?_) (fun h3=>?_)
  ·rw [show resOn m p t = (0,0,i_event m.evs t) from if_pos h3]
   (try dsimp only[awp]);conv=>whnf
   refine ⟨⟨_,_,.refl _ _,?_⟩⟩
   conv=>whnf
   refine ⟨?_,rfl,by simp [nextId],.mk ?_ (by simp [idsOk])⟩
   ·all_goals exact wk
   ·repeat' first|exact rfl|exact trivial|exact wR|exact lR _|apply aI
    all_goals first | exact hT.1 | exact hT.2 | exact hO.1 | exact hO.2 | exact hX.1 | (show (match bndB 3 X with | true=>_ | false=>_) = true; rw [hX.2]; rfl)
  (try dsimp only[awp]);conv=>whnf
  refine .gen _ _ (c_idx_Hs m.hs 285 [.ptr 3 [] 0] (fun x=>decide (x.name = t)) _ fun x _=>FnH.frame [3] (c_find3 x t) ⟨rfl,rfl,rfl,rfl⟩ (by (repeat' first|exact rfl|exact trivial|exact wR|exact lR _|apply aI)) (by (repeat' first|exact rfl|exact trivial|exact wR|exact lR _|apply aI))) fun _=>?_
  (try dsimp only[awp]);conv=>whnf
  refine And.intro (fun h4=>?_) (fun h4=>?_)
  ·rw [show resOn m p t = (1,0,i_house m.hs t) from (if_neg h3).trans (if_pos h4)]
   (try dsimp only[awp]);conv=>whnf
   refine ⟨⟨_,_,.refl _ _,?_⟩⟩
   conv=>whnf
   refine ⟨?_,rfl,by simp [nextId],.mk ?_ (by simp [idsOk])⟩
   ·all_goals exact wk
   ·repeat' first|exact rfl|exact trivial|exact wR|exact lR _|apply aI
    all_goals first | exact hT.1 | exact hT.2 | exact hO.1 | exact hO.2 | exact hX.1 | (show (match bndB 3 X with | true=>_ | false=>_) = true; rw [hX.2]; rfl)
  rw [show resOn m p t = (2,p,i_gate (gatesM m p) t) from (if_neg h3).trans (if_neg h4)]
  (try dsimp only[awp]);conv=>whnf
  refine .gen _ _ (c_cgates m X T M _ _ p (by assumption)) fun _=>?_
  (try dsimp only[awp]);conv=>whnf
  refine .gen _ _ (c_idx_Mg (gatesM m p) 286 [.ptr 3 [] 0] (fun x=>decide (x.name = t)) _ fun x _=>FnH.frame [3] (c_find4 x t) ⟨rfl,rfl,rfl,rfl⟩ (by (repeat' first|exact rfl|exact trivial|exact wR|exact lR _|apply aI)) (by (repeat' first|exact rfl|exact trivial|exact wR|exact lR _|apply aI))) fun _=>?_
  (try dsimp only[awp]);conv=>whnf
  refine ⟨⟨_,_,.refl _ _,?_⟩⟩
  conv=>whnf
  refine ⟨?_,rfl,by simp [nextId],.mk ?_ (by simp [idsOk])⟩
  ·all_goals exact wk
  ·repeat' first|exact rfl|exact trivial|exact wR|exact lR _|apply aI
   all_goals first | exact hT.1 | exact hT.2 | exact hO.1 | exact hO.2 | exact hX.1 | (show (match bndB 3 X with | true=>_ | false=>_) = true; rw [hX.2]; rfl)
 ·have e : atS s = false:=by simp only [atS,decide_eq_false h2,Bool.and_false]
  rw [show resR m a s = resOn m a s from if_neg (by rw [e]; simp)]
  (try dsimp only[awp]);conv=>whnf
  refine .gen _ _ (c_idx_Ev m.evs 284 [.ptr 3 [] 0] (fun x=>decide (x.name = s)) _ fun x _=>FnH.frame [3] (c_find2 x s) ⟨rfl,rfl,rfl,rfl⟩ (by (repeat' first|exact rfl|exact trivial|exact wR|exact lR _|apply aI)) (by (repeat' first|exact rfl|exact trivial|exact wR|exact lR _|apply aI))) fun _=>?_
  (try dsimp only[awp]);conv=>whnf
  refine And.intro (fun h3=>?_) (fun h3=>?_)
  ·rw [show resOn m a s = (0,0,i_event m.evs s) from if_pos h3]
   (try dsimp only[awp]);conv=>whnf
   refine ⟨⟨_,_,.refl _ _,?_⟩⟩
   conv=>whnf
   refine ⟨?_,rfl,by simp [nextId],.mk ?_ (by simp [idsOk])⟩
   ·all_goals exact wk
   ·repeat' first|exact rfl|exact trivial|exact wR|exact lR _|apply aI
    all_goals first | exact hT.1 | exact hT.2 | exact hO.1 | exact hO.2 | exact hX.1 | (show (match bndB 3 X with | true=>_ | false=>_) = true; rw [hX.2]; rfl)
  (try dsimp only[awp]);conv=>whnf
  refine .gen _ _ (c_idx_Hs m.hs 285 [.ptr 3 [] 0] (fun x=>decide (x.name = s)) _ fun x _=>FnH.frame [3] (c_find3 x s) ⟨rfl,rfl,rfl,rfl⟩ (by (repeat' first|exact rfl|exact trivial|exact wR|exact lR _|apply aI)) (by (repeat' first|exact rfl|exact trivial|exact wR|exact lR _|apply aI))) fun _=>?_
  (try dsimp only[awp]);conv=>whnf
  refine And.intro (fun h4=>?_) (fun h4=>?_)
  ·rw [show resOn m a s = (1,0,i_house m.hs s) from (if_neg h3).trans (if_pos h4)]
   (try dsimp only[awp]);conv=>whnf
   refine ⟨⟨_,_,.refl _ _,?_⟩⟩
   conv=>whnf
   refine ⟨?_,rfl,by simp [nextId],.mk ?_ (by simp [idsOk])⟩
   ·all_goals exact wk
   ·repeat' first|exact rfl|exact trivial|exact wR|exact lR _|apply aI
    all_goals first | exact hT.1 | exact hT.2 | exact hO.1 | exact hO.2 | exact hX.1 | (show (match bndB 3 X with | true=>_ | false=>_) = true; rw [hX.2]; rfl)
  rw [show resOn m a s = (2,a,i_gate (gatesM m a) s) from (if_neg h3).trans (if_neg h4)]
  (try dsimp only[awp]);conv=>whnf
  refine .gen _ _ (c_cgates m X T M _ _ a (by assumption)) fun _=>?_
  (try dsimp only[awp]);conv=>whnf
  refine .gen _ _ (c_idx_Mg (gatesM m a) 286 [.ptr 3 [] 0] (fun x=>decide (x.name = s)) _ fun x _=>FnH.frame [3] (c_find4 x s) ⟨rfl,rfl,rfl,rfl⟩ (by (repeat' first|exact rfl|exact trivial|exact wR|exact lR _|apply aI)) (by (repeat' first|exact rfl|exact trivial|exact wR|exact lR _|apply aI))) fun _=>?_
  (try dsimp only[awp]);conv=>whnf
  refine ⟨⟨_,_,.refl _ _,?_⟩⟩
  conv=>whnf
  refine ⟨?_,rfl,by simp [nextId],.mk ?_ (by simp [idsOk])⟩
  ·all_goals exact wk
  ·repeat' first|exact rfl|exact trivial|exact wR|exact lR _|apply aI
   all_goals first | exact hT.1 | exact hT.2 | exact hO.1 | exact hO.2 | exact hX.1 | (show (match bndB 3 X with | true=>_ | false=>_) = true; rw [hX.2]; rfl)
end S
