/-
  Contracts of functions of the program, over the logic of the texts before. Nothing is assumed.
-/
import Derived.Test.YtkbjecdpgbnkdaaGreatT5

open Go Go.AL Go.Proofs
namespace S
set_option maxRecDepth 100000

def fewG (x : Mg) : Bool:=decide (x.ins.length ≤ 40) && shortR x.dorm
def fewR (l : List Mg) : Bool:=l.all fewG && decide (l.length ≤ 100)
def evS (x : Ev) : Bool:=shortR x.p && shortR x.fail && shortR x.repair
def grS (x : Gr) : Bool:=decide (x.mem.length ≤ 60) && decide (x.fac.length ≤ 60) && x.fac.all shortR
def phS (x : Ph) : Bool:=decide (x.vals.length ≤ 60) && x.vals.all fun v=>shortR v.p

def lightM (m : Md) : Bool:=decide (m.evs.length ≤ 60) && decide (m.hs.length ≤ 60) && decide (m.pages.length ≤ 30) && decide (m.grs.length ≤ 30) && decide (m.phs.length ≤ 30) && fewR m.gates &&
 m.evs.all evS && (m.pages.all fun p=>fewR p.gates) && m.grs.all grS && m.phs.all phS

theorem c_few (l : List Mg) (R : AV) (hR : R = .bool (fewR l)) : FnH Tryz.prog 80 [gL l] [] R []:=by
 refine FnH.intro lay mixed Tryz.func80 (by kernel_rfl) rfl (by kernel_rfl) rfl fun hok=>?_
 have lg : l.length ≤ 9223372036854775807:=by have:=hok.1.1; simpa [maxL] using this
 (try dsimp only[argC,succC]);(try dsimp only[awp]);conv=>whnf
 refine LoopE.of <| LoopSpec.inv (.refl _ _) (fun (i : Nat)=>i ≤ l.length ∧ (l.take i).all fewG = true) (fun (i : Nat)=>[(7,.int .i64 i)]) (fun _=>_) (fun (i : Nat)=>l.length - i) 0 ?_ (fun _=>rfl) ?_ ?_
 ·exact ⟨Nat.zero_le _,by simp⟩
 ·all_goals exact wk
 rintro i ⟨hi,hn⟩ _
 (try dsimp only[awp]);conv=>whnf
 refine And.intro (fun h=>?_) (fun h=>?_)
 ·have hlt : i < l.length:=by simpa using h
  have hall:=all_take (p:=fewG) hlt
  have hmem:=List.getElem_mem hlt
  (try dsimp only[awp]);conv=>whnf
  refine aidx hlt ?_
  generalize l[i] = g at *
  have no : fewG g = false → R = .bool false:=fun h=>by rw [hR]; unfold fewR; rw [all_false hmem h]; rfl
  (try dsimp only[awp]);conv=>whnf
  refine And.intro (fun h1=>?_) (fun h1=>?_)
  ·have h1 : ¬ g.ins.length ≤ 40:=by simp only [List.length_map] at h1; omega
   obtain rfl:=no (by simp [fewG,h1])
   (try dsimp only[awp]);conv=>whnf
   refine fM ?_;(conv=>whnf);refine ⟨?_,rfl⟩;conv=>whnf
   all_goals exact wk
  have h1 : g.ins.length ≤ 40:=by simp only [List.length_map] at h1; omega
  (try dsimp only[awp]);conv=>whnf
  refine .pure _ _ ?_ ⟨rfl,rfl⟩ (c_Short g.dorm) fun _=>?_
  ·exact leL_refl _
  (try dsimp only[awp]);conv=>whnf
  refine And.intro (fun h2=>?_) (fun h2=>?_)
  ·have h2 : shortR g.dorm = false:=by simpa using h2
   obtain rfl:=no (by simp [fewG,h2])
   (try dsimp only[awp]);conv=>whnf
   refine fM ?_;(conv=>whnf);refine ⟨?_,rfl⟩;conv=>whnf
   all_goals exact wk
  have h2 : shortR g.dorm = true:=by simpa using h2
  (try dsimp only[awp]);conv=>whnf
  refine zA ?_;conv=>whnf
  refine ⟨i + 1,?_,?_,?_⟩
  ·exact ⟨hlt,by rw [hall,hn]; simp [fewG,h1,h2]⟩
  ·refine ⟨?_,.mk ?_ trivial⟩
   ·all_goals exact wk
   ·all_goals exact wk
  ·omega
 have hil : i = l.length:=by have : ¬ i < l.length:=by simpa using h
                             omega
 subst hil
 rw [List.take_length] at hn
 subst hR
 (try dsimp only[awp]);conv=>whnf
 refine fM ?_;(conv=>whnf);refine ⟨?_,rfl⟩;conv=>whnf
 show _ ↔ _
 simp [fewR,hn]
 omega

theorem c_LightM (m : Md) (R : AV) (hR : R = .bool (lightM m)) : FnH Tryz.prog 28 [m.av] [] R []:=by
 refine FnH.intro lay mixed Tryz.func28 (by kernel_rfl) rfl (by kernel_rfl) rfl fun hok=>?_
 (try dsimp only[argC,succC]);(try dsimp only[awp]);conv=>whnf
 refine And.intro (fun h1=>?_) (fun h1=>?_)
 ·have h1 : ¬ m.evs.length ≤ 60:=by simp only [List.length_map] at h1; omega
  obtain rfl : R = .bool false:=by rw [hR]; congr 1; unfold lightM; rw [decide_eq_false h1]; simp
  (try dsimp only[awp]);conv=>whnf
  refine fM ?_;(conv=>whnf);refine ⟨?_,rfl⟩;conv=>whnf
  all_goals exact wk
 have h1 : m.evs.length ≤ 60:=by simp only [List.length_map] at h1; omega
 (try dsimp only[awp]);conv=>whnf
 refine And.intro (fun h2=>?_) (fun h2=>?_)
 ·have h2 : ¬ m.hs.length ≤ 60:=by simp only [List.length_map] at h2; omega
  obtain rfl : R = .bool false:=by rw [hR]; congr 1; unfold lightM; rw [decide_eq_false h2]; simp
  (try dsimp only[awp]);conv=>whnf
  refine fM ?_;(conv=>whnf);refine ⟨?_,rfl⟩;conv=>whnf
  all_goals exact wk
 have h2 : m.hs.length ≤ 60:=by simp only [List.length_map] at h2; omega
 (try dsimp only[awp]);conv=>whnf
 refine And.intro (fun h3=>?_) (fun h3=>?_)
 ·have h3 : ¬ m.pages.length ≤ 30:=by simp only [List.length_map] at h3; omega
  obtain rfl : R = .bool false:=by rw [hR]; congr 1; unfold lightM; rw [decide_eq_false h3]; simp
  (try dsimp only[awp]);conv=>whnf
  refine fM ?_;(conv=>whnf);refine ⟨?_,rfl⟩;conv=>whnf
  all_goals exact wk
 have h3 : m.pages.length ≤ 30:=by simp only [List.length_map] at h3; omega
 (try dsimp only[awp]);conv=>whnf
 refine And.intro (fun h4=>?_) (fun h4=>?_)
 ·have h4 : ¬ m.grs.length ≤ 30:=by simp only [List.length_map] at h4; omega
  obtain rfl : R = .bool false:=by rw [hR]; congr 1; unfold lightM; rw [decide_eq_false h4]; simp
  (try dsimp only[awp]);conv=>whnf
  refine fM ?_;(conv=>whnf);refine ⟨?_,rfl⟩;conv=>whnf
  all_goals exact wk
 have h4 : m.grs.length ≤ 30:=by simp only [List.length_map] at h4; omega
 (try dsimp only[awp]);conv=>whnf
 refine And.intro (fun h5=>?_) (fun h5=>?_)
 ·have h5 : ¬ m.phs.length ≤ 30:=by simp only [List.length_map] at h5; omega
  obtain rfl : R = .bool false:=by rw [hR]; congr 1; unfold lightM; rw [decide_eq_false h5]; simp
  (try dsimp only[awp]);conv=>whnf
  refine fM ?_;(conv=>whnf);refine ⟨?_,rfl⟩;conv=>whnf
  all_goals exact wk
 have h5 : m.phs.length ≤ 30:=by simp only [List.length_map] at h5; omega
 (try dsimp only[awp]);conv=>whnf
 refine .pure _ _ ?_ ⟨rfl,rfl⟩ (c_few m.gates _ rfl) fun _=>?_
 ·exact leL_refl _
 (try dsimp only[awp]);conv=>whnf
 refine And.intro (fun h6=>?_) (fun h6=>?_)
 ·have h6 : fewR m.gates = false:=by simpa using h6
  obtain rfl : R = .bool false:=by rw [hR]; congr 1; unfold lightM; rw [h6]; simp
  (try dsimp only[awp]);conv=>whnf
  refine fM ?_;(conv=>whnf);refine ⟨?_,rfl⟩;conv=>whnf
  all_goals exact wk
 have h6 : fewR m.gates = true:=by simpa using h6
 (try dsimp only[awp]);conv=>whnf
 refine LoopE.of <| LoopSpec.inv (.refl _ _) (fun (i : Nat)=>i ≤ m.evs.length ∧ (m.evs.take i).all evS = true) (fun (i : Nat)=>[(52,.int .i64 i)]) (fun _=>_) (fun (i : Nat)=>m.evs.length - i) 0 ?_ (fun _=>rfl) ?_ ?_
 ·exact ⟨Nat.zero_le _,by simp⟩
 ·all_goals exact wk
 rintro i ⟨hi,hn⟩ _
 (try dsimp only[awp]);conv=>whnf
 refine And.intro (fun h=>?_) (fun h=>?_)
 ·have hlt : i < m.evs.length:=by simpa using h
  have hall:=all_take (p:=evS) hlt
  have hmem:=List.getElem_mem hlt
  (try dsimp only[awp]);conv=>whnf
  refine aidx hlt ?_
  generalize m.evs[i] = g at *
  (try dsimp only[awp]);conv=>whnf
  refine .pure _ _ ?_ ⟨rfl,rfl⟩ (c_Short g.p) fun _=>?_
  ·exact leL_refl _
  (try dsimp only[awp]);conv=>whnf
  refine And.intro (fun q1=>?_) (fun q1=>?_)
  ·have q1 : shortR g.p = false:=by simpa using q1
   obtain rfl : R = .bool false:=by rw [hR]; congr 1; unfold lightM; rw [all_false hmem (show evS g = false by simp [evS,q1])]; simp
   (try dsimp only[awp]);conv=>whnf
   refine fM ?_;(conv=>whnf);refine ⟨?_,rfl⟩;conv=>whnf
   all_goals exact wk
  have q1 : shortR g.p = true:=by simpa using q1
  (try dsimp only[awp]);conv=>whnf
  refine .pure _ _ ?_ ⟨rfl,rfl⟩ (c_Short g.fail) fun _=>?_
  ·exact leL_refl _
  (try dsimp only[awp]);conv=>whnf
  refine And.intro (fun q2=>?_) (fun q2=>?_)
  ·have q2 : shortR g.fail = false:=by simpa using q2
   obtain rfl : R = .bool false:=by rw [hR]; congr 1; unfold lightM; rw [all_false hmem (show evS g = false by simp [evS,q2])]; simp
   (try dsimp only[awp]);conv=>whnf
   refine fM ?_;(conv=>whnf);refine ⟨?_,rfl⟩;conv=>whnf
   all_goals exact wk
  have q2 : shortR g.fail = true:=by simpa using q2
  (try dsimp only[awp]);conv=>whnf
  refine .pure _ _ ?_ ⟨rfl,rfl⟩ (c_Short g.repair) fun _=>?_
  ·exact leL_refl _
  (try dsimp only[awp]);conv=>whnf
  refine And.intro (fun q3=>?_) (fun q3=>?_)
  ·have q3 : shortR g.repair = false:=by simpa using q3
   obtain rfl : R = .bool false:=by rw [hR]; congr 1; unfold lightM; rw [all_false hmem (show evS g = false by simp [evS,q3])]; simp
   (try dsimp only[awp]);conv=>whnf
   refine fM ?_;(conv=>whnf);refine ⟨?_,rfl⟩;conv=>whnf
   all_goals exact wk
  have q3 : shortR g.repair = true:=by simpa using q3
  (try dsimp only[awp]);conv=>whnf
  refine zA ?_;conv=>whnf
  refine ⟨i + 1,?_,?_,?_⟩
  ·exact ⟨hlt,by rw [hall,hn]; simp [evS,q1,q2,q3]⟩
  ·refine ⟨?_,.mk ?_ ⟨by simp,trivial⟩⟩
   ·all_goals exact wk
   ·all_goals exact wk
  ·omega
 have hil : i = m.evs.length:=by have : ¬ i < m.evs.length:=by simpa using h
                                 omega
 subst hil
 rw [List.take_length] at hn
 have a1:=hn
 clear h hi hn
 (try dsimp only[awp]);conv=>whnf
 refine LoopE.of <| LoopSpec.inv (.refl _ _) (fun (i : Nat)=>i ≤ m.pages.length ∧ (m.pages.take i).all (fun p=>fewR p.gates) = true) (fun (i : Nat)=>[(76,.int .i64 i)]) (fun _=>_) (fun (i : Nat)=>m.pages.length - i) 0 ?_ (fun _=>rfl) ?_ ?_
 ·exact ⟨Nat.zero_le _,by simp⟩
 ·all_goals exact wk
 rintro i ⟨hi,hn⟩ _
 (try dsimp only[awp]);conv=>whnf
 refine And.intro (fun h=>?_) (fun h=>?_)
 ·have hlt : i < m.pages.length:=by simpa using h
  have hall:=all_take (p:=fun p : Pg=>fewR p.gates) hlt
  have hmem:=List.getElem_mem hlt
  (try dsimp only[awp]);conv=>whnf
  refine aidx hlt ?_
  generalize m.pages[i] = g at *
  (try dsimp only[awp]);conv=>whnf
  refine .pure _ _ ?_ ⟨rfl,rfl⟩ (c_few g.gates _ rfl) fun _=>?_
  ·exact leL_refl _
  (try dsimp only[awp]);conv=>whnf
  refine And.intro (fun q1=>?_) (fun q1=>?_)
  ·have q1 : fewR g.gates = false:=by simpa using q1
   obtain rfl : R = .bool false:=by rw [hR]; congr 1; unfold lightM; rw [all_false (p:=fun p : Pg=>fewR p.gates) hmem q1]; simp
   (try dsimp only[awp]);conv=>whnf
   refine fM ?_;(conv=>whnf);refine ⟨?_,rfl⟩;conv=>whnf
   all_goals exact wk
  have q1 : fewR g.gates = true:=by simpa using q1
  (try dsimp only[awp]);conv=>whnf
  refine zA ?_;conv=>whnf
  refine ⟨i + 1,?_,?_,?_⟩
  ·exact ⟨hlt,by rw [hall,hn]; simp [q1]⟩
  ·refine ⟨?_,.mk ?_ ⟨by simp,trivial⟩⟩
   ·all_goals exact wk
   ·all_goals exact wk
  ·omega
 have hil : i = m.pages.length:=by have : ¬ i < m.pages.length:=by simpa using h
                                   omega
 subst hil
 rw [List.take_length] at hn
 have a2:=hn
 clear h hi hn
 (try dsimp only[awp]);conv=>whnf
 refine LoopE.of <| LoopSpec.inv (.refl _ _) (fun (i : Nat)=>i ≤ m.grs.length ∧ (m.grs.take i).all grS = true) (fun (i : Nat)=>[(88,.int .i64 i)]) (fun _=>_) (fun (i : Nat)=>m.grs.length - i) 0 ?_ (fun _=>rfl) ?_ ?_
 ·exact ⟨Nat.zero_le _,by simp⟩
 ·all_goals exact wk
 rintro i ⟨hi,hn⟩ _
 (try dsimp only[awp]);conv=>whnf
 refine And.intro (fun h=>?_) (fun h=>?_)
 ·have hlt : i < m.grs.length:=by simpa using h
  have hall:=all_take (p:=grS) hlt
  have hmem:=List.getElem_mem hlt
  (try dsimp only[awp]);conv=>whnf
  refine aidx hlt ?_
  generalize m.grs[i] = g at *
  (try dsimp only[awp]);conv=>whnf
  refine And.intro (fun q1=>?_) (fun q1=>?_)
  ·have q1 : ¬ g.mem.length ≤ 60:=by simp only [List.length_map] at q1; omega
   obtain rfl : R = .bool false:=by rw [hR]; congr 1; unfold lightM; rw [all_false hmem (show grS g = false by simp [grS,q1])]; simp
   (try dsimp only[awp]);conv=>whnf
   refine fM ?_;(conv=>whnf);refine ⟨?_,rfl⟩;conv=>whnf
   all_goals exact wk
  have q1 : g.mem.length ≤ 60:=by simp only [List.length_map] at q1; omega
  (try dsimp only[awp]);conv=>whnf
  refine And.intro (fun q2=>?_) (fun q2=>?_)
  ·have q2 : ¬ g.fac.length ≤ 60:=by simp only [List.length_map] at q2; omega
   obtain rfl : R = .bool false:=by rw [hR]; congr 1; unfold lightM; rw [all_false hmem (show grS g = false by simp [grS,q2])]; simp
   (try dsimp only[awp]);conv=>whnf
   refine fM ?_;(conv=>whnf);refine ⟨?_,rfl⟩;conv=>whnf
   all_goals exact wk
  have q2 : g.fac.length ≤ 60:=by simp only [List.length_map] at q2; omega
  (try dsimp only[awp]);conv=>whnf
  refine LoopE.of <| LoopSpec.inv (.refl _ _) (fun (j : Nat)=>j ≤ g.fac.length ∧ (g.fac.take j).all shortR = true) (fun (j : Nat)=>[(105,.int .i64 j)]) (fun _=>_) (fun (j : Nat)=>g.fac.length - j) 0 ?_ (fun _=>rfl) ?_ ?_
  ·exact ⟨Nat.zero_le _,by simp⟩
  ·all_goals exact wk
  rintro j ⟨hj,hnj⟩ _
  (try dsimp only[awp]);conv=>whnf
  refine And.intro (fun hh=>?_) (fun hh=>?_)
  ·have hjl : j < g.fac.length:=by simpa using hh
   have hallj:=all_take (p:=shortR) hjl
   have hmj:=List.getElem_mem hjl
   (try dsimp only[awp]);conv=>whnf
   refine aidx hjl ?_
   generalize g.fac[j] = r at *
   (try dsimp only[awp]);conv=>whnf
   refine .pure _ _ ?_ ⟨rfl,rfl⟩ (c_Short r) fun _=>?_
   ·exact leL_refl _
   (try dsimp only[awp]);conv=>whnf
   refine And.intro (fun q3=>?_) (fun q3=>?_)
   ·have q3 : shortR r = false:=by simpa using q3
    obtain rfl : R = .bool false:=by rw [hR]; congr 1; unfold lightM; rw [all_false hmem (show grS g = false by simp [grS,all_false hmj q3])]; simp
    (try dsimp only[awp]);conv=>whnf
    refine fM ?_;(conv=>whnf);refine ⟨?_,rfl⟩;conv=>whnf
    all_goals exact wk
   have q3 : shortR r = true:=by simpa using q3
   (try dsimp only[awp]);conv=>whnf
   refine zA ?_;conv=>whnf
   refine ⟨j + 1,?_,?_,?_⟩
   ·exact ⟨hjl,by rw [hallj,hnj,q3]; rfl⟩
   ·refine ⟨?_,.mk ?_ ⟨by simp,by simp,trivial⟩⟩
    ·all_goals exact wk
    ·all_goals exact wk
   ·omega
  have hjl : j = g.fac.length:=by have : ¬ j < g.fac.length:=by simpa using hh
                                  omega
  subst hjl
  rw [List.take_length] at hnj
  (try dsimp only[awp]);conv=>whnf
  refine zA ?_;conv=>whnf
  refine ⟨i + 1,?_,?_,?_⟩
  ·exact ⟨hlt,by rw [hall,hn]; simp [grS,q1,q2,hnj]⟩
  ·refine ⟨?_,.mk ?_ ⟨by simp,trivial⟩⟩
   ·all_goals exact wk
   ·all_goals exact wk
  ·omega
 have hil : i = m.grs.length:=by have : ¬ i < m.grs.length:=by simpa using h
                                 omega
 subst hil
 rw [List.take_length] at hn
 have a3:=hn
 clear h hi hn
 (try dsimp only[awp]);conv=>whnf
 refine LoopE.of <| LoopSpec.inv (.refl _ _) (fun (i : Nat)=>i ≤ m.phs.length ∧ (m.phs.take i).all phS = true) (fun (i : Nat)=>[(117,.int .i64 i)]) (fun _=>_) (fun (i : Nat)=>m.phs.length - i) 0 ?_ (fun _=>rfl) ?_ ?_
 ·exact ⟨Nat.zero_le _,by simp⟩
 ·all_goals exact wk
 rintro i ⟨hi,hn⟩ _
 (try dsimp only[awp]);conv=>whnf
 refine And.intro (fun h=>?_) (fun h=>?_)
 ·have hlt : i < m.phs.length:=by simpa using h
  have hall:=all_take (p:=phS) hlt
  have hmem:=List.getElem_mem hlt
  (try dsimp only[awp]);conv=>whnf
  refine aidx hlt ?_
  generalize m.phs[i] = g at *
  (try dsimp only[awp]);conv=>whnf
  refine And.intro (fun q1=>?_) (fun q1=>?_)
  ·have q1 : ¬ g.vals.length ≤ 60:=by simp only [List.length_map] at q1; omega
   obtain rfl : R = .bool false:=by rw [hR]; congr 1; unfold lightM; rw [all_false hmem (show phS g = false by simp [phS,q1])]; simp
   (try dsimp only[awp]);conv=>whnf
   refine fM ?_;(conv=>whnf);refine ⟨?_,rfl⟩;conv=>whnf
   all_goals exact wk
  have q1 : g.vals.length ≤ 60:=by simp only [List.length_map] at q1; omega
  (try dsimp only[awp]);conv=>whnf
  refine LoopE.of <| LoopSpec.inv (.refl _ _) (fun (j : Nat)=>j ≤ g.vals.length ∧ (g.vals.take j).all (fun v=>shortR v.p) = true) (fun (j : Nat)=>[(128,.int .i64 j)]) (fun _=>_) (fun (j : Nat)=>g.vals.length - j) 0 ?_ (fun _=>rfl) ?_ ?_
  ·exact ⟨Nat.zero_le _,by simp⟩
  ·all_goals exact wk
  rintro j ⟨hj,hnj⟩ _
  (try dsimp only[awp]);conv=>whnf
  refine And.intro (fun hh=>?_) (fun hh=>?_)
  ·have hjl : j < g.vals.length:=by simpa using hh
   have hallj:=all_take (p:=fun v : Pv=>shortR v.p) hjl
   have hmj:=List.getElem_mem hjl
   (try dsimp only[awp]);conv=>whnf
   refine aidx hjl ?_
   generalize g.vals[j] = r at *
   (try dsimp only[awp]);conv=>whnf
   refine .pure _ _ ?_ ⟨rfl,rfl⟩ (c_Short r.p) fun _=>?_
   ·exact leL_refl _
   (try dsimp only[awp]);conv=>whnf
   refine And.intro (fun q3=>?_) (fun q3=>?_)
   ·have q3 : shortR r.p = false:=by simpa using q3
    have q4:=all_false (p:=fun v : Pv=>shortR v.p) hmj q3
    obtain rfl : R = .bool false:=by rw [hR]; congr 1; unfold lightM; rw [all_false hmem (show phS g = false by unfold phS; rw [q4]; simp)]; simp
    (try dsimp only[awp]);conv=>whnf
    refine fM ?_;(conv=>whnf);refine ⟨?_,rfl⟩;conv=>whnf
    all_goals exact wk
   have q3 : shortR r.p = true:=by simpa using q3
   (try dsimp only[awp]);conv=>whnf
   refine zA ?_;conv=>whnf
   refine ⟨j + 1,?_,?_,?_⟩
   ·exact ⟨hjl,by rw [hallj,hnj,q3]; rfl⟩
   ·refine ⟨?_,.mk ?_ ⟨by simp,by simp,trivial⟩⟩
    ·all_goals exact wk
    ·all_goals exact wk
   ·omega
  have hjl : j = g.vals.length:=by have : ¬ j < g.vals.length:=by simpa using hh
                                   omega
  subst hjl
  rw [List.take_length] at hnj
  (try dsimp only[awp]);conv=>whnf
  refine zA ?_;conv=>whnf
  refine ⟨i + 1,?_,?_,?_⟩
  ·exact ⟨hlt,by rw [hall,hn]; unfold phS; rw [hnj]; simp [q1]⟩
  ·refine ⟨?_,.mk ?_ ⟨by simp,trivial⟩⟩
   ·all_goals exact wk
   ·all_goals exact wk
  ·omega
 have hil : i = m.phs.length:=by have : ¬ i < m.phs.length:=by simpa using h
                                 omega
 subst hil
 rw [List.take_length] at hn
 obtain rfl : R = .bool true:=by rw [hR]; congr 1; unfold lightM; rw [a1,a2,a3,hn,h6]; simp [h1,h2,h3,h4,h5]
 (try dsimp only[awp]);conv=>whnf
 refine fM ?_;(conv=>whnf);refine ⟨?_,rfl⟩;conv=>whnf
 all_goals exact wk

theorem few_B {l : List Mg} (h : fewR l = true) : l.length ≤ 100 ∧ (∀ x ∈ l,x.ins.length ≤ 40) ∧ mgC l:=by
 unfold fewR at h
 simp only [Bool.and_eq_true,decide_eq_true_eq] at h
 refine ⟨h.2,fun x hx=>?_,fun x hx=>?_⟩
 ·have:=List.all_eq_true.1 h.1 x hx
  simp only [fewG,Bool.and_eq_true,decide_eq_true_eq] at this
  exact this.1
 ·have:=List.all_eq_true.1 h.1 x hx
  simp only [fewG,Bool.and_eq_true,decide_eq_true_eq] at this
  exact shortR_C this.2

theorem lightM_B {m : Md} (h : lightM m = true) : MdB m ∧ MdC m:=by
 unfold lightM at h
 simp only [Bool.and_eq_true,decide_eq_true_eq] at h
 obtain ⟨⟨⟨⟨⟨⟨⟨⟨⟨h1,h2⟩,h3⟩,h4⟩,h5⟩,h6⟩,h7⟩,h8⟩,h9⟩,h10⟩:=h
 have f6:=few_B h6
 refine ⟨⟨h1,h2,⟨f6.1,f6.2.1⟩,h3,fun p hp=>?_,h4,fun g hg=>?_,h5,fun p hp=>?_⟩,⟨fun x hx=>?_,f6.2.2,fun p hp=>?_,fun g hg f hf=>?_,fun p hp v hv=>?_⟩⟩
 ·have:=few_B (List.all_eq_true.1 h8 p hp)
  exact ⟨this.1,this.2.1⟩
 ·have:=List.all_eq_true.1 h9 g hg
  simp only [grS,Bool.and_eq_true,decide_eq_true_eq] at this
  exact this.1
 ·have:=List.all_eq_true.1 h10 p hp
  simp only [phS,Bool.and_eq_true,decide_eq_true_eq] at this
  exact this.1
 ·have:=List.all_eq_true.1 h7 x hx
  simp only [evS,Bool.and_eq_true] at this
  exact ⟨shortR_C this.1.1,shortR_C this.1.2,shortR_C this.2⟩
 ·exact (few_B (List.all_eq_true.1 h8 p hp)).2.2
 ·have:=List.all_eq_true.1 h9 g hg
  simp only [grS,Bool.and_eq_true,decide_eq_true_eq] at this
  exact shortR_C (List.all_eq_true.1 this.2 f hf)
 ·have:=List.all_eq_true.1 h10 p hp
  simp only [phS,Bool.and_eq_true,decide_eq_true_eq] at this
  exact shortR_C (List.all_eq_true.1 this.2 v hv)
end S

open Go Go.AL Go.Proofs
namespace Go.AL
section
variable {P : Program} {ops : Array Oper} {Q : Exit → Act → World → Prop} {a : Act} {w : World} {o : Oper} {l : List Oper}

structure Ext (w w' : World) : Prop where
 size : w.heap.size ≤ w'.heap.size
 old : ∀ b,b < w.heap.size → w'.heap[b]? = w.heap[b]?
 os : w'.os = w.os
 tape : w'.tape = w.tape
 output : w'.output = w.output

end
end Go.AL

namespace S
set_option maxRecDepth 100000

def exEv : Array Value:=#[.string ⟨#[97]⟩,.bool false,.slice none 0 0,.slice none 0 0,.bool false,.slice none 0 0,.slice none 0 0,.bool false,.slice none 0 0,.slice none 0 0,.int .i64 0,.string ⟨#[98]⟩,.bool false,.slice none 0 0,.slice none 0 0,.bool false,.slice none 0 0,.slice none 0 0,.bool false,.slice none 0 0,.slice none 0 0,.int .i64 0,.string ⟨#[99]⟩,.bool false,.slice none 0 0,.slice none 0 0,.bool false,.slice none 0 0,.slice none 0 0,.bool false,.slice none 0 0,.slice none 0 0,.int .i64 0]
def exI0 : Array Value:=#[.string ⟨#[97]⟩,.string ⟨#[64,112]⟩]
def exG0 (n : Nat) : Array Value:=#[.string ⟨#[103]⟩,.int .i64 0,.int .i64 0,.slice (some ⟨n,0,none⟩) 2 2,.bool false,.slice none 0 0,.slice none 0 0]
def exI1 : Array Value:=#[.string ⟨#[98]⟩,.string ⟨#[99]⟩]
def exG1 (n : Nat) : Array Value:=#[.string ⟨#[104]⟩,.int .i64 1,.int .i64 0,.slice (some ⟨n,0,none⟩) 2 2,.bool false,.slice none 0 0,.slice none 0 0]
def exP (n : Nat) : Array Value:=#[.string ⟨#[112]⟩,.string ⟨#[104]⟩,.slice (some ⟨n,0,none⟩) 1 1]
structure ExW (w w' : World) : Prop where
 ext : Ext w w'
 size : w'.heap.size = w.heap.size + 7
 ev : w'.heap[w.heap.size + 1]? = some (.cells exEv 142)
 i0 : w'.heap[w.heap.size + 2]? = some (.cells exI0 9)
 g0 : w'.heap[w.heap.size + 3]? = some (.cells (exG0 (w.heap.size + 2)) 163)
 i1 : w'.heap[w.heap.size + 4]? = some (.cells exI1 9)
 g1 : w'.heap[w.heap.size + 5]? = some (.cells (exG1 (w.heap.size + 4)) 163)
 pg : w'.heap[w.heap.size + 6]? = some (.cells (exP (w.heap.size + 5)) 144)

end S

open Go Go.AL Go.Proofs
namespace Go.AL
section
variable {P : Program} {L : Lay} {ops : Array Oper} {Q : Exit → Act → World → Prop} {a : Act} {w : World} {o : Oper} {l : List Oper}

structure PutA (a a' : Act) (d : Nat) (v : Value) : Prop where
 size : a'.tmps.size = a.tmps.size
 defers : a'.defers = a.defers
 new : a'.eval (.tmp d) = v
 old : ∀ t : Nat,t ≠ d → a'.eval (.tmp t) = a.eval (.tmp t)

end
end Go.AL

namespace S
set_option maxRecDepth 100000

abbrev zq : Rat:=⟨false,[],[]⟩
section
variable {w : World} {Im : Nat → Nat → Prop}

end


structure CInv (m : Md) (st : CS) : Prop where
 len : st.nodes.length = st.es.length
 nd : (st.es.map (·.1)).Nodup
 ok : ∀ e ∈ st.es,okN m e.1 ∧ e.1.1 ≠ 0

def univ (m : Md) : List Node:=(List.range m.hs.length).map (fun (i : Nat)=>((1,0,(i : Int)) : Node)) ++ allNodes m

theorem univ_mem {m : Md} {x : Node} (h : okN m x) (h0 : x.1 ≠ 0) : x ∈ univ m:=by
 unfold univ
 rw [List.mem_append]
 rcases h with h | h | h
 ·omega
 ·left
  obtain ⟨x1,x2,x3⟩:=x
  obtain ⟨rfl,rfl,h3,h4⟩:=h
  rw [List.mem_map]
  dsimp only at h3 h4
  exact ⟨x3.toNat,by rw [List.mem_range]; omega,by rw [Int.toNat_of_nonneg h3]⟩
 ·exact .inr h

theorem nodup_sub {α : Type} [DecidableEq α] : ∀ {l u : List α},l.Nodup → (∀ x ∈ l,x ∈ u) → l.length ≤ u.length
 | [],_,_,_=>Nat.zero_le _
 | x :: l,u,hn,hs=>by
   rw [List.nodup_cons] at hn
   have hx:=hs x (by simp)
   have:=nodup_sub (u:=u.erase x) hn.2 fun y hy=>(List.mem_erase_of_ne (fun e=>hn.1 (by rw [← e]; exact hy))).2 (hs y (by simp [hy]))
   rw [List.length_erase_of_mem hx] at this
   have:=List.length_pos_of_mem hx
   simp only [List.length_cons]; omega

theorem all_len {m : Md} (hB : MdB m) : (allNodes m).length ≤ 10000:=by
 have key : ∀ (l : List Int),(∀ a ∈ l,(gatesM m a).length ≤ 100) → (l.flatMap (nodesAt m)).length ≤ 100 * l.length:=by
  intro l
  induction l with
  | nil=>intro _; simp
  | cons a l ih =>
    intro h
    simp only [List.flatMap_cons,List.length_append,List.length_cons]
    have h1:=ih fun b hb=>h b (by simp [hb])
    have h2:=h a (by simp)
    have h3 : (nodesAt m a).length = (gatesM m a).length:=by simp [nodesAt]
    omega
 have h1:=key (atsM m) fun a _=>by
  unfold gatesM
  split
  ·exact hB.gates.1
  ·rw [List.getD_eq_getElem?_getD]
   cases hp : m.pages[a.toNat]? with
   | none=>exact Nat.zero_le _
   | some p=>exact (hB.pgates p (List.mem_of_getElem? hp)).1
 rw [ats_len] at h1
 have:=hB.pages
 unfold allNodes
 omega

theorem CInv.short {m : Md} (hB : MdB m) {st : CS} (h : CInv m st) : st.nodes.length ≤ 20000:=by
 have:=nodup_sub h.nd (u:=univ m) fun x hx=>by
  obtain ⟨e,he,rfl⟩:=List.mem_map.1 hx
  exact univ_mem (h.ok e he).1 (h.ok e he).2
 rw [List.length_map] at this
 have h1:=all_len hB
 have h2:=hB.hs
 have : (univ m).length = m.hs.length + (allNodes m).length:=by simp [univ]
 rw [h.len]
 omega

theorem mark_new {x : Node} {v : Int} : ∀ {es : Marks},lookO es x = none → mark es x v = es ++ [(x,v)] ∧ x ∉ es.map (·.1)
 | [],_=>⟨rfl,by simp⟩
 | (y,u) :: es,h=>by
   simp only [lookO] at h
   split at h
   ·cases h
   rename_i hy
   obtain ⟨h1,h2⟩:=mark_new h
   refine ⟨?_,?_⟩
   ·simp only [mark,if_neg hy]; rw [h1]; rfl
   ·simp only [List.map_cons,List.mem_cons,not_or]
    exact ⟨fun e=>hy e.symm,h2⟩

theorem CInv.push {m : Md} {st : CS} (h : CInv m st) {x : Node} (hx : okN m x) (h0 : x.1 ≠ 0) (hn : lookO st.es x = none) (vars : Int) (nd : Nd) : CInv m (pushN vars st x nd).2:=by
 obtain ⟨h1,h2⟩:=mark_new (v:=vars + st.nodes.length) hn
 refine ⟨?_,?_,?_⟩
 ·show (st.nodes ++ [nd]).length = (mark _ _ _).length
  rw [h1,List.length_append,List.length_append,h.len]; rfl
 ·show ((mark _ _ _).map (·.1)).Nodup
  rw [h1,List.map_append,List.nodup_append]
  refine ⟨h.nd,by simp,?_⟩
  intro a ha b hb
  simp at hb
  subst hb
  exact fun e=>h2 (e ▸ ha)
 ·show ∀ e ∈ mark _ _ _,_
  rw [h1]
  intro e he
  rcases List.mem_append.1 he with he | he
  ·exact h.ok e he
  ·simp at he; subst he; exact ⟨hx,h0⟩

theorem comp_inv {m : Md} (hc : ClosedM m) {rank : Node → Nat} (hr : RankM m rank) (vars : Int) : ∀ (n : Nat) (x : Node) (st : CS),okN m x → CInv m st →
  CInv m (compN m vars n x st).2 ∧ ∀ z : Node,z.1 = 2 → (x.1 = 2 → rank x < rank z) → lookO st.es z = none → lookO (compN m vars n x st).2.es z = none
 | 0,_,_,_,h=>⟨h,fun _ _ _ h=>h⟩
 | n + 1,x,st,hx,h=>by
   have push : ∀ {s : CS} (nd : Nd),CInv m s → x.1 ≠ 0 → lookO s.es x = none → (∀ z : Node,z.1 = 2 → (x.1 = 2 → rank x < rank z) → lookO st.es z = none → lookO s.es z = none) →
     CInv m (pushN vars s x nd).2 ∧ ∀ z : Node,z.1 = 2 → (x.1 = 2 → rank x < rank z) → lookO st.es z = none → lookO (pushN vars s x nd).2.es z = none:=by
    intro s nd h1 h2 h3 h4
    refine ⟨h1.push hx h2 h3 vars nd,fun z hz hxz hs=>?_⟩
    show lookO (mark s.es x _) z = none
    rw [lookO_mark,if_neg]
    ·exact h4 z hz hxz hs
    ·rintro rfl; have:=hxz hz; omega
   unfold compN
   split
   ·exact ⟨h,fun _ _ _ h=>h⟩
   rename_i h0
   split
   ·exact ⟨h,fun _ _ _ h=>h⟩
   rename_i hn
   split
   ·exact push _ h h0 hn fun _ _ _ h=>h
   rename_i h1
   split
   ·exact ⟨h,fun _ _ _ h=>h⟩
   have h2 : x.1 = 2:=by
    rcases hx with h | h | h
    ·omega
    ·omega
    ·exact (mem_all.1 h).1
   have hk:=(okN_kids hc hx h2).2
   have key : ∀ (l : List Node) (s : CS) (acc : List Int),(∀ y ∈ l,okN m y ∧ (y.1 = 2 → rank y < rank x)) → CInv m s → CInv m (compL (compN m vars n) l s acc).2 ∧
     ∀ z : Node,z.1 = 2 → rank x ≤ rank z → lookO s.es z = none → lookO (compL (compN m vars n) l s acc).2.es z = none:=by
    intro l
    induction l with
    | nil=>intro s acc _ h; exact ⟨h,fun _ _ _ h=>h⟩
    | cons y l ih =>
      intro s acc hl h
      unfold compL
      obtain ⟨hy,hyr⟩:=hl y (by simp)
      obtain ⟨h',g'⟩:=comp_inv hc hr vars n y s hy h
      have g2 : ∀ z : Node,z.1 = 2 → rank x ≤ rank z → lookO s.es z = none → lookO (compN m vars n y s).2.es z = none:=fun z hz hxz hs=>g' z hz (fun e=>by have:=hyr e; omega) hs
      split
      ·exact ⟨h',g2⟩
      ·obtain ⟨i1,i2⟩:=ih (compN m vars n y s).2 (acc ++ [(compN m vars n y s).1.2]) (fun z hz=>hl z (by simp [hz])) h'
       exact ⟨i1,fun z hz hxz hs=>i2 z hz hxz (g2 z hz hxz hs)⟩
   obtain ⟨k1,k2⟩:=key (kidsM m x) st [] (fun y hy=>⟨hk y hy,hr x hx h2 y hy⟩) h
   split
   ·exact ⟨k1,fun z hz hxz hs=>k2 z hz (by have:=hxz h2; omega) hs⟩
   ·exact push _ k1 h0 (k2 x h2 (Nat.le_refl _) hn) fun z hz hxz hs=>k2 z hz (by have:=hxz h2; omega) hs

theorem g_find1 (x : Pg) (s : Str) (h0 : 0 < s.length) : FnH Tryz.prog 159 [x.av,.ptr 0 [] 0] [(0,.box (.str s))] (.bool (decide (x.name = s.drop 1))) [(0,.box (.str s))]:=by
 refine FnH.intro lay mixed Tryz.func159 (by kernel_rfl) rfl (by kernel_rfl) rfl fun hok=>?_
 (try dsimp only[argC,succC]);(try dsimp only[awp]);conv=>whnf
 refine ADraw.auto (by kernel_rfl) ?_;conv=>whnf
 refine ⟨⟨by omega,by omega,by omega⟩,?_⟩
 rw [cut1]
 (try dsimp only[awp]);conv=>whnf
 refine ⟨⟨_,_,.refl _ _,?_⟩⟩
 conv=>whnf
 refine ⟨?_,rfl,by simp [nextId],.mk ?_ ⟨by simp,trivial⟩⟩
 ·show _ ↔ _
  simp
 ·all_goals exact wk

theorem g_find2 (x : Ev) (s : Str) : FnH Tryz.prog 161 [x.av,.ptr 0 [] 0] [(0,.box (.str s))] (.bool (decide (x.name = s))) [(0,.box (.str s))]:=by
 refine FnH.intro lay mixed Tryz.func161 (by kernel_rfl) rfl (by kernel_rfl) rfl fun hok=>?_
 (try dsimp only[argC,succC]);(try dsimp only[awp]);conv=>whnf
 refine ⟨⟨_,_,.refl _ _,?_⟩⟩
 conv=>whnf
 refine ⟨?_,rfl,by simp [nextId],.mk ?_ ⟨by simp,trivial⟩⟩
 ·show _ ↔ _
  simp
 ·all_goals exact wk
theorem g_find3 (x : Hs) (s : Str) : FnH Tryz.prog 163 [x.av,.ptr 0 [] 0] [(0,.box (.str s))] (.bool (decide (x.name = s))) [(0,.box (.str s))]:=by
 refine FnH.intro lay mixed Tryz.func163 (by kernel_rfl) rfl (by kernel_rfl) rfl fun hok=>?_
 (try dsimp only[argC,succC]);(try dsimp only[awp]);conv=>whnf
 refine ⟨⟨_,_,.refl _ _,?_⟩⟩
 conv=>whnf
 refine ⟨?_,rfl,by simp [nextId],.mk ?_ ⟨by simp,trivial⟩⟩
 ·show _ ↔ _
  simp
 ·all_goals exact wk
theorem g_find4 (x : Mg) (s : Str) : FnH Tryz.prog 165 [x.av,.ptr 0 [] 0] [(0,.box (.str s))] (.bool (decide (x.name = s))) [(0,.box (.str s))]:=by
 refine FnH.intro lay mixed Tryz.func165 (by kernel_rfl) rfl (by kernel_rfl) rfl fun hok=>?_
 (try dsimp only[argC,succC]);(try dsimp only[awp]);conv=>whnf
 refine ⟨⟨_,_,.refl _ _,?_⟩⟩
 conv=>whnf
 refine ⟨?_,rfl,by simp [nextId],.mk ?_ ⟨by simp,trivial⟩⟩
 ·show _ ↔ _
  simp
 ·all_goals exact wk

theorem g_gates (m : Md) (X : AV) (T M B3 B4 : HO) (a : Int) (h : a = -1 ∨ (0 ≤ a ∧ a < (m.pages.length : Int))) : FnH Tryz.prog 85 [.ptr 1 [] 0,.int .i64 a] ((4,B4) :: (3,B3) :: hpF m X T M) (gL (gatesM m a)) ((4,B4) :: (3,B3) :: hpF m X T M):=by
 refine FnH.intro lay mixed Tryz.func85 (by kernel_rfl) rfl (by kernel_rfl) rfl fun hok=>?_
 (try dsimp only[argC,succC]);(try dsimp only[awp]);conv=>whnf
 refine And.intro (fun h1=>?_) (fun h1=>?_)
 ·rw [show gatesM m a = m.gates from if_pos h1]
  (try dsimp only[awp]);conv=>whnf
  (refine FinSpec.same ?_;(conv=>whnf);refine ⟨?_,rfl⟩;(conv=>whnf))
  all_goals exact wk
 ·have hb : 0 ≤ a ∧ a < (m.pages.length : Int):=by omega
  rw [show gatesM m a = (m.pages.getD a.toNat default).gates from if_neg h1]
  (try dsimp only[awp]);conv=>whnf
  refine aidxD default hb ?_
  (try dsimp only[awp]);conv=>whnf
  (refine FinSpec.same ?_;(conv=>whnf);refine ⟨?_,rfl⟩;(conv=>whnf))
  all_goals exact wk

theorem g_find (m : Md) (X : AV) (T M : HO) (hX : WkA X) (hT : WkO T) (hO : WkO M) (a : Int) (s : Str) (h0 : 0 < s.length) (ha : a = -1 ∨ (0 ≤ a ∧ a < (m.pages.length : Int))) (hp : atS s = true → 0 ≤ i_page m.pages (s.drop 1)) :
  FnH Tryz.prog 84 [.ptr 1 [] 0,.int .i64 a,.str s] (hpF m X T M) (nAV (resR m a s)) (hpF m X T M):=by
 have hpl : i_page m.pages (s.drop 1) < (m.pages.length : Int):=idxP_lt _ _
 refine FnH.intro lay mixed Tryz.func84 (by kernel_rfl) rfl (by kernel_rfl) rfl fun hok=>?_
 (try dsimp only[argC,succC]);(try dsimp only[awp]);conv=>whnf
 refine sidx0 h0 ?_
 (try dsimp only[awp]);conv=>whnf
 refine And.intro (fun h2=>?_) (fun h2=>?_)
 ·have e : atS s = true:=by simp only [atS,h0,h2,decide_true,Bool.true_and]
  have hp:=hp e
  rw [show resR m a s = resOn m (i_page m.pages (s.drop 1)) (pageTop m (i_page m.pages (s.drop 1))) from if_pos e]
  have hpt : (m.pages.getD (i_page m.pages (s.drop 1)).toNat default).top = pageTop m (i_page m.pages (s.drop 1)):=rfl
  (try dsimp only[awp]);conv=>whnf
  refine .gen _ _ (c_idx_Pg m.pages 159 [.ptr 3 [] 0] (fun x=>decide (x.name = s.drop 1)) _ fun x _=>FnH.frame [3] (g_find1 x s h0) ⟨rfl,rfl,rfl,rfl⟩ (by (repeat' first|exact rfl|exact trivial|exact wR|exact lR _|apply aI)) (by (repeat' first|exact rfl|exact trivial|exact wR|exact lR _|apply aI))) fun _=>?_
  rw [show idxP (fun x=>decide (x.name = s.drop 1)) m.pages = i_page m.pages (s.drop 1) from rfl]
  generalize i_page m.pages (s.drop 1) = p at *
  have hpb : p = -1 ∨ (0 ≤ p ∧ p < (m.pages.length : Int)):=.inr ⟨hp,hpl⟩
  (try dsimp only[awp]);conv=>whnf
  refine aidxD default ⟨hp,hpl⟩ ?_
  (try dsimp only[awp]);conv=>whnf
  rw [hpt]
  generalize pageTop m p = t at *
  (try dsimp only[awp]);conv=>whnf
  refine .gen _ _ (c_idx_Ev m.evs 161 [.ptr 3 [] 0] (fun x=>decide (x.name = t)) _ fun x _=>FnH.frame [3] (g_find2 x t) ⟨rfl,rfl,rfl,rfl⟩ (by (repeat' first|exact rfl|exact trivial|exact wR|exact lR _|apply aI)) (by (repeat' first|exact rfl|exact trivial|exact wR|exact lR _|apply aI))) fun _=>?_
  (try dsimp only[awp]);conv=>whnf
  refine And.intro (fun h3=>?_) (fun h3=>?_)
  ·rw [show resOn m p t = (0,0,i_event m.evs t) from if_pos h3]
   (try dsimp only[awp]);conv=>whnf
   refine ⟨⟨_,_,.refl _ _,?_⟩⟩
   conv=>whnf
   refine ⟨?_,rfl,by simp [nextId],.mk ?_ (by simp [idsOk])⟩
   ·all_goals exact wk
   ·repeat' first|exact rfl|exact trivial|exact wR|exact lR _|apply aI
    all_goals first | exact hT.1 | exact hT.2 | exact hO.1 | exact hO.2 | exact hX.1 | (show (match bndB 3 X with | true=>_ | false=>_) = true; rw [hX.2]; rfl)
  (try dsimp only[awp]);conv=>whnf
  refine .gen _ _ (c_idx_Hs m.hs 163 [.ptr 3 [] 0] (fun x=>decide (x.name = t)) _ fun x _=>FnH.frame [3] (g_find3 x t) ⟨rfl,rfl,rfl,rfl⟩ (by (repeat' first|exact rfl|exact trivial|exact wR|exact lR _|apply aI)) (by (repeat' first|exact rfl|exact trivial|exact wR|exact lR _|apply aI))) fun _=>?_
  (try dsimp only[awp]);conv=>whnf
  refine And.intro (fun h4=>?_) (fun h4=>?_)
  ·rw [show resOn m p t = (1,0,i_house m.hs t) from (if_neg h3).trans (if_pos h4)]
   (try dsimp only[awp]);conv=>whnf
   refine ⟨⟨_,_,.refl _ _,?_⟩⟩
   conv=>whnf
   refine ⟨?_,rfl,by simp [nextId],.mk ?_ (by simp [idsOk])⟩
   ·all_goals exact wk
   ·repeat' first|exact rfl|exact trivial|exact wR|exact lR _|apply aI
    all_goals first | exact hT.1 | exact hT.2 | exact hO.1 | exact hO.2 | exact hX.1 | (show (match bndB 3 X with | true=>_ | false=>_) = true; rw [hX.2]; rfl)
  rw [show resOn m p t = (2,p,i_gate (gatesM m p) t) from (if_neg h3).trans (if_neg h4)]
  (try dsimp only[awp]);conv=>whnf
  refine .gen _ _ (g_gates m X T M _ _ p (by assumption)) fun _=>?_
  (try dsimp only[awp]);conv=>whnf
  refine .gen _ _ (c_idx_Mg (gatesM m p) 165 [.ptr 3 [] 0] (fun x=>decide (x.name = t)) _ fun x _=>FnH.frame [3] (g_find4 x t) ⟨rfl,rfl,rfl,rfl⟩ (by (repeat' first|exact rfl|exact trivial|exact wR|exact lR _|apply aI)) (by (repeat' first|exact rfl|exact trivial|exact wR|exact lR _|apply aI))) fun _=>?_
  (try dsimp only[awp]);conv=>whnf
  refine ⟨⟨_,_,.refl _ _,?_⟩⟩
  conv=>whnf
  refine ⟨?_,rfl,by simp [nextId],.mk ?_ (by simp [idsOk])⟩
  ·all_goals exact wk
  ·repeat' first|exact rfl|exact trivial|exact wR|exact lR _|apply aI
   all_goals first | exact hT.1 | exact hT.2 | exact hO.1 | exact hO.2 | exact hX.1 | (show (match bndB 3 X with | true=>_ | false=>_) = true; rw [hX.2]; rfl)
 ·have e : atS s = false:=by simp only [atS,decide_eq_false h2,Bool.and_false]
  rw [show resR m a s = resOn m a s from if_neg (by rw [e]; simp)]
  (try dsimp only[awp]);conv=>whnf
  refine .gen _ _ (c_idx_Ev m.evs 161 [.ptr 3 [] 0] (fun x=>decide (x.name = s)) _ fun x _=>FnH.frame [3] (g_find2 x s) ⟨rfl,rfl,rfl,rfl⟩ (by (repeat' first|exact rfl|exact trivial|exact wR|exact lR _|apply aI)) (by (repeat' first|exact rfl|exact trivial|exact wR|exact lR _|apply aI))) fun _=>?_
  (try dsimp only[awp]);conv=>whnf
  refine And.intro (fun h3=>?_) (fun h3=>?_)
  ·rw [show resOn m a s = (0,0,i_event m.evs s) from if_pos h3]
   (try dsimp only[awp]);conv=>whnf
   refine ⟨⟨_,_,.refl _ _,?_⟩⟩
   conv=>whnf
   refine ⟨?_,rfl,by simp [nextId],.mk ?_ (by simp [idsOk])⟩
   ·all_goals exact wk
   ·repeat' first|exact rfl|exact trivial|exact wR|exact lR _|apply aI
    all_goals first | exact hT.1 | exact hT.2 | exact hO.1 | exact hO.2 | exact hX.1 | (show (match bndB 3 X with | true=>_ | false=>_) = true; rw [hX.2]; rfl)
  (try dsimp only[awp]);conv=>whnf
  refine .gen _ _ (c_idx_Hs m.hs 163 [.ptr 3 [] 0] (fun x=>decide (x.name = s)) _ fun x _=>FnH.frame [3] (g_find3 x s) ⟨rfl,rfl,rfl,rfl⟩ (by (repeat' first|exact rfl|exact trivial|exact wR|exact lR _|apply aI)) (by (repeat' first|exact rfl|exact trivial|exact wR|exact lR _|apply aI))) fun _=>?_
  (try dsimp only[awp]);conv=>whnf
  refine And.intro (fun h4=>?_) (fun h4=>?_)
  ·rw [show resOn m a s = (1,0,i_house m.hs s) from (if_neg h3).trans (if_pos h4)]
   (try dsimp only[awp]);conv=>whnf
   refine ⟨⟨_,_,.refl _ _,?_⟩⟩
   conv=>whnf
   refine ⟨?_,rfl,by simp [nextId],.mk ?_ (by simp [idsOk])⟩
   ·all_goals exact wk
   ·repeat' first|exact rfl|exact trivial|exact wR|exact lR _|apply aI
    all_goals first | exact hT.1 | exact hT.2 | exact hO.1 | exact hO.2 | exact hX.1 | (show (match bndB 3 X with | true=>_ | false=>_) = true; rw [hX.2]; rfl)
  rw [show resOn m a s = (2,a,i_gate (gatesM m a) s) from (if_neg h3).trans (if_neg h4)]
  (try dsimp only[awp]);conv=>whnf
  refine .gen _ _ (g_gates m X T M _ _ a (by assumption)) fun _=>?_
  (try dsimp only[awp]);conv=>whnf
  refine .gen _ _ (c_idx_Mg (gatesM m a) 165 [.ptr 3 [] 0] (fun x=>decide (x.name = s)) _ fun x _=>FnH.frame [3] (g_find4 x s) ⟨rfl,rfl,rfl,rfl⟩ (by (repeat' first|exact rfl|exact trivial|exact wR|exact lR _|apply aI)) (by (repeat' first|exact rfl|exact trivial|exact wR|exact lR _|apply aI))) fun _=>?_
  (try dsimp only[awp]);conv=>whnf
  refine ⟨⟨_,_,.refl _ _,?_⟩⟩
  conv=>whnf
  refine ⟨?_,rfl,by simp [nextId],.mk ?_ (by simp [idsOk])⟩
  ·all_goals exact wk
  ·repeat' first|exact rfl|exact trivial|exact wR|exact lR _|apply aI
   all_goals first | exact hT.1 | exact hT.2 | exact hO.1 | exact hO.2 | exact hX.1 | (show (match bndB 3 X with | true=>_ | false=>_) = true; rw [hX.2]; rfl)

def shortX (x : Rat) : Prop:=x.num.length ≤ 40 ∧ x.den.length ≤ 40

structure MdX (m : Md) : Prop where
 evs : ∀ x ∈ m.evs,shortX x.p ∧ shortX x.fail ∧ shortX x.repair
 gates : ∀ x ∈ m.gates,shortX x.dorm
 pages : ∀ p ∈ m.pages,∀ x ∈ p.gates,shortX x.dorm
 grs : ∀ x ∈ m.grs,∀ f ∈ x.fac,shortX f
 phs : ∀ x ∈ m.phs,∀ v ∈ x.vals,shortX v.p

theorem shortX_of {x : Rat} (h : shortR x = true) : shortX x:=by
 simpa [shortR,shortX] using h

theorem few_X {l : List Mg} (h : fewR l = true) : ∀ x ∈ l,shortX x.dorm:=by
 intro x hx
 unfold fewR at h
 simp only [Bool.and_eq_true] at h
 have:=List.all_eq_true.1 h.1 x hx
 simp only [fewG,Bool.and_eq_true] at this
 exact shortX_of this.2

theorem lightM_X {m : Md} (h : lightM m = true) : MdX m:=by
 unfold lightM at h
 simp only [Bool.and_eq_true,decide_eq_true_eq] at h
 obtain ⟨⟨⟨⟨⟨⟨⟨⟨⟨h1,h2⟩,h3⟩,h4⟩,h5⟩,h6⟩,h7⟩,h8⟩,h9⟩,h10⟩:=h
 refine ⟨fun x hx=>?_,few_X h6,fun p hp=>few_X (List.all_eq_true.1 h8 p hp),fun g hg f hf=>?_,fun p hp v hv=>?_⟩
 ·have:=List.all_eq_true.1 h7 x hx
  simp only [evS,Bool.and_eq_true] at this
  exact ⟨shortX_of this.1.1,shortX_of this.1.2,shortX_of this.2⟩
 ·have:=List.all_eq_true.1 h9 g hg
  simp only [grS,Bool.and_eq_true] at this
  exact shortX_of (List.all_eq_true.1 this.2 f hf)
 ·have:=List.all_eq_true.1 h10 p hp
  simp only [phS,Bool.and_eq_true] at this
  exact shortX_of (List.all_eq_true.1 this.2 v hv)


structure DS where
 gates : List Gate
 es : Marks
 deriving Inhabited

def houseG (on : Bool) (a : Int) : List Gate:=[⟨3,0,[0],zq⟩,⟨if on = true then 1 else 0,0,[0,a],zq⟩]

def compDL (f : Node → DS → Int × DS) : List Node → DS → List Int → List Int × DS
 | [],s,acc=>(acc,s)
 | y :: l,s,acc=>compDL f l (f y s).2 (acc ++ [(f y s).1])

def compD (m : Md) (v : Int) : Nat → Node → DS → Int × DS
 | 0,_,s=>(0,s)
 | n + 1,x,s=>if x.1 = 0 then (x.2.2,s) else
   match lookO s.es x with
   | some a=>(a,s)
   | none=>if x.1 = 1 then (v + s.gates.length + 1,⟨s.gates ++ houseG (houseAt m x).on (v + s.gates.length),mark s.es x (v + s.gates.length + 1)⟩)
     else (v + (compDL (compD m v n) (kidsM m x) s []).2.gates.length,
      ⟨(compDL (compD m v n) (kidsM m x) s []).2.gates ++ [⟨(gateAt m x).kind,(gateAt m x).k,(compDL (compD m v n) (kidsM m x) s []).1,(gateAt m x).dorm⟩],
       mark (compDL (compD m v n) (kidsM m x) s []).2.es x (v + (compDL (compD m v n) (kidsM m x) s []).2.gates.length)⟩)

structure DInv (m : Md) (s : DS) : Prop where
 len : s.gates.length ≤ 2 * s.es.length
 nd : (s.es.map (·.1)).Nodup
 ok : ∀ e ∈ s.es,okN m e.1 ∧ e.1.1 ≠ 0

theorem DInv.short {m : Md} (hB : MdB m) {s : DS} (h : DInv m s) : s.gates.length ≤ 40000:=by
 have:=nodup_sub h.nd (u:=univ m) fun x hx=>by
  obtain ⟨e,he,rfl⟩:=List.mem_map.1 hx
  exact univ_mem (h.ok e he).1 (h.ok e he).2
 rw [List.length_map] at this
 have h1:=all_len hB
 have h2:=hB.hs
 have h3 : (univ m).length = m.hs.length + (allNodes m).length:=by simp [univ]
 have:=h.len
 omega

theorem DInv.push {m : Md} {s : DS} (h : DInv m s) {x : Node} (hx : okN m x) (h0 : x.1 ≠ 0) (hn : lookO s.es x = none) (v : Int) (gs : List Gate) (hg : gs.length ≤ 2) : DInv m ⟨s.gates ++ gs,mark s.es x v⟩:=by
 obtain ⟨h1,h2⟩:=mark_new (v:=v) hn
 refine ⟨?_,?_,?_⟩
 ·show (s.gates ++ gs).length ≤ 2 * (mark _ _ _).length
  rw [h1,List.length_append,List.length_append]
  have:=h.len
  simp only [List.length_cons,List.length_nil]
  omega
 ·show ((mark _ _ _).map (·.1)).Nodup
  rw [h1,List.map_append,List.nodup_append]
  refine ⟨h.nd,by simp,?_⟩
  intro a ha b hb
  simp at hb
  subst hb
  exact fun e=>h2 (e ▸ ha)
 ·show ∀ e ∈ mark _ _ _,_
  rw [h1]
  intro e he
  rcases List.mem_append.1 he with he | he
  ·exact h.ok e he
  ·simp at he; subst he; exact ⟨hx,h0⟩

theorem compD_inv {m : Md} (hc : ClosedM m) {rank : Node → Nat} (hr : RankM m rank) (v : Int) : ∀ (n : Nat) (x : Node) (s : DS),okN m x → DInv m s →
  DInv m (compD m v n x s).2 ∧ ∀ z : Node,z.1 = 2 → (x.1 = 2 → rank x < rank z) → lookO s.es z = none → lookO (compD m v n x s).2.es z = none
 | 0,_,_,_,h=>⟨h,fun _ _ _ h=>h⟩
 | n + 1,x,st,hx,h=>by
   have push : ∀ {s : DS} (w : Int) (gs : List Gate),gs.length ≤ 2 → DInv m s → x.1 ≠ 0 → lookO s.es x = none → (∀ z : Node,z.1 = 2 → (x.1 = 2 → rank x < rank z) → lookO st.es z = none → lookO s.es z = none) →
     DInv m ⟨s.gates ++ gs,mark s.es x w⟩ ∧ ∀ z : Node,z.1 = 2 → (x.1 = 2 → rank x < rank z) → lookO st.es z = none → lookO (mark s.es x w) z = none:=by
    intro s w gs hg h1 h2 h3 h4
    refine ⟨h1.push hx h2 h3 w gs hg,fun z hz hxz hs=>?_⟩
    rw [lookO_mark,if_neg]
    ·exact h4 z hz hxz hs
    ·rintro rfl; have:=hxz hz; omega
   unfold compD
   split
   ·exact ⟨h,fun _ _ _ h=>h⟩
   rename_i h0
   split
   ·exact ⟨h,fun _ _ _ h=>h⟩
   rename_i hn
   split
   ·exact push _ _ (by simp [houseG]) h h0 hn fun _ _ _ h=>h
   rename_i h1
   have h2 : x.1 = 2:=by
    rcases hx with h | h | h
    ·omega
    ·omega
    ·exact (mem_all.1 h).1
   have hk:=(okN_kids hc hx h2).2
   have key : ∀ (l : List Node) (s : DS) (acc : List Int),(∀ y ∈ l,okN m y ∧ (y.1 = 2 → rank y < rank x)) → DInv m s → DInv m (compDL (compD m v n) l s acc).2 ∧
     ∀ z : Node,z.1 = 2 → rank x ≤ rank z → lookO s.es z = none → lookO (compDL (compD m v n) l s acc).2.es z = none:=by
    intro l
    induction l with
    | nil=>intro s acc _ h; exact ⟨h,fun _ _ _ h=>h⟩
    | cons y l ih =>
      intro s acc hl h
      unfold compDL
      obtain ⟨hy,hyr⟩:=hl y (by simp)
      obtain ⟨h',g'⟩:=compD_inv hc hr v n y s hy h
      have g2 : ∀ z : Node,z.1 = 2 → rank x ≤ rank z → lookO s.es z = none → lookO (compD m v n y s).2.es z = none:=fun z hz hxz hs=>g' z hz (fun e=>by have:=hyr e; omega) hs
      obtain ⟨i1,i2⟩:=ih (compD m v n y s).2 (acc ++ [(compD m v n y s).1]) (fun z hz=>hl z (by simp [hz])) h'
      exact ⟨i1,fun z hz hxz hs=>i2 z hz hxz (g2 z hz hxz hs)⟩
   obtain ⟨k1,k2⟩:=key (kidsM m x) st [] (fun y hy=>⟨hk y hy,hr x hx h2 y hy⟩) h
   exact push _ _ (by simp) k1 h0 (k2 x h2 (Nat.le_refl _) hn) fun z hz hxz hs=>k2 z hz (by have:=hxz h2; omega) hs

theorem g_clone (x : Rat) (hx : shortX x) : FnH Tryz.prog 82 [x.av] [] x.av []:=by
 have c1:=c_clone32 x.num (by have:=hx.1; omega)
 have c2:=c_clone32 x.den (by have:=hx.2; omega)
 refine FnH.intro lay mixed Tryz.func82 (by kernel_rfl) rfl (by kernel_rfl) rfl fun hok=>?_
 (try dsimp only[argC,succC]);(try dsimp only[awp]);conv=>whnf
 refine ADraw.auto (by kernel_rfl) ?_;conv=>whnf
 refine ACallP.pure _ _ ?_ ⟨rfl,rfl⟩ c1 ?_
 ·exact leL_refl _
 (try dsimp only[awp]);conv=>whnf
 refine ACallP.pure _ _ ?_ ⟨rfl,rfl⟩ c2 ?_
 ·exact leL_refl _
 (try dsimp only[awp]);conv=>whnf
 refine fM ?_;(conv=>whnf);refine ⟨?_,rfl⟩;conv=>whnf
 all_goals exact wk

abbrev rtL (l : List Rat) : AV:=.sl 3 (l.map Rat.av) .no
abbrev xD (m : Md) (v top : Int) (s : DS) : AV:=.ag [.int .i64 v,.sl 6 (s.gates.map Gate.av) (.own 2),.int .i64 top,rtL (m.evs.map Ev.fail),rtL (m.evs.map Ev.repair)]
abbrev hpD (m : Md) (v top : Int) (s : DS) : Heap:=hpF m (xD m v top s) (.tok 6 s.gates.length) (.amap shN (encM s.es))

theorem xD_wk (m : Md) (v top : Int) (s : DS) : WkA (xD m v top s):=⟨le0_refl _,rfl⟩
theorem tD_wk (n : Nat) : WkO (.tok 6 n):=⟨⟨rfl,rfl⟩,rfl⟩
theorem mD_wk (es : Marks) : WkO (.amap shN (encM es)):=⟨⟨rfl,leM_refl _⟩,encM_bnd _ _⟩

theorem g_add (m : Md) (v top : Int) (s : DS) (g : Gate) (hv : 0 ≤ v ∧ v ≤ 100) (hs : s.gates.length ≤ 100000) :
  FnH Tryz.prog 157 [.ptr 1 [] 0,g.av] (hpD m v top s) (.int .i64 (v + s.gates.length)) (hpD m v top ⟨s.gates ++ [g],s.es⟩):=by
 refine FnH.intro lay mixed Tryz.func157 (by kernel_rfl) rfl (by kernel_rfl) rfl fun hok=>?_
 (try dsimp only[argC,succC]);(try dsimp only[awp]);conv=>whnf
 refine ADraw.auto (by kernel_rfl) ?_;conv=>whnf
 refine ⟨by rw [List.length_map],.mk (by simp [maxL]; omega) (by simp; omega) ?_⟩
 (try dsimp only[awp]);conv=>whnf
 refine ADraw.auto (by kernel_rfl) ?_;conv=>whnf
 refine ⟨inr64 (by simp; omega) (by simp; omega),?_⟩
 (try dsimp only[awp]);conv=>whnf
 refine ⟨inr64 (by simp; omega) (by simp; omega),?_⟩
 (try dsimp only[awp]);conv=>whnf
 refine ⟨⟨_,_,.refl _ _,?_⟩⟩
 conv=>whnf
 refine ⟨?_,rfl,by simp [nextId],.mk ?_ (by simp [idsOk])⟩
 ·repeat' first|exact rfl|exact trivial|exact wR|exact lR _|apply aI
  all_goals first | (show (_ : Int) = _; simp; omega) | skip
 ·repeat' first|exact rfl|exact trivial|exact wR|exact lR _|apply aI
  all_goals first | exact leM_refl _ | exact leM_nr _ _ | exact encM_bnd _ _ | (show leRL _ (List.map _ (_ ++ [_])); rw [List.map_append]; refine leRL_snoc ?_ (lR _); (repeat' first|exact rfl|exact trivial|exact wR|exact lR _|apply aI); done) | (simp; done) | (simp; omega)

def lvlD (rank : Node → Nat) (x : Node) : Nat:=if x.1 = 2 then rank x + 1 else 0

theorem leM_rr (f g : Nat → Nat) (es : Marks) : leM (rnM f (encM es)) (rnM g (encM es)):=by rw [encM_rn,encM_rn]; exact leM_refl _

theorem aupd_eqD {es : Marks} {x : Node} {v w : Int} {k : List (AV × AV) → Prop} (e : w = v) (h : k (encM (mark es x v))) : AUpd (encM es) (nAV x) (.int .i64 w) k:=by subst e; exact aupd_es h

theorem g_gates1 (m : Md) (X : AV) (T M B3 : HO) (a : Int) (h : a = -1 ∨ (0 ≤ a ∧ a < (m.pages.length : Int))) : FnH Tryz.prog 85 [.ptr 1 [] 0,.int .i64 a] ((3,B3) :: hpF m X T M) (gL (gatesM m a)) ((3,B3) :: hpF m X T M):=by
 refine FnH.intro lay mixed Tryz.func85 (by kernel_rfl) rfl (by kernel_rfl) rfl fun hok=>?_
 (try dsimp only[argC,succC]);(try dsimp only[awp]);conv=>whnf
 refine And.intro (fun h1=>?_) (fun h1=>?_)
 ·rw [show gatesM m a = m.gates from if_pos h1]
  (try dsimp only[awp]);conv=>whnf
  (refine FinSpec.same ?_;(conv=>whnf);refine ⟨?_,rfl⟩;(conv=>whnf))
  all_goals exact wk
 ·have hb : 0 ≤ a ∧ a < (m.pages.length : Int):=by omega
  rw [show gatesM m a = (m.pages.getD a.toNat default).gates from if_neg h1]
  (try dsimp only[awp]);conv=>whnf
  refine aidxD default hb ?_
  (try dsimp only[awp]);conv=>whnf
  (refine FinSpec.same ?_;(conv=>whnf);refine ⟨?_,rfl⟩;(conv=>whnf))
  all_goals exact wk

theorem g_comp (m : Md) (hM : MOk m) (hB : MdB m) (hX : MdX m) (rank : Node → Nat) (hr : RankM m rank) : ∀ (n : Nat) (x : Node) (top : Int) (st : DS),okN m x → lvlD rank x < n → DInv m st →
  FnH Tryz.prog 83 [.ptr 1 [] 0,nAV x] (hpD m m.evs.length top st) (.int .i64 (compD m m.evs.length n x st).1) (hpD m m.evs.length top (compD m m.evs.length n x st).2):=by
 intro n
 induction n with
 | zero=>intro x top st _ h; omega
 | succ n ih =>
   intro x top st hxo hn hI
   have hev:=hM.lens.1
   have hshort:=hI.short hB
   have hcl:=hM.closed
   have hkk:=fun h2=>okN_kids hcl hxo h2
   have hrk:=hr _ hxo
   have hInv:=compD_inv hcl hr m.evs.length n
   generalize hve : (m.evs.length : Int) = ve at *
   refine FnH.intro lay mixed Tryz.func83 (by kernel_rfl) rfl (by kernel_rfl) rfl fun hok=>?_
   (try dsimp only[argC,succC]);(try dsimp only[awp]);conv=>whnf
   refine And.intro (fun h0=>?_) (fun h0=>?_)
   ·rw [show compD m ve (n + 1) x st = (x.2.2,st) from if_pos h0]
    (try dsimp only[awp]);conv=>whnf
    refine ⟨⟨_,_,.refl _ _,?_⟩⟩
    conv=>whnf
    refine ⟨?_,rfl,by simp [nextId],.mk ?_ (by simp [idsOk])⟩
    ·repeat' first|exact rfl|exact trivial|exact wR|exact lR _|apply aI
     all_goals first | (show (_ : Int) = _; simp [houseG]; omega) | (show (_ : Int) = _; simp [houseG]; done) | skip
    ·repeat' first|exact rfl|exact trivial|exact wR|exact lR _|apply aI
     all_goals first | exact leM_refl _ | exact leM_nr _ _ | exact encM_bnd _ _ | (refine leRL_of ?_; simp [houseG]; done) | (simp [houseG]; done) | (simp [houseG]; omega) | skip
   (try dsimp only[awp]);conv=>whnf
   refine ADraw.auto (by kernel_rfl) ?_;conv=>whnf
   refine alook_opt (fun v hv=>?_) (fun hv=>?_)
   ·rw [show compD m ve (n + 1) x st = (v,st) from by unfold compD; rw [if_neg h0,hv]]
    (try dsimp only[awp]);conv=>whnf
    refine ⟨⟨_,_,.refl _ _,?_⟩⟩
    conv=>whnf
    refine ⟨?_,rfl,by simp [nextId],.mk ?_ (by simp [idsOk])⟩
    ·repeat' first|exact rfl|exact trivial|exact wR|exact lR _|apply aI
     all_goals first | (show (_ : Int) = _; simp [houseG]; omega) | (show (_ : Int) = _; simp [houseG]; done) | skip
    ·repeat' first|exact rfl|exact trivial|exact wR|exact lR _|apply aI
     all_goals first | exact leM_refl _ | exact leM_nr _ _ | exact encM_bnd _ _ | (refine leRL_of ?_; simp [houseG]; done) | (simp [houseG]; done) | (simp [houseG]; omega) | skip
   (try dsimp only[awp]);conv=>whnf
   refine And.intro (fun h1=>?_) (fun h1=>?_)
   ·have hh : 0 ≤ x.2.2 ∧ x.2.2 < (m.hs.length : Int):=by
     rcases hxo with h | h | h
     ·omega
     ·exact ⟨h.2.2.1,h.2.2.2⟩
     ·have:=(mem_all.1 h).1; omega
    have hR : compD m ve (n + 1) x st = (ve + st.gates.length + 1,⟨st.gates ++ houseG (houseAt m x).on (ve + st.gates.length),mark st.es x (ve + st.gates.length + 1)⟩):=by unfold compD; rw [if_neg h0,hv]; exact if_pos h1
    rw [hR]
    have a1:=g_add m ve top st ⟨3,0,[0],zq⟩ (by omega) (by omega)
    (try dsimp only[awp]);conv=>whnf
    refine ADraw.auto (by kernel_rfl) ?_;conv=>whnf
    refine aidxD default hh ?_
    rw [show m.hs.getD x.2.2.toNat default = houseAt m x from rfl]
    have a2:=fun on : Bool=>g_add m ve top ⟨st.gates ++ [⟨3,0,[0],zq⟩],st.es⟩ ⟨if on = true then 1 else 0,0,[0,ve + st.gates.length],zq⟩ (by omega) (by simp; omega)
    (try dsimp only[awp]);conv=>whnf
    refine And.intro (fun g=>?_) (fun g=>?_)
    all_goals
     have a2:=a2 (houseAt m x).on
     rw [g] at a2 ⊢
     (try dsimp only[awp]);conv=>whnf
     refine .gen _ _ (FnH.frame [0,1,2] a1 ⟨rfl,rfl,rfl,rfl⟩ ?_ ?_) fun _=>?_
     ·repeat' first|exact rfl|exact trivial|exact wR|exact lR _|apply aI
      all_goals first | exact leM_rn _ _ | exact leM_rr _ _ _ | exact encM_bnd _ _
     ·all_goals exact wk
     (try dsimp only[awp]);conv=>whnf
     refine .gen _ _ (FnH.frame [0,1,2] a2 ⟨rfl,rfl,rfl,rfl⟩ ?_ ?_) fun _=>?_
     ·repeat' first|exact rfl|exact trivial|exact wR|exact lR _|apply aI
      all_goals first | exact leM_rn _ _ | exact leM_rr _ _ _ | exact encM_bnd _ _ | (simp; done)
     ·all_goals exact wk
     (try dsimp only[awp]);conv=>whnf
     refine ADraw.auto (by kernel_rfl) ?_;conv=>whnf
     rw [encM_rn]
     refine aupd_eqD (v:=ve + st.gates.length + 1) (by show ve + (((st.gates ++ [(⟨3,0,[0],zq⟩ : Gate)]).length : Nat) : Int) = _; rw [List.length_append]; show ve + ((st.gates.length + 1 : Nat) : Int) = _; omega) ?_
     (try dsimp only[awp]);conv=>whnf
     refine ⟨⟨_,_,.refl _ _,?_⟩⟩
     conv=>whnf
     refine ⟨?_,rfl,by simp [nextId],.mk ?_ (by simp [idsOk])⟩
     ·repeat' first|exact rfl|exact trivial|exact wR|exact lR _|apply aI
      all_goals first | (show (_ : Int) = _; simp [houseG]; omega) | (show (_ : Int) = _; simp [houseG]; done) | skip
     ·repeat' first|exact rfl|exact trivial|exact wR|exact lR _|apply aI
      all_goals first | exact leM_refl _ | exact leM_nr _ _ | exact encM_bnd _ _ | (refine leRL_of ?_; simp [houseG]; done) | (simp [houseG]; done) | (simp [houseG]; omega) | skip
   have h2 : x.1 = 2:=by
    rcases hxo with h | h | h
    ·omega
    ·omega
    ·exact (mem_all.1 h).1
   obtain ⟨hxa,hkk⟩:=hkk h2
   obtain ⟨_,hpg,hix⟩:=mem_all.1 hxa
   have hrk:=hrk h2
   have hlv : rank x < n:=by unfold lvlD at hn; rw [if_pos h2] at hn; omega
   have hgm : gateAt m x ∈ gatesM m x.2.1:=getD_mem (by omega)
   have hil : (gateAt m x).ins.length ≤ 40:=(hB.gatesM hpg).2 _ hgm
   have hdx : shortX (gateAt m x).dorm:=by
    unfold gatesM at hgm
    split at hgm
    ·exact hX.gates _ hgm
    ·rename_i ha
     have hp : x.2.1.toNat < m.pages.length:=by omega
     rw [getD_lt hp] at hgm
     exact hX.pages _ (List.getElem_mem hp) _ hgm
   have hins : ∀ (j : Nat) (h : j < (gateAt m x).ins.length),InOk m x.2.1 (gateAt m x).ins[j] ∧ (kidsM m x)[j]? = some (resR m x.2.1 (gateAt m x).ins[j]):=fun j h =>
    ⟨hM.inOk hpg (hM.ins_in hpg hgm (List.getElem_mem h)),by simp [kidsM,h]⟩
   have hlen : (kidsM m x).length = (gateAt m x).ins.length:=by simp [kidsM]
   have hmem : ∀ y ∈ kidsM m x,lvlD rank y < n:=fun y hy=>by
    unfold lvlD
    split
    ·rename_i e; have:=hrk y hy e; omega
    ·omega
   have hR : compD m ve (n + 1) x st = (ve + (compDL (compD m ve n) (kidsM m x) st []).2.gates.length,
     ⟨(compDL (compD m ve n) (kidsM m x) st []).2.gates ++ [⟨(gateAt m x).kind,(gateAt m x).k,(compDL (compD m ve n) (kidsM m x) st []).1,(gateAt m x).dorm⟩],
      mark (compDL (compD m ve n) (kidsM m x) st []).2.es x (ve + (compDL (compD m ve n) (kidsM m x) st []).2.gates.length)⟩):=by
    conv=>lhs; unfold compD
    rw [if_neg h0,hv]
    exact if_neg h1
   have cl:=g_clone _ hdx
   (try dsimp only[awp]);conv=>whnf
   refine ADraw.frz [3] ?_
   conv=>whnf
   refine And.intro ⟨rfl,rfl⟩ ?_
   conv=>whnf
   refine ⟨[true,true,true,false,true,true,true,true,false,false],by kernel_rfl,?_⟩
   conv=>whnf
   refine .gen _ _ (g_gates1 m _ _ _ _ x.2.1 hpg) fun _=>?_
   (try dsimp only[awp]);conv=>whnf
   refine aidxD default hix ?_
   have hga : (gatesM m x.2.1).getD x.2.2.toNat default = gateAt m x:=rfl
   rw [hga]
   generalize gateAt m x = g at *
   generalize kidsM m x = K at *
   (try dsimp only[awp]);conv=>whnf
   refine ADraw.auto (by kernel_rfl) ?_;conv=>whnf
   refine ACallP.pure _ _ ?_ ⟨rfl,rfl⟩ cl ?_
   ·exact leL_refl _
   (try dsimp only[awp]);conv=>whnf
   generalize hW : compD m ve n = W at *
   generalize hS : compDL W K st [] = Rz at *
   refine LoopE.of <| LoopSpec.inv (.growF 5 [2] 1 [] (.ag [.int .i64 g.kind,.int .i64 g.k,.nils,g.dorm.av]) .nils _ rfl rfl (.inl ⟨rfl,rfl⟩) rfl (.refl _ _))
    (fun (q : Nat × DS × List Int)=>q.1 ≤ g.ins.length ∧ compDL W (K.drop q.1) q.2.1 q.2.2 = Rz ∧ q.2.2.length = q.1 ∧ DInv m q.2.1 ∧ (∀ z : Node,z.1 = 2 → rank x ≤ rank z → lookO st.es z = none → lookO q.2.1.es z = none))
    (fun q=>[(72,.int .i64 q.1)]) (fun q=>(6,.tok 1 q.1) :: (5,.box (.ag [.int .i64 g.kind,.int .i64 g.k,.sl 1 (q.2.2.map (.int .i64)) (.own 6),g.dorm.av])) :: (4,.gone) :: (3,.gone) :: hpD m ve top q.2.1) (fun q=>g.ins.length - q.1) (0,st,[]) ?_ (fun _=>rfl) ?_ ?_
   ·exact ⟨Nat.zero_le _,hS,rfl,hI,fun _ _ _ h=>h⟩
   ·refine ⟨?_,.mk ?_ (by simp [idsOk])⟩
    ·all_goals exact wk
    ·repeat' first|exact rfl|exact trivial|exact wR|exact lR _|apply aI
     all_goals first | exact leM_refl _ | exact encM_bnd _ _
   rintro ⟨j,sj,acc⟩ ⟨hj,hnj,hacc,hIj,hzj⟩ _
   dsimp only at hj hnj hacc hIj hzj
   (try dsimp only[awp]);conv=>whnf
   refine And.intro (fun hh=>?_) (fun hh=>?_)
   ·have hjl : j < g.ins.length:=by simpa using hh
    obtain ⟨hij,hKj⟩:=hins j hjl
    rw [drop_of_get? hKj] at hnj
    unfold compDL at hnj
    have hyK:=List.mem_of_getElem? hKj
    have hlj:=hmem _ hyK
    have cf:=g_find m (xD m ve top sj) (.tok 6 sj.gates.length) (.amap shN (encM sj.es)) (xD_wk _ _ _ _) (tD_wk _) (mD_wk _) x.2.1 g.ins[j] hij.pos hpg hij.pg
    have cw:=ih (resR m x.2.1 g.ins[j]) top sj hij.ok hlj hIj
    have hIr:=hInv (resR m x.2.1 g.ins[j]) sj hij.ok hIj
    have hyr:=hrk _ hyK
    (try dsimp only[awp]);conv=>whnf
    refine aidx hjl ?_
    generalize g.ins[j] = s2 at *
    generalize resR m x.2.1 s2 = y at *
    generalize hr0 : W y sj = r at *
    obtain ⟨ra,rs⟩:=r
    dsimp only at hnj hIr cw
    (try dsimp only[awp]);conv=>whnf
    refine ADraw.late [1,999] ⟨[true,false,true,true,true,true,true,false,false,true,false,true,false],by kernel_rfl,?_⟩
    conv=>whnf
    refine .gen _ _ (FnH.frame [0,1,2] cf ⟨rfl,rfl,rfl,rfl⟩ ?_ ?_) fun _=>?_
    ·repeat' first|exact rfl|exact trivial|exact wR|exact lR _|apply aI
     all_goals first | exact leM_rn _ _ | exact leM_rr _ _ _ | exact encM_bnd _ _
    ·all_goals exact wk
    conv=>whnf
    (refine aI (by (conv=>whnf)<;>exact rfl) ?_;(conv=>whnf))
    refine .gen _ _ (FnH.frame [0,1,2] cw ⟨rfl,rfl,rfl,rfl⟩ ?_ ?_) fun _=>?_
    ·repeat' first|exact rfl|exact trivial|exact wR|exact lR _|apply aI
     all_goals first | exact leM_rn _ _ | exact leM_rr _ _ _ | exact encM_bnd _ _
    ·all_goals exact wk
    conv=>whnf
    (refine aI (by (conv=>whnf)<;>exact rfl) ?_;(conv=>whnf))
    refine ⟨by rw [List.length_map,hacc],.mk (by simp [maxL]; omega) (by simp; omega) ?_⟩
    conv=>whnf
    refine zA ?_;conv=>whnf
    refine ⟨(j + 1,rs,acc ++ [ra]),?_,?_,?_⟩
    ·exact ⟨hjl,hnj,by simp [hacc],hIr.1,fun z hz hxz hs=>hIr.2 z hz (fun e=>by have:=hyr e; omega) (hzj z hz hxz hs)⟩
    ·refine ⟨?_,.mk ?_ (by simp [idsOk])⟩
     ·all_goals exact wk
     ·repeat' first|exact rfl|exact trivial|exact wR|exact lR _|apply aI
      all_goals first | exact leM_nr _ _ | exact leM_rr _ _ _ | exact encM_bnd _ _ | (show leRL _ (List.map _ (_ ++ [_])); rw [List.map_append]; exact lR _) | (simp [hacc]; done) | (simp; omega)
    ·show g.ins.length - (j + 1) < g.ins.length - j
     omega
   have hjl : K.length ≤ j:=by (have : ¬ j < g.ins.length:=by simpa using hh); omega
   rw [List.drop_eq_nil_of_le hjl] at hnj
   unfold compDL at hnj
   rw [← hnj] at hR
   rw [hR]
   have hshort:=hIj.short hB
   have a3:=g_add m ve top sj ⟨g.kind,g.k,acc,g.dorm⟩ (by omega) (by omega)
   (try dsimp only[awp]);conv=>whnf
   refine .gen _ _ (FnH.frame [0,1,2] a3 ⟨rfl,rfl,rfl,rfl⟩ ?_ ?_) fun _=>?_
   ·repeat' first|exact rfl|exact trivial|exact wR|exact lR _|apply aI
    all_goals first | exact leM_rn _ _ | exact leM_rr _ _ _ | exact encM_bnd _ _
   ·all_goals exact wk
   (try dsimp only[awp]);conv=>whnf
   refine ADraw.auto (by kernel_rfl) ?_;conv=>whnf
   rw [encM_rn]
   refine aupd_eqD (v:=ve + sj.gates.length) rfl ?_
   (try dsimp only[awp]);conv=>whnf
   refine ⟨⟨_,_,.refl _ _,?_⟩⟩
   conv=>whnf
   refine ⟨?_,rfl,by simp [nextId],.mk ?_ (by simp [idsOk])⟩
   ·repeat' first|exact rfl|exact trivial|exact wR|exact lR _|apply aI
    all_goals first | (show (_ : Int) = _; simp [houseG]; omega) | (show (_ : Int) = _; simp [houseG]; done) | skip
   ·repeat' first|exact rfl|exact trivial|exact wR|exact lR _|apply aI
    all_goals first | exact leM_refl _ | exact leM_nr _ _ | exact encM_bnd _ _ | (refine leRL_of ?_; simp [houseG]; done) | (simp [houseG]; done) | (simp [houseG]; omega) | skip

theorem list_of {α : Type} {f : α → AV} : ∀ {l : List AV},(∀ x ∈ l,∃ y,x = f y) → ∃ m : List α,l = m.map f
 | [],_=>⟨[],rfl⟩
 | x :: l,h=>by
   obtain ⟨y,rfl⟩:=h x (by simp)
   obtain ⟨m,rfl⟩:=list_of (l:=l) fun z hz=>h z (by simp [hz])
   exact ⟨y :: m,rfl⟩

theorem ints_of {sz : Nat} {k : IntKind} {A : AV} (h : (Sh.sl sz (.int k)).In A) : ∃ l : List Int,A = .sl sz (l.map (.int k)) .no:=by
 simp only [Sh.In] at h
 obtain ⟨l,rfl,hl⟩:=h
 obtain ⟨m,rfl⟩:=list_of hl
 exact ⟨m,rfl⟩

abbrev shRat : Sh:=.st [.bool,.sl 1 (.int .u32),.sl 1 (.int .u32)]
theorem Rat.of {A : AV} (h : shRat.In A) : ∃ r : Rat,A = r.av:=by
 simp only [Sh.In,InL] at h
 obtain ⟨_,rfl,_,_,rfl,⟨b,rfl⟩,_,_,rfl,h1,_,_,rfl,h2,rfl⟩:=h
 obtain ⟨n,rfl⟩:=ints_of (sz:=1) (k:=.u32) (by simp only [Sh.In]; exact h1)
 obtain ⟨d,rfl⟩:=ints_of (sz:=1) (k:=.u32) (by simp only [Sh.In]; exact h2)
 exact ⟨⟨b,n,d⟩,rfl⟩

theorem rats_of {A : AV} (h : (Sh.sl 3 shRat).In A) : ∃ l : List Rat,A = .sl 3 (l.map Rat.av) .no:=by
 unfold Sh.In at h
 obtain ⟨l,rfl,hl⟩:=h
 obtain ⟨m,rfl⟩:=list_of fun x hx=>Rat.of (hl x hx)
 exact ⟨m,rfl⟩

theorem int_of {k : IntKind} {A : AV} (h : (Sh.int k).In A) : ∃ n : Int,A = .int k n:=by
 simpa only [Sh.In] using h

theorem str_of {A : AV} (h : Sh.str.In A) : ∃ s : List UInt8,A = .str s:=by
 simpa only [Sh.In] using h

theorem sl_of {α : Type} {f : α → AV} {sh : Sh} {sz : Nat} {A : AV} (hf : ∀ x,sh.In x → ∃ y,x = f y) (h : (Sh.sl sz sh).In A) : ∃ l : List α,A = .sl sz (l.map f) .no:=by
 unfold Sh.In at h
 obtain ⟨l,rfl,hl⟩:=h
 obtain ⟨m,rfl⟩:=list_of fun x hx=>hf x (hl x hx)
 exact ⟨m,rfl⟩

abbrev shEv : Sh:=.st [.str,shRat,shRat,shRat,.int .i64]
abbrev shHs : Sh:=.st [.str,.bool]
abbrev shMg : Sh:=.st [.str,.int .i64,.int .i64,.sl 1 .str,shRat]
abbrev shPg : Sh:=.st [.str,.str,.sl 7 shMg]
abbrev shGr : Sh:=.st [.str,.int .i64,.sl 1 .str,.sl 3 shRat]
abbrev shPv : Sh:=.st [.str,shRat]
abbrev shPh : Sh:=.st [.str,.str,.sl 4 shPv]
abbrev shMd : Sh:=.st [.str,.str,.sl 11 shEv,.sl 2 shHs,.sl 7 shMg,.sl 3 shPg,.sl 4 shGr,.sl 3 shPh]

theorem strs_of {A : AV} (h : (Sh.sl 1 .str).In A) : ∃ l : List Str,A = sL l:=sl_of (f:=AV.str) (fun _ hx=>str_of hx) h

theorem Ev.of {A : AV} (h : shEv.In A) : ∃ x : Ev,A = x.av:=by
 unfold Sh.In at h
 simp only [InL] at h
 obtain ⟨_,rfl,_,_,rfl,h0,_,_,rfl,h1,_,_,rfl,h2,_,_,rfl,h3,_,_,rfl,h4,rfl⟩:=h
 obtain ⟨a,rfl⟩:=str_of h0
 obtain ⟨b,rfl⟩:=Rat.of h1
 obtain ⟨c,rfl⟩:=Rat.of h2
 obtain ⟨d,rfl⟩:=Rat.of h3
 obtain ⟨e,rfl⟩:=int_of h4
 exact ⟨⟨a,b,c,d,e⟩,rfl⟩

theorem Hs.of {A : AV} (h : shHs.In A) : ∃ x : Hs,A = x.av:=by
 unfold Sh.In at h
 simp only [InL] at h
 obtain ⟨_,rfl,_,_,rfl,h0,_,_,rfl,h1,rfl⟩:=h
 obtain ⟨a,rfl⟩:=str_of h0
 simp only [Sh.In] at h1
 obtain ⟨b,rfl⟩:=h1
 exact ⟨⟨a,b⟩,rfl⟩

theorem Mg.of {A : AV} (h : shMg.In A) : ∃ x : Mg,A = x.av:=by
 unfold Sh.In at h
 simp only [InL] at h
 obtain ⟨_,rfl,_,_,rfl,h0,_,_,rfl,h1,_,_,rfl,h2,_,_,rfl,h3,_,_,rfl,h4,rfl⟩:=h
 obtain ⟨a,rfl⟩:=str_of h0
 obtain ⟨b,rfl⟩:=int_of h1
 obtain ⟨c,rfl⟩:=int_of h2
 obtain ⟨d,rfl⟩:=strs_of h3
 obtain ⟨e,rfl⟩:=Rat.of h4
 exact ⟨⟨a,b,c,d,e⟩,rfl⟩

theorem Pg.of {A : AV} (h : shPg.In A) : ∃ x : Pg,A = x.av:=by
 unfold Sh.In at h
 simp only [InL] at h
 obtain ⟨_,rfl,_,_,rfl,h0,_,_,rfl,h1,_,_,rfl,h2,rfl⟩:=h
 obtain ⟨a,rfl⟩:=str_of h0
 obtain ⟨b,rfl⟩:=str_of h1
 obtain ⟨c,rfl⟩:=sl_of (f:=Mg.av) (fun _ hx=>Mg.of hx) h2
 exact ⟨⟨a,b,c⟩,rfl⟩

theorem Gr.of {A : AV} (h : shGr.In A) : ∃ x : Gr,A = x.av:=by
 unfold Sh.In at h
 simp only [InL] at h
 obtain ⟨_,rfl,_,_,rfl,h0,_,_,rfl,h1,_,_,rfl,h2,_,_,rfl,h3,rfl⟩:=h
 obtain ⟨a,rfl⟩:=str_of h0
 obtain ⟨b,rfl⟩:=int_of h1
 obtain ⟨c,rfl⟩:=strs_of h2
 obtain ⟨d,rfl⟩:=rats_of h3
 exact ⟨⟨a,b,c,d⟩,rfl⟩

theorem Pv.of {A : AV} (h : shPv.In A) : ∃ x : Pv,A = x.av:=by
 unfold Sh.In at h
 simp only [InL] at h
 obtain ⟨_,rfl,_,_,rfl,h0,_,_,rfl,h1,rfl⟩:=h
 obtain ⟨a,rfl⟩:=str_of h0
 obtain ⟨b,rfl⟩:=Rat.of h1
 exact ⟨⟨a,b⟩,rfl⟩

theorem Ph.of {A : AV} (h : shPh.In A) : ∃ x : Ph,A = x.av:=by
 unfold Sh.In at h
 simp only [InL] at h
 obtain ⟨_,rfl,_,_,rfl,h0,_,_,rfl,h1,_,_,rfl,h2,rfl⟩:=h
 obtain ⟨a,rfl⟩:=str_of h0
 obtain ⟨b,rfl⟩:=str_of h1
 obtain ⟨c,rfl⟩:=sl_of (f:=Pv.av) (fun _ hx=>Pv.of hx) h2
 exact ⟨⟨a,b,c⟩,rfl⟩

theorem Md.of {A : AV} (h : shMd.In A) : ∃ x : Md,A = x.av:=by
 unfold Sh.In at h
 simp only [InL] at h
 obtain ⟨_,rfl,_,_,rfl,h0,_,_,rfl,h1,_,_,rfl,h2,_,_,rfl,h3,_,_,rfl,h4,_,_,rfl,h5,_,_,rfl,h6,_,_,rfl,h7,rfl⟩:=h
 obtain ⟨a,rfl⟩:=str_of h0
 obtain ⟨b,rfl⟩:=str_of h1
 obtain ⟨c,rfl⟩:=sl_of (f:=Ev.av) (fun _ hx=>Ev.of hx) h2
 obtain ⟨d,rfl⟩:=sl_of (f:=Hs.av) (fun _ hx=>Hs.of hx) h3
 obtain ⟨e,rfl⟩:=sl_of (f:=Mg.av) (fun _ hx=>Mg.of hx) h4
 obtain ⟨f,rfl⟩:=sl_of (f:=Pg.av) (fun _ hx=>Pg.of hx) h5
 obtain ⟨g,rfl⟩:=sl_of (f:=Gr.av) (fun _ hx=>Gr.of hx) h6
 obtain ⟨i,rfl⟩:=sl_of (f:=Ph.av) (fun _ hx=>Ph.of hx) h7
 exact ⟨⟨a,b,c,d,e,f,g,i⟩,rfl⟩

structure Ak where
 page : Int
 inp : Str
 old : Str
 new : Str


theorem countP_ltD {α : Type} {p q : α → Bool} : ∀ {l : List α},(∀ x ∈ l,p x = true → q x = true) → (∃ y ∈ l,q y = true ∧ p y = false) → l.countP p < l.countP q
 | [],_,h=>by obtain ⟨y,hy,_⟩:=h; simp at hy
 | x :: l,h1,h2=>by
   simp only [List.countP_cons]
   have hle : l.countP p ≤ l.countP q:=List.countP_mono_left fun y hy=>h1 y (by simp [hy])
   obtain ⟨y,hy,hq,hp⟩:=h2
   rcases List.mem_cons.1 hy with rfl | hy
   ·rw [if_pos hq,if_neg (by rw [hp]; simp)]; omega
   ·have ih:=countP_ltD (l:=l) (fun z hz=>h1 z (by simp [hz])) ⟨y,hy,hq,hp⟩
    have:=h1 x (by simp)
    split
    ·rename_i hpx; rw [if_pos (this hpx)]; omega
    ·omega

theorem ok_gateD {m : Md} {x : Node} (h : okN m x) (h2 : x.1 = 2) : x ∈ allNodes m:=by
 rcases h with h | h | h
 ·omega
 ·omega
 ·exact h

theorem rank_bd0 {m : Md} (hc : ClosedM m) {rank : Node → Nat} (hr : RankM m rank) : ∃ rank',RankM m rank' ∧ ∀ x,rank' x ≤ (allNodes m).length:=by
 refine ⟨fun x=>(allNodes m).countP fun z=>decide (rank z < rank x),?_,fun x=>List.countP_le_length⟩
 intro x hx h2 y hy hy2
 have hxa:=(okN_kids hc hx h2)
 have hlt:=hr x hx h2 y hy hy2
 refine countP_ltD (fun z _ h=>?_) ⟨y,?_,?_,?_⟩
 ·have:=of_decide_eq_true h
  exact decide_eq_true (by omega)
 ·exact ok_gateD (hxa.2 y hy) hy2
 ·exact decide_eq_true hlt
 ·exact decide_eq_false (by omega)

theorem rank_bdD {m : Md} (hM : MOk m) : ∃ rank,RankM m rank ∧ ∀ x,lvlD rank x < (allNodes m).length + 2:=by
 obtain ⟨rank,hr⟩:=cyc_rank hM.closed hM.cyc
 obtain ⟨rank',hr',hb⟩:=rank_bd0 hM.closed hr
 refine ⟨rank',hr',fun x=>?_⟩
 have:=hb x
 unfold lvlD
 split <;> omega

def fuelD (m : Md) : Nat:=(allNodes m).length + 2
def isDynG (m : Md) (x : Node) : Bool:=decide ((gateAt m x).kind = 8) || decide ((gateAt m x).kind = 7)

def dynL (m : Md) : List Node → DS → DS
 | [],s=>s
 | x :: l,s=>dynL m l (if isDynG m x = true then (compD m m.evs.length (fuelD m) x s).2 else s)

theorem dynL_cons (m : Md) (x : Node) (l : List Node) (s : DS) : dynL m (x :: l) s = dynL m l (if isDynG m x = true then (compD m m.evs.length (fuelD m) x s).2 else s):=rfl
theorem dynL_nil (m : Md) (s : DS) : dynL m [] s = s:=rfl

def rootD (m : Md) : Int × DS:=compD m m.evs.length (fuelD m) (resR m (-1) m.top) ⟨[],[]⟩
def treeD (m : Md) : Dyn:=⟨m.evs.length,(dynL m (allNodes m) (rootD m).2).gates,(rootD m).1,m.evs.map Ev.fail,m.evs.map Ev.repair⟩
def makeE (m : Md) : Int:=if checkM m ≠ 0 then checkM m else if m.evs.length = 0 then 11 else if 64 < (treeD m).gates.length then 4 else 0

abbrev zDyn : AV:=.ag [.int .i64 0,.nils,.int .i64 0,.nils,.nils]
def makeAV (m : Md) : AV:=if makeE m = 0 then .tup [(treeD m).av,.nilI] else .tup [zDyn,.ifc 111 (.int .i64 (makeE m))]

theorem take_map25 {α β : Type} {f : α → β} {l : List α} {k : Nat} (h : k < l.length) : (l.take (k + 1)).map f = (l.take k).map f ++ [f l[k]]:=by
 rw [List.take_add_one,List.getElem?_eq_getElem h,List.map_append]; rfl
theorem take_len25 {α β : Type} {f : α → β} {l : List α} {k : Nat} (h : k ≤ l.length) : ((l.take k).map f).length = k:=by simp; omega

abbrev xD4 (m : Md) (v top : Int) (s : DS) : AV:=.ag [.int .i64 v,.sl 6 (s.gates.map Gate.av) (.own 4),.int .i64 top,rtL (m.evs.map Ev.fail),rtL (m.evs.map Ev.repair)]

theorem g_gates0 (m : Md) (X : AV) (T M : HO) (a : Int) (h : a = -1 ∨ (0 ≤ a ∧ a < (m.pages.length : Int))) : FnH Tryz.prog 85 [.ptr 1 [] 0,.int .i64 a] (hpF m X T M) (gL (gatesM m a)) (hpF m X T M):=by
 refine FnH.intro lay mixed Tryz.func85 (by kernel_rfl) rfl (by kernel_rfl) rfl fun hok=>?_
 (try dsimp only[argC,succC]);(try dsimp only[awp]);conv=>whnf
 refine And.intro (fun h1=>?_) (fun h1=>?_)
 ·rw [show gatesM m a = m.gates from if_pos h1]
  (try dsimp only[awp]);conv=>whnf
  (refine FinSpec.same ?_;(conv=>whnf);refine ⟨?_,rfl⟩;(conv=>whnf))
  all_goals exact wk
 ·have hb : 0 ≤ a ∧ a < (m.pages.length : Int):=by omega
  rw [show gatesM m a = (m.pages.getD a.toNat default).gates from if_neg h1]
  (try dsimp only[awp]);conv=>whnf
  refine aidxD default hb ?_
  (try dsimp only[awp]);conv=>whnf
  (refine FinSpec.same ?_;(conv=>whnf);refine ⟨?_,rfl⟩;(conv=>whnf))
  all_goals exact wk

theorem g_Make (m : Md) (hC : MdC m) (hB : MdB m) (hX : MdX m) (R : AV) (hR : R = makeAV m) : FnH Tryz.prog 29 [m.av] [] R []:=by
 have cc:=c_mCheck m hC hB _ rfl
 unfold makeAV at hR
 by_cases h0 : checkM m ≠ 0
 ·rw [errAV_ne h0] at cc
  rw [show makeE m = checkM m from if_pos h0,if_neg h0] at hR
  subst hR
  refine FnH.intro lay mixed Tryz.func29 (by kernel_rfl) rfl (by kernel_rfl) rfl fun hok=>?_
  (try dsimp only[argC,succC]);(try dsimp only[awp]);conv=>whnf
  refine .pure _ _ ?_ ⟨rfl,rfl⟩ cc fun _=>?_
  ·exact leL_refl _
  (try dsimp only[awp]);conv=>whnf
  refine fM ?_;(conv=>whnf);refine ⟨?_,rfl⟩;conv=>whnf
  all_goals exact wk
 have hE0:=h0
 have h0 : checkM m = 0:=by simpa using h0
 rw [h0,errAV_zero] at cc
 have hM:=checkM_ok h0
 by_cases h1 : m.evs.length = 0
 ·rw [show makeE m = 11 from (if_neg hE0).trans (if_pos h1),if_neg (show ¬ ((11 : Int) = 0) by decide)] at hR
  subst hR
  refine FnH.intro lay mixed Tryz.func29 (by kernel_rfl) rfl (by kernel_rfl) rfl fun hok=>?_
  (try dsimp only[argC,succC]);(try dsimp only[awp]);conv=>whnf
  refine .pure _ _ ?_ ⟨rfl,rfl⟩ cc fun _=>?_
  ·exact leL_refl _
  (try dsimp only[awp]);conv=>whnf
  refine And.intro (fun _=>?_) (fun h=>absurd (by simp [List.eq_nil_of_length_eq_zero h1]) h)
  (try dsimp only[awp]);conv=>whnf
  refine fM ?_;(conv=>whnf);refine ⟨?_,rfl⟩;conv=>whnf
  all_goals exact wk
 have hE : makeE m = if 64 < (treeD m).gates.length then 4 else 0:=(if_neg hE0).trans (if_neg h1)
 rw [hE] at hR
 have hev:=hM.lens.1
 have hpl:=hB.pages
 obtain ⟨rank,hr,hlv⟩:=rank_bdD hM
 refine FnH.intro lay mixed Tryz.func29 (by kernel_rfl) rfl (by kernel_rfl) rfl fun hok=>?_
 (try dsimp only[argC,succC]);(try dsimp only[awp]);conv=>whnf
 refine .pure _ _ ?_ ⟨rfl,rfl⟩ cc fun _=>?_
 ·exact leL_refl _
 (try dsimp only[awp]);conv=>whnf
 refine And.intro (fun h=>by exfalso; simp at h; exact h1 (by rw [h]; rfl)) (fun _=>?_)
 (try dsimp only[awp]);conv=>whnf
 rw [show (((m.evs.map Ev.av).length : Nat) : Int) = (m.evs.length : Int) by simp]
 generalize hve : (m.evs.length : Int) = ve at *
 refine LoopE.of <| LoopSpec.inv (.growF 3 [1,1] 6 [] _ .nils _ rfl rfl (.inl ⟨rfl,rfl⟩) rfl (.growF 3 [1,3] 3 [] _ .nils _ rfl rfl (.inl ⟨rfl,rfl⟩) rfl (.growF 3 [1,4] 3 [] _ .nils _ rfl rfl (.inl ⟨rfl,rfl⟩) rfl (.refl _ _))))
  (fun (k : Nat)=>k ≤ m.evs.length) (fun k=>[(34,.int .i64 k)])
  (fun k=>[(6,.tok 3 k),(5,.tok 3 k),(4,.tok 6 0),(3,.box (.ag [m.av,.ag [.int .i64 ve,.sl 6 [] (.own 4),.int .i64 0,.sl 3 (((m.evs.take k).map Ev.fail).map Rat.av) (.own 5),.sl 3 (((m.evs.take k).map Ev.repair).map Rat.av) (.own 6)],.mp 2])),(2,.amap shN []),(1,.box zDyn),(0,.box m.av)]) (fun k=>m.evs.length - k) 0 ?_ (fun _=>rfl) ?_ ?_
 ·exact Nat.zero_le _
 ·refine ⟨?_,.mk ?_ (by simp [idsOk])⟩
  ·all_goals exact wk
  ·repeat' first|exact rfl|exact trivial|exact wR|exact lR _|apply aI
   all_goals first | (simp [KSh]; done) | trivial | skip
 intro k hk _
 (try dsimp only[awp]);conv=>whnf
 refine And.intro (fun h=>?_) (fun h=>?_)
 ·have hkl : k < m.evs.length:=by omega
  have ht1:=take_map25 (f:=Ev.fail) hkl
  have ht2:=take_map25 (f:=Ev.repair) hkl
  have hl1:=take_len25 (f:=Ev.fail) hk
  have hl2:=take_len25 (f:=Ev.repair) hk
  obtain ⟨x1,x2,x3⟩:=hX.evs _ (List.getElem_mem hkl)
  (try dsimp only[awp]);conv=>whnf
  refine aidx hkl ?_
  generalize m.evs[k] = x at *
  generalize (m.evs.take k).map Ev.fail = L1 at *
  generalize (m.evs.take k).map Ev.repair = L2 at *
  (try dsimp only[awp]);conv=>whnf
  have e1 : (ve : Int) ≤ 100:=by omega
  refine ADraw.auto (by kernel_rfl) ?_;conv=>whnf
  refine ACallP.pure _ _ ?_ ⟨rfl,rfl⟩ (g_clone _ x2) ?_
  ·exact leL_refl _
  (try dsimp only[awp]);conv=>whnf
  refine ⟨by rw [List.length_map,hl1],.mk (by simp [maxL] <;> omega) (by simp <;> omega) ?_⟩
  (try dsimp only[awp]);conv=>whnf
  refine ACallP.pure _ _ ?_ ⟨rfl,rfl⟩ (g_clone _ x3) ?_
  ·exact leL_refl _
  (try dsimp only[awp]);conv=>whnf
  refine ⟨by rw [List.length_map,hl2],.mk (by simp [maxL] <;> omega) (by simp <;> omega) ?_⟩
  (try dsimp only[awp]);conv=>whnf
  refine zA ?_;conv=>whnf
  refine ⟨k + 1,?_,?_,?_⟩
  ·exact hkl
  ·refine ⟨?_,.mk ?_ (by simp [idsOk])⟩
   ·all_goals exact wk
   ·rw [ht1,ht2]
    repeat' first|exact rfl|exact trivial|exact wR|exact lR _|apply aI
    all_goals first | (show leRL _ (List.map _ (_ ++ [_])); rw [List.map_append]; exact lR _) | (simp [hl1]; done) | (simp [hl2]; done)
  ·omega
 have hkl : k = m.evs.length:=by omega
 subst hkl
 rw [List.take_length]
 have hin:=hM.inOk (.inl rfl) hM.top
 have cf:=g_find m (xD m ve 0 ⟨[],[]⟩) (.tok 6 0) (.amap shN []) (xD_wk _ _ _ _) (tD_wk _) (mD_wk []) (-1) m.top hin.pos (.inl rfl) hin.pg
 have hI0 : DInv m ⟨[],[]⟩:=⟨by simp,by simp,by simp⟩
 have cw:=g_comp m hM hB hX rank hr (fuelD m) (resR m (-1) m.top) 0 ⟨[],[]⟩ hin.ok (hlv _) hI0
 rw [hve] at cw
 have hIr:=(compD_inv hM.closed hr ve (fuelD m) (resR m (-1) m.top) ⟨[],[]⟩ hin.ok hI0).1
 have htr : rootD m = compD m ve (fuelD m) (resR m (-1) m.top) ⟨[],[]⟩:=by unfold rootD; rw [hve]
 rw [← htr] at cw hIr
 generalize hrd : rootD m = rd at *
 obtain ⟨ra,rs⟩:=rd
 dsimp only at hIr cw
 (try dsimp only[awp]);conv=>whnf
 refine .gen _ _ (FnH.frame [2,3,4] cf ⟨rfl,rfl,rfl,rfl⟩ ?_ ?_) fun _=>?_
 ·all_goals exact wk
 ·all_goals exact wk
 (try dsimp only[awp]);conv=>whnf
 refine .gen _ _ (FnH.frame [2,3,4] cw ⟨rfl,rfl,rfl,rfl⟩ ?_ ?_) fun _=>?_
 ·all_goals exact wk
 ·all_goals exact wk
 (try dsimp only[awp]);conv=>whnf
 refine LoopE.of <| LoopSpec.inv (.refl _ _)
  (fun (q : Nat × DS)=>q.1 ≤ m.pages.length + 1 ∧ dynL m (nodesFrom m q.1) q.2 = dynL m (allNodes m) rs ∧ DInv m q.2) (fun q=>[(8,.int .i64 ((q.1 : Int) - 1))])
  (fun q=>[(6,.gone),(5,.gone),(4,.tok 6 q.2.gates.length),(3,.box (.ag [m.av,xD4 m ve ra q.2,.mp 2])),(2,.amap shN (encM q.2.es)),(1,.box zDyn),(0,.box m.av)]) (fun q=>m.pages.length + 1 - q.1) (0,rs) ?_ (fun _=>rfl) ?_ ?_
 ·exact ⟨Nat.zero_le _,rfl,hIr⟩
 ·refine ⟨?_,.mk ?_ (by simp [idsOk])⟩
  ·all_goals exact wk
  ·repeat' first|exact rfl|exact trivial|exact wR|exact lR _|apply aI
   all_goals first | exact leM_rn _ _ | exact leM_nr _ _ | exact leM_rr _ _ _ | exact encM_bnd _ _
 rintro ⟨k,sk⟩ ⟨hk2,hnk,hIk⟩ _
 dsimp only at hk2 hnk hIk
 (try dsimp only[awp]);conv=>whnf
 refine And.intro (fun hp=>?_) (fun hp=>?_)
 ·have hkp : k < m.pages.length + 1:=by simp at hp; omega
  have ha : (k : Int) - 1 = -1 ∨ (0 ≤ (k : Int) - 1 ∧ (k : Int) - 1 < (m.pages.length : Int)):=by omega
  rw [nodesFrom_step hkp] at hnk
  have hgl:=(hB.gatesM ha).1
  have hnx : ((k + 1 : Nat) : Int) - 1 = (k : Int) - 1 + 1:=by omega
  generalize hav : (k : Int) - 1 = a at *
  (try dsimp only[awp]);conv=>whnf
  refine .gen _ _ (FnH.frame [2,3,4] (g_gates0 m (xD m ve ra sk) (.tok 6 sk.gates.length) (.amap shN (encM sk.es)) a ha) ⟨rfl,rfl,rfl,rfl⟩ ?_ ?_) fun _=>?_
  ·repeat' first|exact rfl|exact trivial|exact wR|exact lR _|apply aI
   all_goals first | exact leM_rn _ _ | exact leM_nr _ _ | exact leM_rr _ _ _ | exact encM_bnd _ _
  ·all_goals exact wk
  (try dsimp only[awp]);conv=>whnf
  refine LoopE.of <| LoopSpec.inv (.refl _ _)
   (fun (q : Nat × DS)=>q.1 ≤ (gatesM m a).length ∧ dynL m ((nodesAt m a).drop q.1 ++ nodesFrom m (k + 1)) q.2 = dynL m (allNodes m) rs ∧ DInv m q.2) (fun q=>[(88,.int .i64 (q.1 : Int))])
   (fun q=>[(6,.gone),(5,.gone),(4,.tok 6 q.2.gates.length),(3,.box (.ag [m.av,xD4 m ve ra q.2,.mp 2])),(2,.amap shN (encM q.2.es)),(1,.box zDyn),(0,.box m.av)]) (fun q=>(gatesM m a).length - q.1) (0,sk) ?_ (fun _=>rfl) ?_ ?_
  ·exact ⟨Nat.zero_le _,hnk,hIk⟩
  ·refine ⟨?_,.mk ?_ (by simp [idsOk])⟩
   ·all_goals exact wk
   ·repeat' first|exact rfl|exact trivial|exact wR|exact lR _|apply aI
    all_goals first | exact leM_rn _ _ | exact leM_nr _ _ | exact leM_rr _ _ _ | exact encM_bnd _ _
  rintro ⟨i,si⟩ ⟨hi,hni,hIi⟩ _
  dsimp only at hi hni hIi
  (try dsimp only[awp]);conv=>whnf
  refine And.intro (fun hh=>?_) (fun hh=>?_)
  ·have hil : i < (gatesM m a).length:=by simpa using hh
   rw [drop_of_get? (nodesAt_get hil),List.cons_append] at hni
   rw [dynL_cons] at hni
   have hgt : gateAt m (2,a,(i : Int)) = (gatesM m a)[i]:=getD_lt hil
   have hxa : (2,a,(i : Int)) ∈ allNodes m:=mem_all.2 ⟨rfl,ha,by simp,by simpa using hil⟩
   have cw:=g_comp m hM hB hX rank hr (fuelD m) (2,a,(i : Int)) ra si (.inr (.inr hxa)) (hlv _) hIi
   have hIr:=(compD_inv hM.closed hr ve (fuelD m) (2,a,(i : Int)) si (.inr (.inr hxa)) hIi).1
   rw [hve] at cw hni
   (try dsimp only[awp]);conv=>whnf
   refine aidx hil ?_
   rw [← hgt]
   have hdy : isDynG m (2,a,(i : Int)) = (decide ((gateAt m (2,a,(i : Int))).kind = 8) || decide ((gateAt m (2,a,(i : Int))).kind = 7)):=rfl
   generalize gateAt m (2,a,(i : Int)) = g at *
   generalize hcd : compD m ve (fuelD m) (2,a,(i : Int)) si = rj at *
   obtain ⟨rja,rjs⟩:=rj
   dsimp only at hni hIr cw
   (try dsimp only[awp]);conv=>whnf
   refine And.intro (fun g1=>?_) (fun g1=>?_)
   ·rw [if_pos (by rw [hdy]; simp [g1])] at hni
    (try dsimp only[awp]);conv=>whnf
    refine .gen _ _ (FnH.frame [2,3,4] cw ⟨rfl,rfl,rfl,rfl⟩ ?_ ?_) fun _=>?_
    ·repeat' first|exact rfl|exact trivial|exact wR|exact lR _|apply aI
     all_goals first | exact leM_rn _ _ | exact leM_nr _ _ | exact leM_rr _ _ _ | exact encM_bnd _ _
    ·all_goals exact wk
    (try dsimp only[awp]);conv=>whnf
    refine zA ?_;conv=>whnf
    refine ⟨(i + 1,rjs),?_,?_,?_⟩
    ·exact ⟨hil,hni,hIr⟩
    ·refine ⟨?_,.mk ?_ (by simp [idsOk])⟩
     ·all_goals exact wk
     ·repeat' first|exact rfl|exact trivial|exact wR|exact lR _|apply aI
      all_goals first | exact leM_rn _ _ | exact leM_nr _ _ | exact leM_rr _ _ _ | exact encM_bnd _ _
    ·show (gatesM m a).length - (i + 1) < (gatesM m a).length - i
     omega
   ·(try dsimp only[awp]);conv=>whnf
    refine And.intro (fun g2=>?_) (fun g2=>?_)
    ·rw [if_pos (by rw [hdy]; simp [g2])] at hni
     (try dsimp only[awp]);conv=>whnf
     refine .gen _ _ (FnH.frame [2,3,4] cw ⟨rfl,rfl,rfl,rfl⟩ ?_ ?_) fun _=>?_
     ·repeat' first|exact rfl|exact trivial|exact wR|exact lR _|apply aI
      all_goals first | exact leM_rn _ _ | exact leM_nr _ _ | exact leM_rr _ _ _ | exact encM_bnd _ _
     ·all_goals exact wk
     (try dsimp only[awp]);conv=>whnf
     refine zA ?_;conv=>whnf
     refine ⟨(i + 1,rjs),?_,?_,?_⟩
     ·exact ⟨hil,hni,hIr⟩
     ·refine ⟨?_,.mk ?_ (by simp [idsOk])⟩
      ·all_goals exact wk
      ·repeat' first|exact rfl|exact trivial|exact wR|exact lR _|apply aI
       all_goals first | exact leM_rn _ _ | exact leM_nr _ _ | exact leM_rr _ _ _ | exact encM_bnd _ _
     ·show (gatesM m a).length - (i + 1) < (gatesM m a).length - i
      omega
    ·rw [if_neg (by rw [hdy]; simp [g1,g2])] at hni
     (try dsimp only[awp]);conv=>whnf
     refine zA ?_;conv=>whnf
     refine ⟨(i + 1,si),?_,?_,?_⟩
     ·exact ⟨hil,hni,hIi⟩
     ·refine ⟨?_,.mk ?_ (by simp [idsOk])⟩
      ·all_goals exact wk
      ·repeat' first|exact rfl|exact trivial|exact wR|exact lR _|apply aI
       all_goals first | exact leM_rn _ _ | exact leM_nr _ _ | exact leM_rr _ _ _ | exact encM_bnd _ _ | exact leM_refl _
     ·show (gatesM m a).length - (i + 1) < (gatesM m a).length - i
      omega
  have hil : (nodesAt m a).length ≤ i:=by rw [nodesAt_len]; simpa using hh
  rw [List.drop_eq_nil_of_le hil,List.nil_append] at hni
  (try dsimp only[awp]);conv=>whnf
  refine zA ?_;conv=>whnf
  refine ⟨(k + 1,si),?_,?_,?_⟩
  ·exact ⟨hkp,hni,hIi⟩
  ·refine ⟨?_,.mk ?_ (by simp [idsOk])⟩
   ·repeat' first|exact rfl|exact trivial|exact wR|exact lR _|apply aI
    exact hnx.symm
   ·repeat' first|exact rfl|exact trivial|exact wR|exact lR _|apply aI
    all_goals first | exact leM_rn _ _ | exact leM_nr _ _ | exact leM_rr _ _ _ | exact encM_bnd _ _ | exact leM_refl _
  ·show m.pages.length + 1 - (k + 1) < m.pages.length + 1 - k
   omega
 have hkp : m.pages.length + 1 ≤ k:=by simp at hp; omega
 rw [nodesFrom_end hkp] at hnk
 rw [dynL_nil] at hnk
 have hgs : (treeD m).gates = sk.gates:=by unfold treeD; rw [hrd,hnk]
 have htop : treeD m = ⟨ve,sk.gates,ra,m.evs.map Ev.fail,m.evs.map Ev.repair⟩:=by unfold treeD; rw [hrd,hnk,hve]
 rw [hgs] at hR
 have hsh:=hIk.short hB
 (try dsimp only[awp]);conv=>whnf
 refine And.intro (fun g=>?_) (fun g=>?_)
 ·have g' : 64 < sk.gates.length:=by simp at g; omega
  rw [if_pos g',if_neg (by decide)] at hR
  subst hR
  (try dsimp only[awp]);conv=>whnf
  refine fM ?_;(conv=>whnf);refine ⟨?_,rfl⟩;conv=>whnf
  all_goals exact wk
 ·have g' : ¬ 64 < sk.gates.length:=by simp at g; omega
  rw [if_neg g',if_pos rfl,htop] at hR
  subst hR
  (try dsimp only[awp]);conv=>whnf
  refine fM ?_;(conv=>whnf);refine ⟨?_,rfl⟩;conv=>whnf
  all_goals exact wk





























def spS (g : Mg) : List Str:=if g.kind = 7 then g.ins else []

theorem insErr_spD {m : Md} {a : Int} {g : Mg} : ∀ {l : List Str} {k : Nat} {sp : List Str},(insErr m a g k l sp).1 = 0 →
  (insErr m a g k l sp).2 = sp ++ (if g.kind = 7 then l else []) ∧ (sp.Nodup → (sp ++ (if g.kind = 7 then l else [])).Nodup) ∧ ∀ (j : Nat) (hj : j < l.length),mustEv g (k + j : Nat) = true → 0 ≤ i_event m.evs l[j]
 | [],_,_,_=>⟨by unfold insErr; split <;> simp,fun h=>by split <;> simpa using h,fun j hj _=>by simp at hj⟩
 | s :: l,k,sp,h=>by
   have e : insErr m a g k (s :: l) sp = insErr m a g k (s :: l) sp:=rfl
   conv at e=>rhs; unfold insErr
   rw [e] at h ⊢
   split at h
   ·cases h
   rename_i h1
   rw [if_neg h1] at e ⊢
   split at h
   ·cases h
   rename_i h2
   rw [if_neg h2] at e ⊢
   have up : (∀ (j : Nat) (hj : j < l.length),mustEv g (k + 1 + j : Nat) = true → 0 ≤ i_event m.evs l[j]) → ∀ (j : Nat) (hj : j < (s :: l).length),mustEv g (k + j : Nat) = true → 0 ≤ i_event m.evs (s :: l)[j]:=by
    intro h3 j hj hmu
    cases j with
    | zero =>
      rcases Int.lt_or_le (i_event m.evs s) 0 with e | e
      ·exact absurd ⟨by simpa using hmu,e⟩ h2
      ·exact e
    | succ j=>exact h3 j (by simpa using hj) (by rw [show k + 1 + j = k + (j + 1) by omega]; exact hmu)
   split at h
   ·rename_i h7
    split at h
    ·cases h
    ·rename_i h8
     obtain ⟨i1,i2,i3⟩:=insErr_spD h
     rw [if_pos h7,if_neg h8]
     rw [if_pos h7] at i1 i2 ⊢
     refine ⟨by rw [i1]; simp,fun hn=>?_,up i3⟩
     have : (sp ++ [s]).Nodup:=by
      rw [List.nodup_append]
      refine ⟨hn,by simp,fun x hx y hy=>?_⟩
      simp at hy
      subst hy
      rintro rfl
      exact h8 (List.any_eq_true.2 ⟨x,hx,by simp⟩)
     have:=i2 this
     simpa using this
   ·rename_i h7
    obtain ⟨i1,i2,i3⟩:=insErr_spD h
    rw [if_neg h7]
    rw [if_neg h7] at i1 i2 ⊢
    exact ⟨i1,i2,up i3⟩

theorem gatesIns_spD {m : Md} {a : Int} : ∀ {l : List Mg} {sp : List Str},(gatesIns m a l sp).1 = 0 →
  (gatesIns m a l sp).2 = sp ++ l.flatMap spS ∧ (sp.Nodup → (sp ++ l.flatMap spS).Nodup) ∧ ∀ g ∈ l,∀ (j : Nat) (hj : j < g.ins.length),mustEv g (j : Nat) = true → 0 ≤ i_event m.evs g.ins[j]
 | [],_,_=>⟨by simp [gatesIns],fun h=>by simpa using h,fun g hg=>by simp at hg⟩
 | g :: l,sp,h=>by
   have e : gatesIns m a (g :: l) sp = gatesIns m a (g :: l) sp:=rfl
   conv at e=>rhs; unfold gatesIns
   rw [e] at h ⊢
   split at h
   ·rename_i h1; exact absurd h h1
   rename_i h1
   rw [if_neg h1]
   obtain ⟨i1,i2,i3⟩:=insErr_spD (by simpa using h1)
   obtain ⟨k1,k2,k3⟩:=gatesIns_spD h
   rw [show (if g.kind = 7 then g.ins else []) = spS g from rfl] at i1 i2
   rw [i1] at k1 k2
   refine ⟨by rw [i1,k1]; simp,fun hn=>by have:=k2 (i2 hn); simpa using this,fun x hx=>?_⟩
   rcases List.mem_cons.1 hx with rfl | hx
   ·intro j hj hmu
    exact i3 j hj (by rw [Nat.zero_add]; exact hmu)
   ·exact k3 x hx

theorem insAll_spD {m : Md} : ∀ {l : List Int} {sp : List Str},insAll m l sp = 0 →
  (sp.Nodup → (sp ++ l.flatMap fun a=>(gatesM m a).flatMap spS).Nodup) ∧ ∀ a ∈ l,∀ g ∈ gatesM m a,∀ (j : Nat) (hj : j < g.ins.length),mustEv g (j : Nat) = true → 0 ≤ i_event m.evs g.ins[j]
 | [],_,_=>⟨fun h=>by simpa using h,fun a ha=>by simp at ha⟩
 | a :: l,sp,h=>by
   unfold insAll at h
   split at h
   ·rename_i h1; exact absurd h h1
   rename_i h1
   have h1 : (pageIns m a sp).1 = 0:=by simpa using h1
   have hp : (gatesIns m a (gatesM m a) sp).1 = 0 ∧ pageIns m a sp = gatesIns m a (gatesM m a) sp:=by
    unfold pageIns at h1 ⊢
    split at h1
    ·rename_i h5; exact absurd h1 h5
    rename_i h5
    split at h1
    ·cases h1
    rename_i h6
    exact ⟨by simpa using h5,by rw [if_neg h5,if_neg h6]⟩
   obtain ⟨i1,i2,i3⟩:=gatesIns_spD hp.1
   rw [hp.2,i1] at h
   obtain ⟨k1,k2⟩:=insAll_spD h
   refine ⟨fun hn=>by have:=k1 (i2 hn); simpa using this,fun x hx=>?_⟩
   rcases List.mem_cons.1 hx with rfl | hx
   ·exact i3
   ·exact k2 x hx

theorem range_flat {α β : Type} (d : α) (f : α → List β) (l : List α) : (List.range l.length).flatMap (fun i=>f (l.getD i d)) = l.flatMap f:=by
 have : (List.range l.length).map (fun i=>l.getD i d) = l:=by
  apply List.ext_getElem
  ·simp
  ·intro i h1 h2
   simp at h1
   simp [h1]
 conv=>rhs; rw [← this]
 rw [List.flatMap_map]

theorem nodes_flat (m : Md) : ((allNodes m).flatMap fun x=>spS (gateAt m x)) = (atsM m).flatMap fun a=>(gatesM m a).flatMap spS:=by
 unfold allNodes
 rw [List.flatMap_assoc]
 congr 1
 funext a
 unfold nodesAt
 rw [List.flatMap_map]
 exact range_flat default spS (gatesM m a)

theorem pairwise_sym {α : Type} {R : α → α → Prop} (hs : ∀ a b,R a b → R b a) : ∀ {l : List α},l.Pairwise R → ∀ x ∈ l,∀ y ∈ l,x ≠ y → R x y
 | [],_,x,hx,_,_,_=>by simp at hx
 | z :: l,h,x,hx,y,hy,hn=>by
   rw [List.pairwise_cons] at h
   rcases List.mem_cons.1 hx with hx1 | hx1
   ·rcases List.mem_cons.1 hy with hy1 | hy1
    ·exact absurd (hx1.trans hy1.symm) hn
    ·rw [hx1]; exact h.1 y hy1
   ·rcases List.mem_cons.1 hy with hy1 | hy1
    ·rw [hy1]; exact hs _ _ (h.1 x hx1)
    ·exact pairwise_sym hs h.2 x hx1 y hy1 hn

theorem spares_dis {m : Md} (hM : MOk m) : (∀ x ∈ allNodes m,(spS (gateAt m x)).Nodup) ∧ ∀ x ∈ allNodes m,∀ y ∈ allNodes m,x ≠ y → ∀ s ∈ spS (gateAt m x),∀ t ∈ spS (gateAt m y),s ≠ t:=by
 have h:=(insAll_spD hM.ins).1 (by simp)
 rw [List.nil_append,← nodes_flat] at h
 unfold List.Nodup at h
 rw [List.pairwise_flatMap] at h
 refine ⟨h.1,pairwise_sym (fun a b h s hs t ht e=>h t ht s hs e.symm) h.2⟩

theorem must_evD {m : Md} (hM : MOk m) {a : Int} (ha : a = -1 ∨ (0 ≤ a ∧ a < (m.pages.length : Int))) {g : Mg} (hg : g ∈ gatesM m a) {j : Nat} (hj : j < g.ins.length) (hmu : mustEv g (j : Nat) = true) : 0 ≤ i_event m.evs g.ins[j] :=
 (insAll_spD hM.ins).2 a (ats_mem.2 ha) g hg j hj hmu

theorem ev_okD {m : Md} (h : eventsErr m = 0) {s : Str} (hs : 0 ≤ i_event m.evs s) : nameR s = true:=by
 obtain ⟨i,hi,_,h2⟩:=idx_name hs
 have:=(eventsErr_zero h).2.2.1 i hi
 unfold evErr at this
 split at this
 ·cases this
 rename_i h3
 rw [← h2]
 simpa using h3

theorem ev_resD {m : Md} (hM : MOk m) {a : Int} {s : Str} (hs : 0 ≤ i_event m.evs s) : resR m a s = (0,0,i_event m.evs s):=by
 unfold resR
 rw [if_neg (by rw [name_noAt (ev_okD hM.evs hs)]; simp)]
 unfold resOn
 exact if_pos hs

theorem ev_inj {m : Md} {s t : Str} (hs : 0 ≤ i_event m.evs s) (he : i_event m.evs s = i_event m.evs t) : s = t:=by
 have h1 : (m.evs.getD (i_event m.evs s).toNat default).name = s:=idx_getD (f:=Ev.name) hs
 have h2 : (m.evs.getD (i_event m.evs t).toNat default).name = t:=idx_getD (f:=Ev.name) (show 0 ≤ i_event m.evs t by rw [← he]; exact hs)
 rw [← h1,← h2,he]

theorem twice_no : ∀ {l sp : List Int},l.Nodup → (∀ a ∈ l,a ∉ sp) → twice sp l = false
 | [],_,_,_=>rfl
 | a :: l,sp,h,hd=>by
   rw [List.nodup_cons] at h
   unfold twice
   rw [twice_no h.2 (sp:=sp ++ [a]) (fun b hb=>?_),Bool.or_false]
   ·rw [List.any_eq_false]
    intro y hy
    have:=hd a (by simp)
    simp only [decide_eq_true_eq]
    rintro rfl
    exact this hy
   ·simp only [List.mem_append,List.mem_singleton,not_or]
    exact ⟨hd b (by simp [hb]),fun e=>h.1 (e ▸ hb)⟩

def dv (v : Int) : Dyn:=⟨v,[],0,[],[]⟩
def spAllG (l : List Gate) (sp : List Int) : List Int:=l.foldl (fun sp g=>spAfter g sp) sp

theorem gatesErr_dv (d : Dyn) : ∀ (l : List Gate) (i : Nat) (sp : List Int),gatesErr d l i sp = gatesErr (dv d.vars) l i sp
 | [],_,_=>rfl
 | g :: l,i,sp=>by
   unfold gatesErr
   rw [show gateErr d i g sp = gateErr (dv d.vars) i g sp from rfl,gatesErr_dv d l]

theorem gatesErr_snoc {d : Dyn} {g : Gate} : ∀ {l : List Gate} {i : Nat} {sp : List Int},gatesErr d l i sp = 0 → gateErr d (i + l.length) g (spAllG l sp) = 0 → gatesErr d (l ++ [g]) i sp = 0
 | [],i,sp,_,h=>by
   simp only [List.length_nil,Nat.add_zero] at h
   show (if gateErr d i g sp = 0 then gatesErr d [] (i + 1) (spAfter g sp) else gateErr d i g sp) = 0
   exact (if_pos h).trans rfl
 | x :: l,i,sp,h1,h2=>by
   unfold gatesErr at h1
   split at h1
   ·rename_i h3
    show (if gateErr d i x sp = 0 then gatesErr d (l ++ [g]) (i + 1) (spAfter x sp) else gateErr d i x sp) = 0
    rw [if_pos h3]
    refine gatesErr_snoc h1 ?_
    rw [List.length_cons] at h2
    rw [show i + 1 + l.length = i + (l.length + 1) by omega]
    exact h2
   ·rename_i h3; exact absurd h1 h3

theorem lookO_memD {x : Node} {v : Int} : ∀ {es : Marks},lookO es x = some v → (x,v) ∈ es
 | [],h=>by cases h
 | (y,u) :: es,h=>by
   simp only [lookO] at h
   split at h
   ·rename_i e; obtain rfl:=Option.some.inj h; simp [e]
   ·simp [lookO_memD h]

structure TInv (m : Md) (ve : Int) (s : DS) : Prop where
 ok : gatesErr (dv ve) s.gates 0 [] = 0
 val : ∀ e ∈ s.es,0 ≤ e.2 ∧ e.2 < ve + s.gates.length
 sp : ∀ a ∈ spAllG s.gates [],∃ y ∈ allNodes m,lookO s.es y ≠ none ∧ ∃ t ∈ spS (gateAt m y),a = i_event m.evs t
 dorm : ∀ g ∈ s.gates,g.dorm = zq ∨ ∃ y ∈ allNodes m,g.dorm = (gateAt m y).dorm

theorem spAllG_snoc (l : List Gate) (g : Gate) (sp : List Int) : spAllG (l ++ [g]) sp = spAfter g (spAllG l sp):=by
 unfold spAllG; rw [List.foldl_append]; rfl

theorem TInv.pushG {m : Md} {ve : Int} {s : DS} (h : TInv m ve s) {g : Gate} (hg : gateErr (dv ve) s.gates.length g (spAllG s.gates []) = 0) (h7 : g.kind ≠ 7) (hd : g.dorm = zq ∨ ∃ y ∈ allNodes m,g.dorm = (gateAt m y).dorm) : TInv m ve ⟨s.gates ++ [g],s.es⟩:=by
 refine ⟨gatesErr_snoc h.ok (by rw [Nat.zero_add]; exact hg),fun e he=>?_,?_,fun x hx=>?_⟩
 ·have:=h.val e he
  dsimp only
  rw [List.length_append,List.length_singleton]
  omega
 ·dsimp only
  rw [spAllG_snoc,spAfter,if_neg h7]
  exact h.sp
 ·rcases List.mem_append.1 hx with hx | hx
  ·exact h.dorm x hx
  ·simp at hx; subst hx; exact hd

theorem TInv.pushM {m : Md} {ve : Int} {s : DS} (h : TInv m ve s) (hv : 0 ≤ ve) {g : Gate} {x : Node} (hx : lookO s.es x = none) (hg : gateErr (dv ve) s.gates.length g (spAllG s.gates []) = 0)
  (h7 : g.kind = 7 → x ∈ allNodes m ∧ ∀ a ∈ g.args,∃ t ∈ spS (gateAt m x),a = i_event m.evs t) (hd : g.dorm = zq ∨ ∃ y ∈ allNodes m,g.dorm = (gateAt m y).dorm) : TInv m ve ⟨s.gates ++ [g],mark s.es x (ve + s.gates.length)⟩:=by
 refine ⟨gatesErr_snoc h.ok (by rw [Nat.zero_add]; exact hg),fun e he=>?_,?_,fun x hx=>?_⟩
 ·dsimp only at he ⊢
  rw [(mark_new hx).1] at he
  rw [List.length_append,List.length_singleton]
  rcases List.mem_append.1 he with he | he
  ·have:=h.val e he; omega
  ·simp at he; subst he; dsimp only; omega
 ·have up : ∀ a,(∃ y ∈ allNodes m,lookO s.es y ≠ none ∧ ∃ t ∈ spS (gateAt m y),a = i_event m.evs t) → ∃ y ∈ allNodes m,lookO (mark s.es x (ve + s.gates.length)) y ≠ none ∧ ∃ t ∈ spS (gateAt m y),a = i_event m.evs t:=by
   rintro a ⟨y,h1,h2,h3⟩
   refine ⟨y,h1,?_,h3⟩
   rw [lookO_mark]
   split
   ·simp
   ·exact h2
  dsimp only
  rw [spAllG_snoc,spAfter]
  intro a ha
  split at ha
  ·rename_i h0
   rcases List.mem_append.1 ha with ha | ha
   ·exact up a (h.sp a ha)
   ·obtain ⟨h1,h2⟩:=h7 h0
    refine ⟨x,h1,?_,h2 a ha⟩
    rw [lookO_mark,if_pos rfl]; simp
  ·exact up a (h.sp a ha)
 ·rcases List.mem_append.1 hx with hx | hx
  ·exact h.dorm x hx
  ·simp at hx; subst hx; exact hd

theorem gate_good {m : Md} (hM : MOk m) {s : DS} {x : Node} (hx : x ∈ allNodes m) (hn : lookO s.es x = none) (hT : TInv m m.evs.length s) {bs : List Int} (hl : bs.length = (kidsM m x).length)
  (h0 : ∀ (j : Nat) (h : j < (kidsM m x).length),(kidsM m x)[j].1 = 0 → bs[j]? = some (kidsM m x)[j].2.2) (hb : ∀ b ∈ bs,0 ≤ b ∧ b < (m.evs.length : Int) + s.gates.length) :
  gateErr (dv m.evs.length) s.gates.length ⟨(gateAt m x).kind,(gateAt m x).k,bs,(gateAt m x).dorm⟩ (spAllG s.gates []) = 0 ∧ ((gateAt m x).kind = 7 → ∀ a ∈ bs,∃ t ∈ spS (gateAt m x),a = i_event m.evs t):=by
 obtain ⟨_,hpg,hix⟩:=mem_all.1 hx
 have hil : x.2.2.toNat < (gatesM m x.2.1).length:=by omega
 have hge : gateAt m x = (gatesM m x.2.1)[x.2.2.toNat]:=getD_lt hil
 have hgm : gateAt m x ∈ gatesM m x.2.1:=by rw [hge]; exact List.getElem_mem hil
 have hown : mgErr (gateAt m x) = 0:=by rw [hge]; exact (hM.gate hpg hil).own
 have hkl : (kidsM m x).length = (gateAt m x).ins.length:=by simp [kidsM]
 have hev : ∀ (j : Nat) (hj : j < (gateAt m x).ins.length),mustEv (gateAt m x) (j : Nat) = true → 0 ≤ i_event m.evs (gateAt m x).ins[j] ∧ bs[j]? = some (i_event m.evs (gateAt m x).ins[j]):=by
  intro j hj hmu
  have h1:=must_evD hM hpg hgm hj hmu
  have h2 : (kidsM m x)[j]'(by omega) = (0,0,i_event m.evs (gateAt m x).ins[j]):=by
   have : (kidsM m x)[j]'(by omega) = resR m x.2.1 (gateAt m x).ins[j]:=by simp [kidsM]
   rw [this,ev_resD hM h1]
  refine ⟨h1,?_⟩
  have:=h0 j (by omega) (by rw [h2])
  rw [this,h2]
 have hall7 : (gateAt m x).kind = 7 → bs = (gateAt m x).ins.map (i_event m.evs) ∧ ∀ s ∈ (gateAt m x).ins,0 ≤ i_event m.evs s:=by
  intro h7
  have hm7 : ∀ j : Nat,mustEv (gateAt m x) (j : Nat) = true:=fun j=>by simp [mustEv,h7]
  constructor
  ·apply List.ext_getElem?
   intro j
   by_cases hj : j < (gateAt m x).ins.length
   ·rw [(hev j hj (hm7 j)).2,List.getElem?_map,List.getElem?_eq_getElem hj]; rfl
   ·rw [List.getElem?_eq_none (by omega),List.getElem?_eq_none (by simp; omega)]
  ·intro s hs
   obtain ⟨j,hj,rfl⟩:=List.getElem_of_mem hs
   exact (hev j hj (hm7 j)).1
 have hevl : ∀ s : Str,i_event m.evs s < (m.evs.length : Int):=fun s=>idxP_lt _ _
 obtain ⟨hd1,hd2⟩:=spares_dis hM
 have hspS : (gateAt m x).kind = 7 → spS (gateAt m x) = (gateAt m x).ins:=fun h=>if_pos h
 have hsub : (gateAt m x).kind = 7 → ∀ a ∈ bs,∃ t ∈ spS (gateAt m x),a = i_event m.evs t:=by
  intro h7 a ha
  rw [(hall7 h7).1] at ha
  obtain ⟨t,ht,rfl⟩:=List.mem_map.1 ha
  exact ⟨t,by rw [hspS h7]; exact ht,rfl⟩
 refine ⟨?_,hsub⟩
 generalize hgx : gateAt m x = g at *
 unfold mgErr at hown
 split at hown
 ·cases hown
 rename_i n1
 split at hown
 ·cases hown
 rename_i n2
 split at hown
 ·cases hown
 rename_i n3
 split at hown
 ·cases hown
 rename_i n4
 split at hown
 ·cases hown
 rename_i n5
 split at hown
 ·cases hown
 rename_i n6
 split at hown
 ·cases hown
 rename_i n7
 have hbl : bs.length = g.ins.length:=by omega
 have fin : ∀ (a1 : ¬ (bs.any fun a=>decide (a < 0) || decide ((m.evs.length : Int) + s.gates.length ≤ a)) = true)
   (a2 : ¬ ((g.kind = 7 ∧ (bs.any fun a=>decide ((m.evs.length : Int) ≤ a)) = true) ∨ (g.kind = 8 ∧ ((bs.drop 1).any fun a=>decide ((m.evs.length : Int) ≤ a)) = true)))
   (a3 : ¬ (g.kind = 7 ∧ twice (spAllG s.gates []) bs = true)),gateErr (dv m.evs.length) s.gates.length ⟨g.kind,g.k,bs,g.dorm⟩ (spAllG s.gates []) = 0:=by
  intro a1 a2 a3
  exact (if_neg n1).trans ((if_neg n2).trans ((if_neg (by show ¬ argsR g.kind bs.length = false; rw [hbl]; exact n3)).trans ((if_neg a1).trans ((if_neg a2).trans ((if_neg a3).trans
   ((if_neg (by show ¬ (g.kind = 2 ∧ (g.k < 1 ∨ (bs.length : Int) < g.k)); rw [hbl]; exact n4)).trans ((if_neg n5).trans ((if_neg n6).trans (if_neg n7)))))))))
 refine fin ?_ ?_ ?_
 rotate_left 2
 ·rintro ⟨h7,ht⟩
  obtain ⟨hbs,hpos⟩:=hall7 h7
  rw [twice_no] at ht
  ·cases ht
  ·rw [hbs]
   have hnd:=hd1 x hx
   rw [hgx,hspS h7] at hnd
   unfold List.Nodup at hnd ⊢
   rw [List.pairwise_map]
   refine hnd.imp_of_mem fun {a b} ha hb hab e=>hab (ev_inj (hpos a ha) e)
  ·intro a ha hsp
   obtain ⟨y,hy,hyn,t,ht2,hat⟩:=hT.sp a hsp
   obtain ⟨s2,hs2,has⟩:=hsub h7 a ha
   have hxy : y ≠ x:=by rintro rfl; exact hyn hn
   have:=hd2 y hy x hx hxy t ht2 s2 (by rw [hgx]; exact hs2)
   rw [hspS h7] at hs2
   exact this ((ev_inj (hpos s2 hs2) (has.symm.trans hat)).symm)
 ·rw [Bool.not_eq_true,List.any_eq_false]
  intro a ha
  have:=hb a ha
  simp; omega
 ·rintro (⟨h7,h⟩ | ⟨h8,h⟩)
  ·obtain ⟨b,hb1,hb2⟩:=List.any_eq_true.1 h
   rw [(hall7 h7).1] at hb1
   obtain ⟨t,ht,rfl⟩:=List.mem_map.1 hb1
   have:=hevl t
   simp at hb2; omega
  ·obtain ⟨b,hb1,hb2⟩:=List.any_eq_true.1 h
   obtain ⟨j,hj,rfl⟩:=List.getElem_of_mem hb1
   simp only [List.length_drop] at hj
   have hj2 : 1 + j < g.ins.length:=by omega
   obtain ⟨h1,h2⟩:=hev (1 + j) hj2 (by simp [mustEv,h8]; omega)
   rw [List.getElem?_eq_getElem (by omega)] at h2
   have h2:=Option.some.inj h2
   have:=hevl g.ins[1 + j]
   simp only [List.getElem_drop,h2] at hb2
   simp at hb2; omega

theorem good_of {ve : Int} {n : Nat} {sp : List Int} {k : Int} {al : List Int} (h1 : 0 ≤ k ∧ k ≤ 8) (h2 : argsR k al.length = true) (h3 : ∀ a ∈ al,0 ≤ a ∧ a < ve + n) (h7 : k ≠ 7) (h8 : k ≠ 8) (hk : k ≠ 2) : gateErr (dv ve) n ⟨k,0,al,zq⟩ sp = 0:=by
 have a1 : ¬ (al.any fun a=>decide (a < 0) || decide (ve + (n : Int) ≤ a)) = true:=by
  rw [Bool.not_eq_true,List.any_eq_false]
  intro a ha
  have:=h3 a ha
  simp; omega
 have hz : zeroR zq = true:=rfl
 exact (if_neg (by show ¬ k < 0; omega)).trans ((if_neg (by show ¬ 8 < k; omega)).trans ((if_neg (by show ¬ argsR k al.length = false; rw [h2]; simp)).trans ((if_neg a1).trans ((if_neg (by rintro (h | h); exact h7 h.1; exact h8 h.1)).trans ((if_neg (fun h=>h7 h.1)).trans
  ((if_neg (fun h=>hk h.1)).trans ((if_neg (fun h=>h.2 rfl)).trans ((if_neg (fun h=>h7 h.1)).trans (if_neg (fun h=>by have:=h.2; rw [show (⟨k,0,al,zq⟩ : Gate).dorm = zq from rfl,hz] at this; cases this))))))))))

theorem house_good {ve : Int} (hv : 1 ≤ ve) (n : Nat) (sp : List Int) : gateErr (dv ve) n ⟨3,0,[0],zq⟩ sp = 0 :=
 good_of (by decide) rfl (fun a ha=>by simp at ha; omega) (by decide) (by decide) (by decide)

theorem house_good2 {ve : Int} (hv : 1 ≤ ve) (on : Bool) (n : Nat) (sp : List Int) : gateErr (dv ve) (n + 1) ⟨if on = true then 1 else 0,0,[0,ve + n],zq⟩ sp = 0:=by
 refine good_of ?_ ?_ (fun a ha=>?_) ?_ ?_ ?_
 ·cases on <;> decide
 ·cases on <;> rfl
 ·simp at ha; omega
 all_goals cases on <;> decide

theorem house_T {m : Md} {ve : Int} (hv : 1 ≤ ve) {s : DS} (hT : TInv m ve s) {x : Node} (hn : lookO s.es x = none) (on : Bool) :
  TInv m ve ⟨s.gates ++ houseG on (ve + s.gates.length),mark s.es x (ve + s.gates.length + 1)⟩:=by
 have t1:=hT.pushG (g:=⟨3,0,[0],zq⟩) (house_good hv _ _) (by simp) (.inl rfl)
 have t2:=t1.pushM (by omega) (g:=⟨if on = true then 1 else 0,0,[0,ve + s.gates.length],zq⟩) (x:=x) hn (by rw [List.length_append,List.length_singleton]; exact house_good2 hv on _ _)
  (fun h=>by cases on <;> simp at h) (.inl rfl)
 dsimp only at t2
 rw [List.append_assoc,List.length_append,List.length_singleton] at t2
 have e : ve + ((s.gates.length + 1 : Nat) : Int) = ve + s.gates.length + 1:=by omega
 rw [e] at t2
 exact t2

theorem compD_T {m : Md} (hM : MOk m) (hv : 1 ≤ m.evs.length) {rank : Node → Nat} (hr : RankM m rank) : ∀ (n : Nat) (x : Node) (s : DS),okN m x → lvlD rank x < n → DInv m s → TInv m m.evs.length s →
  TInv m m.evs.length (compD m m.evs.length n x s).2 ∧ s.gates.length ≤ (compD m m.evs.length n x s).2.gates.length ∧
  (0 ≤ (compD m m.evs.length n x s).1 ∧ (compD m m.evs.length n x s).1 < (m.evs.length : Int) + (compD m m.evs.length n x s).2.gates.length) ∧ (x.1 = 0 → (compD m m.evs.length n x s).1 = x.2.2):=by
 intro n
 induction n with
 | zero=>intro x s _ h; omega
 | succ n ih =>
   intro x st hx hn hI hT
   have hcl:=hM.closed
   unfold compD
   split
   ·rename_i h0
    refine ⟨hT,Nat.le_refl _,?_,fun _=>rfl⟩
    rcases hx with h | h | h
    ·have:=h.2.2; dsimp only; omega
    ·omega
    ·have:=(mem_all.1 h).1; omega
   rename_i h0
   split
   ·rename_i a ha
    have:=hT.val _ (lookO_memD ha)
    exact ⟨hT,Nat.le_refl _,this,fun h=>absurd h h0⟩
   rename_i hno
   split
   ·refine ⟨house_T (by omega) hT hno _,by dsimp only; rw [List.length_append]; omega,?_,fun h=>absurd h h0⟩
    dsimp only
    rw [List.length_append,show (houseG (houseAt m x).on ((m.evs.length : Int) + st.gates.length)).length = 2 from rfl]
    omega
   rename_i h1
   have h2 : x.1 = 2:=by
    rcases hx with h | h | h
    ·omega
    ·omega
    ·exact (mem_all.1 h).1
   obtain ⟨hxa,hk⟩:=okN_kids hcl hx h2
   have hlv : rank x < n:=by unfold lvlD at hn; rw [if_pos h2] at hn; omega
   have hInv:=compD_inv hcl hr m.evs.length n
   have key : ∀ (l : List Node) (s : DS) (acc : List Int),(∀ y ∈ l,okN m y ∧ (y.1 = 2 → rank y < rank x)) → DInv m s → TInv m m.evs.length s → ∃ bs,(compDL (compD m m.evs.length n) l s acc).1 = acc ++ bs ∧ bs.length = l.length ∧
     (∀ (j : Nat) (h : j < l.length),l[j].1 = 0 → bs[j]? = some l[j].2.2) ∧ (∀ b ∈ bs,0 ≤ b ∧ b < (m.evs.length : Int) + (compDL (compD m m.evs.length n) l s acc).2.gates.length) ∧
     TInv m m.evs.length (compDL (compD m m.evs.length n) l s acc).2 ∧ s.gates.length ≤ (compDL (compD m m.evs.length n) l s acc).2.gates.length ∧
     ∀ z : Node,z.1 = 2 → rank x ≤ rank z → lookO s.es z = none → lookO (compDL (compD m m.evs.length n) l s acc).2.es z = none:=by
    intro l
    induction l with
    | nil=>intro s acc _ _ h; exact ⟨[],by simp [compDL],rfl,fun j hj=>by simp at hj,fun b hb=>by simp at hb,h,Nat.le_refl _,fun _ _ _ h=>h⟩
    | cons y l ihl =>
      intro s acc hl hI hT
      obtain ⟨hy,hyr⟩:=hl y (by simp)
      obtain ⟨hI',g'⟩:=hInv y s hy hI
      obtain ⟨t1,t2,t3,t4⟩:=ih y s hy (by unfold lvlD; split <;> first | (rename_i e; have:=hyr e; omega) | omega) hI hT
      obtain ⟨bs,b1,b2,b3,b4,b5,b6,b7⟩:=ihl (compD m m.evs.length n y s).2 (acc ++ [(compD m m.evs.length n y s).1]) (fun z hz=>hl z (by simp [hz])) hI' t1
      rw [show compDL (compD m m.evs.length n) (y :: l) s acc = compDL (compD m m.evs.length n) l (compD m m.evs.length n y s).2 (acc ++ [(compD m m.evs.length n y s).1]) from rfl]
      refine ⟨(compD m m.evs.length n y s).1 :: bs,by rw [b1]; simp,by simp [b2],?_,?_,b5,by omega,fun z hz hxz hs=>b7 z hz hxz (g' z hz (fun e=>by have:=hyr e; omega) hs)⟩
      ·intro j hj hz
       cases j with
       | zero=>exact congrArg some (t4 hz)
       | succ j=>exact b3 j (by simpa using hj) hz
      ·intro b hb
       rcases List.mem_cons.1 hb with rfl | hb
       ·omega
       ·exact b4 b hb
   obtain ⟨bs,b1,b2,b3,b4,b5,b6,b7⟩:=key (kidsM m x) st [] (fun y hy=>⟨hk y hy,hr x hx h2 y hy⟩) hI hT
   have hno2:=b7 x h2 (Nat.le_refl _) hno
   rw [List.nil_append] at b1
   obtain ⟨g1,g2⟩:=gate_good hM hxa hno2 b5 b2 b3 b4
   rw [b1]
   refine ⟨b5.pushM (by omega) hno2 g1 (fun h7=>⟨hxa,g2 h7⟩) (.inr ⟨x,hxa,rfl⟩),by dsimp only; rw [List.length_append]; omega,?_,fun h=>absurd h h0⟩
   dsimp only
   rw [List.length_append,List.length_singleton]
   omega

theorem dynL_T {m : Md} (hM : MOk m) (hv : 1 ≤ m.evs.length) {rank : Node → Nat} (hr : RankM m rank) (hlv : ∀ x,lvlD rank x < fuelD m) : ∀ (l : List Node) (s : DS),(∀ x ∈ l,x ∈ allNodes m) → DInv m s → TInv m m.evs.length s →
  TInv m m.evs.length (dynL m l s) ∧ s.gates.length ≤ (dynL m l s).gates.length
 | [],s,_,_,h=>⟨h,Nat.le_refl _⟩
 | x :: l,s,hl,hI,hT=>by
   rw [dynL_cons]
   have hx : okN m x:=.inr (.inr (hl x (by simp)))
   split
   ·obtain ⟨t1,t2,_,_⟩:=compD_T hM hv hr (fuelD m) x s hx (hlv x) hI hT
    obtain ⟨k1,k2⟩:=dynL_T hM hv hr hlv l _ (fun y hy=>hl y (by simp [hy])) (compD_inv hM.closed hr _ _ x s hx hI).1 t1
    exact ⟨k1,by omega⟩
   ·exact dynL_T hM hv hr hlv l s (fun y hy=>hl y (by simp [hy])) hI hT

theorem tree_T {m : Md} (hM : MOk m) (hv : 1 ≤ m.evs.length) : gatesErr (treeD m) (treeD m).gates 0 [] = 0 ∧ (0 ≤ (treeD m).top ∧ (treeD m).top < (m.evs.length : Int) + (treeD m).gates.length) ∧ ∀ g ∈ (treeD m).gates,g.dorm = zq ∨ ∃ y ∈ allNodes m,g.dorm = (gateAt m y).dorm:=by
 obtain ⟨rank,hr,hlv⟩:=rank_bdD hM
 have hin:=hM.inOk (.inl rfl) hM.top
 have hI0 : DInv m ⟨[],[]⟩:=⟨by simp,by simp,by simp⟩
 have hT0 : TInv m m.evs.length ⟨[],[]⟩:=⟨rfl,fun e he=>by simp at he,fun a ha=>by simp [spAllG] at ha,fun g hg=>by simp at hg⟩
 obtain ⟨t1,t2,t3,t4⟩:=compD_T hM hv hr (fuelD m) (resR m (-1) m.top) ⟨[],[]⟩ hin.ok (hlv _) hI0 hT0
 obtain ⟨k1,k2⟩:=dynL_T hM hv hr hlv (allNodes m) _ (fun _ h=>h) (compD_inv hM.closed hr m.evs.length (fuelD m) (resR m (-1) m.top) ⟨[],[]⟩ hin.ok hI0).1 t1
 refine ⟨?_,?_,k1.dorm⟩
 ·rw [gatesErr_dv]; exact k1.ok
 ·show 0 ≤ (compD m m.evs.length (fuelD m) (resR m (-1) m.top) ⟨[],[]⟩).1 ∧ (compD m m.evs.length (fuelD m) (resR m (-1) m.top) ⟨[],[]⟩).1 < (m.evs.length : Int) + (dynL m (allNodes m) (compD m m.evs.length (fuelD m) (resR m (-1) m.top) ⟨[],[]⟩).2).gates.length
  omega

theorem tree_ok {m : Md} (h : makeE m = 0) : checkR (treeD m) = 0:=by
 unfold makeE at h
 split at h
 ·rename_i h1; exact absurd h h1
 rename_i h1
 have hM:=checkM_ok (by simpa using h1)
 split at h
 ·cases h
 rename_i h2
 split at h
 ·cases h
 rename_i h3
 obtain ⟨g1,g2,_⟩:=tree_T hM (by omega)
 have hev:=hM.lens.1
 have hra : ∀ x ∈ m.evs,badRat x.fail = false ∧ badRat x.repair = false:=by
  intro x hx
  obtain ⟨i,hi,rfl⟩:=List.getElem_of_mem hx
  have:=(eventsErr_zero hM.evs).2.2.1 i hi
  unfold evErr at this
  split at this
  ·cases this
  split at this
  ·cases this
  split at this
  ·cases this
  split at this
  ·cases this
  rename_i r1
  split at this
  ·cases this
  rename_i r2
  have key : ∀ y,¬ rateB y = false → badRat y = false:=by
   intro y hy
   simp [rateB] at hy
   simp [badRat,hy.1]
   exact hy.2
  exact ⟨key _ r1,key _ r2⟩
 have hvs : (treeD m).vars = (m.evs.length : Int):=rfl
 have hf : (treeD m).fail = m.evs.map Ev.fail:=rfl
 have hre : (treeD m).repair = m.evs.map Ev.repair:=rfl
 unfold checkR
 rw [hvs,hf,hre,g1,if_neg (by omega),if_neg (by omega),if_neg h3,if_neg (by simp),if_neg (by simp),if_neg,if_neg (by simp),if_neg (by omega),if_neg (by omega)]
 intro h
 simp only [Bool.or_eq_true,List.any_eq_true,List.mem_map] at h
 rcases h with ⟨y,⟨x,hx,rfl⟩,hb⟩ | ⟨y,⟨x,hx,rfl⟩,hb⟩
 ·rw [(hra x hx).1] at hb; cases hb
 ·rw [(hra x hx).2] at hb; cases hb

theorem one : OneC:=r_of

theorem treeC {m : Md} (hC : MdC m) (hM : MOk m) (hv : 1 ≤ m.evs.length) : DynC (treeD m):=by
 refine ⟨fun x hx=>?_,fun x hx=>?_,fun g hg=>?_⟩
 ·obtain ⟨y,hy,rfl⟩:=List.mem_map.1 hx
  exact (hC.evs y hy).2.1
 ·obtain ⟨y,hy,rfl⟩:=List.mem_map.1 hx
  exact (hC.evs y hy).2.2
 ·rcases (tree_T hM hv).2.2 g hg with h | ⟨y,hy,h⟩
  ·rw [h]; exact ratC_zero
  ·rw [h]
   obtain ⟨_,hpg,hix⟩:=mem_all.1 hy
   exact hC.gatesM hpg _ (by show (gatesM m y.2.1).getD y.2.2.toNat default ∈ _; exact getD_mem (by omega))


structure NdOk (v : Int) (i : Nat) (x : Nd) : Prop where
 kind : 0 ≤ x.kind ∧ x.kind ≤ 5
 num : if x.kind = 0 then x.args.length = 0 else if x.kind = 1 then x.args.length = 1 else 1 ≤ x.args.length ∧ x.args.length ≤ 16
 args : ∀ a ∈ x.args,0 ≤ a ∧ a < v + i
 k : if x.kind = 0 then x.k = 0 ∨ x.k = 1 else if x.kind = 4 then 1 ≤ x.k ∧ x.k ≤ x.args.length else x.k = 0

structure FOk (f : Fo) : Prop where
 vars : 0 ≤ f.vars ∧ f.vars ≤ 24
 len : f.nodes.length ≤ 128
 nodes : ∀ (i : Nat) (h : i < f.nodes.length),NdOk f.vars i f.nodes[i]
 top : 0 ≤ f.top ∧ f.top < f.vars + f.nodes.length

theorem c_farguments (x : Nd) (v : Int) (i : Nat) (h : NdOk v i x) : FnH Tryz.prog 250 [.int .i64 x.kind,.int .i64 x.args.length] [] .tt []:=by
 have h2:=h.num
 refine FnH.intro lay mixed Tryz.func250 (by kernel_rfl) rfl (by kernel_rfl) rfl fun hok=>?_
 (try dsimp only[argC,succC]);(try dsimp only[awp]);conv=>whnf
 refine And.intro (fun g=>?_) (fun g=>?_)
 ·rw [if_pos g] at h2
  (try dsimp only[awp]);conv=>whnf
  refine fM ?_;(conv=>whnf);refine ⟨?_,rfl⟩;conv=>whnf
  show (x.args.length : Int) = 0
  omega
 rw [if_neg g] at h2
 (try dsimp only[awp]);conv=>whnf
 refine And.intro (fun g=>?_) (fun g=>?_)
 ·rw [if_pos g] at h2
  (try dsimp only[awp]);conv=>whnf
  refine fM ?_;(conv=>whnf);refine ⟨?_,rfl⟩;conv=>whnf
  show (x.args.length : Int) = 1
  omega
 rw [if_neg g] at h2
 (try dsimp only[awp]);conv=>whnf
 refine And.intro (fun g=>?_) (fun g=>by exfalso; omega)
 (try dsimp only[awp]);conv=>whnf
 refine fM ?_;(conv=>whnf);refine ⟨?_,rfl⟩;conv=>whnf
 show (x.args.length : Int) ≤ 16
 omega

theorem c_fcheckNode (f : Fo) (hv : 0 ≤ f.vars ∧ f.vars ≤ 24) (i : Nat) (hi : i < f.nodes.length) (hl : f.nodes.length ≤ 128) (h : NdOk f.vars i f.nodes[i]) : FnH Tryz.prog 186 [f.av,.int .i64 i] [] .nilI []:=by
 have ca:=c_farguments _ _ _ h
 obtain ⟨h1,h2,h3,h4⟩:=h
 have hal : f.nodes[i].args.length ≤ 16:=by
  split at h2
  ·omega
  ·split at h2 <;> omega
 refine FnH.intro lay mixed Tryz.func186 (by kernel_rfl) rfl (by kernel_rfl) rfl fun hok=>?_
 (try dsimp only[argC,succC]);(try dsimp only[awp]);conv=>whnf
 refine aidx hi ?_
 generalize f.nodes[i] = x at *
 (try dsimp only[awp]);conv=>whnf
 refine And.intro (fun g=>by exfalso; omega) (fun g=>?_)
 (try dsimp only[awp]);conv=>whnf
 refine And.intro (fun g=>by exfalso; omega) (fun g=>?_)
 (try dsimp only[awp]);conv=>whnf
 rw [show (((x.args.map (AV.int .i64)).length : Nat) : Int) = (x.args.length : Int) by simp]
 refine .pure _ _ ?_ ⟨rfl,rfl⟩ ca fun _=>?_
 ·all_goals exact wk
 (try dsimp only[awp]);conv=>whnf
 refine LoopE.of <| LoopSpec.inv (.refl _ _) (fun (j : Nat)=>j ≤ x.args.length) (fun (j : Nat)=>[(33,.int .i64 j)]) (fun _=>_) (fun (j : Nat)=>x.args.length - j) 0 ?_ (fun _=>rfl) ?_ ?_
 ·exact Nat.zero_le _
 ·all_goals exact wk
 intro j hj _
 (try dsimp only[awp]);conv=>whnf
 refine And.intro (fun g1=>?_) (fun g1=>?_)
 ·have hjl : j < x.args.length:=by simpa using g1
  have ha:=h3 _ (List.getElem_mem hjl)
  (try dsimp only[awp]);conv=>whnf
  refine aidx hjl ?_
  generalize x.args[j] = a at *
  (try dsimp only[awp]);conv=>whnf
  refine And.intro (fun g=>by exfalso; omega) (fun g=>?_)
  (try dsimp only[awp]);conv=>whnf
  refine zA ?_;conv=>whnf
  refine And.intro (fun g=>by exfalso; omega) (fun g=>?_)
  (try dsimp only[awp]);conv=>whnf
  refine zA ?_;conv=>whnf
  refine ⟨j + 1,?_,?_,?_⟩
  ·exact hjl
  ·all_goals exact wk
  ·omega
 (try dsimp only[awp]);conv=>whnf
 refine And.intro (fun g=>?_) (fun g=>?_)
 ·rw [if_pos g] at h4
  (try dsimp only[awp]);conv=>whnf
  refine And.intro (fun g=>?_) (fun g=>?_)
  ·(try dsimp only[awp]);conv=>whnf
   refine And.intro (fun g=>by exfalso; omega) (fun g=>?_)
   (try dsimp only[awp]);conv=>whnf
   refine fM ?_;(conv=>whnf);refine ⟨?_,rfl⟩;conv=>whnf
   all_goals exact wk
  ·(try dsimp only[awp]);conv=>whnf
   refine fM ?_;(conv=>whnf);refine ⟨?_,rfl⟩;conv=>whnf
   all_goals exact wk
 rw [if_neg g] at h4
 (try dsimp only[awp]);conv=>whnf
 refine And.intro (fun g=>?_) (fun g=>?_)
 ·rw [if_pos g] at h4
  (try dsimp only[awp]);conv=>whnf
  refine And.intro (fun g=>by exfalso; omega) (fun g=>?_)
  (try dsimp only[awp]);conv=>whnf
  refine And.intro (fun g=>by exfalso; simp at g; omega) (fun g=>?_)
  (try dsimp only[awp]);conv=>whnf
  refine fM ?_;(conv=>whnf);refine ⟨?_,rfl⟩;conv=>whnf
  all_goals exact wk
 rw [if_neg g] at h4
 (try dsimp only[awp]);conv=>whnf
 refine And.intro (fun g=>by exfalso; omega) (fun g=>?_)
 (try dsimp only[awp]);conv=>whnf
 refine fM ?_;(conv=>whnf);refine ⟨?_,rfl⟩;conv=>whnf
 all_goals exact wk

theorem c_fValid (f : Fo) (h : FOk f) : FnH Tryz.prog 187 [f.av,.int .i64 f.top] [] .tt []:=by
 obtain ⟨h1,h2,_,h4⟩:=h
 refine FnH.intro lay mixed Tryz.func187 (by kernel_rfl) rfl (by kernel_rfl) rfl fun hok=>?_
 (try dsimp only[argC,succC]);(try dsimp only[awp]);conv=>whnf
 refine And.intro (fun _=>?_) (fun g=>by exfalso; omega)
 (try dsimp only[awp]);conv=>whnf
 refine And.intro (fun _=>?_) (fun g=>by exfalso; omega)
 (try dsimp only[awp]);conv=>whnf
 refine And.intro (fun g=>?_) (fun g=>?_)
 ·(try dsimp only[awp]);conv=>whnf
  refine fM ?_;(conv=>whnf);refine ⟨?_,rfl⟩;conv=>whnf
  all_goals exact wk
 ·(try dsimp only[awp]);conv=>whnf
  refine zA ?_;conv=>whnf
  refine fM ?_;(conv=>whnf);refine ⟨?_,rfl⟩;conv=>whnf
  show f.top - f.vars < (((f.nodes.map Nd.av).length : Nat) : Int)
  simp
  omega

theorem c_fCheck (f : Fo) (h : FOk f) : FnH Tryz.prog 98 [f.av] [] .nilI []:=by
 have cv:=c_fValid f h
 obtain ⟨h1,h2,h3,h4⟩:=h
 have cn:=fun i hi=>c_fcheckNode f h1 i hi h2 (h3 i hi)
 refine FnH.intro lay mixed Tryz.func98 (by kernel_rfl) rfl (by kernel_rfl) rfl fun hok=>?_
 (try dsimp only[argC,succC]);(try dsimp only[awp]);conv=>whnf
 refine And.intro (fun g=>by exfalso; omega) (fun g=>?_)
 (try dsimp only[awp]);conv=>whnf
 refine And.intro (fun g=>by exfalso; omega) (fun g=>?_)
 (try dsimp only[awp]);conv=>whnf
 refine And.intro (fun g=>by exfalso; simp at g; omega) (fun g=>?_)
 (try dsimp only[awp]);conv=>whnf
 refine LoopE.of <| LoopSpec.inv (.refl _ _) (fun (i : Nat)=>i ≤ f.nodes.length) (fun (i : Nat)=>[(22,.int .i64 i)]) (fun _=>_) (fun (i : Nat)=>f.nodes.length - i) 0 ?_ (fun _=>rfl) ?_ ?_
 ·exact Nat.zero_le _
 ·all_goals exact wk
 intro i hi _
 (try dsimp only[awp]);conv=>whnf
 refine And.intro (fun g1=>?_) (fun g1=>?_)
 ·have hil : i < f.nodes.length:=by simpa using g1
  (try dsimp only[awp]);conv=>whnf
  refine .pure _ _ ?_ ⟨rfl,rfl⟩ (cn i hil) fun _=>?_
  ·exact leL_refl _
  (try dsimp only[awp]);conv=>whnf
  refine zA ?_;conv=>whnf
  refine ⟨i + 1,?_,?_,?_⟩
  ·exact hil
  ·all_goals exact wk
  ·omega
 (try dsimp only[awp]);conv=>whnf
 refine .pure _ _ ?_ ⟨rfl,rfl⟩ cv fun _=>?_
 ·exact leL_refl _
 (try dsimp only[awp]);conv=>whnf
 refine fM ?_;(conv=>whnf);refine ⟨?_,rfl⟩;conv=>whnf
 all_goals exact wk

theorem c_fcheck (f : Fo) (h : FOk f) (set : Int) (hs : 0 ≤ set ∧ set < 2 ^ f.vars.toNat) : FnH Tryz.prog 66 [f.av,.int .i64 set] [] .nilI []:=by
 have cc:=c_fCheck f h
 obtain ⟨h1,h2,h3,h4⟩:=h
 refine FnH.intro lay mixed Tryz.func66 (by kernel_rfl) rfl (by kernel_rfl) rfl fun hok=>?_
 (try dsimp only[argC,succC]);(try dsimp only[awp]);conv=>whnf
 refine .pure _ _ ?_ ⟨rfl,rfl⟩ cc fun _=>?_
 ·exact leL_refl _
 (try dsimp only[awp]);conv=>whnf
 refine And.intro (fun g=>by exfalso; omega) (fun g=>?_)
 (try dsimp only[awp]);conv=>whnf
 obtain ⟨v,hv⟩ : ∃ v : Nat,f.vars = v:=⟨f.vars.toNat,by omega⟩
 rw [hv] at h1 hs ⊢
 refine ⟨by omega,?_⟩
 rw [shl_one (by omega)]
 (try dsimp only[awp]);conv=>whnf
 refine And.intro (fun g=>?_) (fun g=>?_)
 ·exfalso
  rw [Int.toNat_natCast] at hs
  have:=hs.2
  push_cast at g
  omega
 (try dsimp only[awp]);conv=>whnf
 refine fM ?_;(conv=>whnf);refine ⟨?_,rfl⟩;conv=>whnf
 all_goals exact wk

def cntT (v : List Bool) (args : List Int) : Nat:=args.foldl (fun n a=>if v.getD a.toNat false = true then n + 1 else n) 0

def ndVal (x : Nd) (n : Nat) : Bool :=
 if x.kind = 0 then decide (x.k = 1) else if x.kind = 1 then decide (n = 0) else if x.kind = 2 then decide (n = x.args.length) else if x.kind = 3 then decide (0 < n)
 else if x.kind = 4 then decide (x.k ≤ n) else if x.kind = 5 then decide (n % 2 = 1) else false

def valN (v : List Bool) (x : Nd) : List Bool:=v ++ [ndVal x (cntT v x.args)]
def valsF (vars set : Nat) (nodes : List Nd) : List Bool:=nodes.foldl valN (evs vars set)

theorem vals_len (vars set : Nat) : ∀ (nodes : List Nd),(valsF vars set nodes).length = vars + nodes.length:=by
 have key : ∀ (l : List Nd) (v : List Bool),(l.foldl valN v).length = v.length + l.length:=by
  intro l
  induction l with
  | nil=>intro v; simp
  | cons x l ih=>intro v; simp only [List.foldl_cons,ih,valN,List.length_append,List.length_cons,List.length_nil]; omega
 intro nodes
 unfold valsF
 rw [key]
 simp [evs]

theorem cntT_take {v : List Bool} {args : List Int} {j : Nat} (h : j < args.length) : cntT v (args.take (j + 1)) = if v.getD (args[j]).toNat false = true then cntT v (args.take j) + 1 else cntT v (args.take j):=by
 unfold cntT
 rw [List.take_add_one,List.getElem?_eq_getElem h,List.foldl_append]; rfl

theorem cntT_le (v : List Bool) : ∀ (args : List Int),cntT v args ≤ args.length:=by
 have key : ∀ (l : List Int) (n : Nat),l.foldl (fun n a=>if v.getD a.toNat false = true then n + 1 else n) n ≤ n + l.length:=by
  intro l
  induction l with
  | nil=>intro n; simp
  | cons a l ih =>
    intro n
    simp only [List.foldl_cons,List.length_cons]
    split
    ·have:=ih (n + 1); omega
    ·have:=ih n; omega
 intro args
 have:=key args 0
 unfold cntT
 omega

theorem c_fvalues (f : Fo) (h : FOk f) (set : Nat) (hs : set < 2 ^ 63) : FnH Tryz.prog 67 [f.av,.int .i64 set] [] (.sl 1 ((valsF f.vars.toNat set f.nodes).map .bool) .no) []:=by
 obtain ⟨h1,h2,h3,h4⟩:=h
 refine FnH.intro lay mixed Tryz.func67 (by kernel_rfl) rfl (by kernel_rfl) rfl fun hok=>?_
 (try dsimp only[argC,succC]);(try dsimp only[awp]);conv=>whnf
 refine ⟨inr64 (by simp; omega) (by simp; omega),?_⟩
 (try dsimp only[awp]);conv=>whnf
 refine ⟨by refine ⟨by omega,by omega,by simp; omega,by simp; omega⟩,?_⟩
 refine .wr ?_
 (try dsimp only[awp]);conv=>whnf
 refine LoopE.of <| LoopSpec.inv (.refl _ _) (fun i : Nat=>i ≤ f.vars.toNat) (fun i=>[(24,.int .i64 i)]) (fun i=>[(1,.arr 1 (f.vars + ((f.nodes.map Nd.av).length : Int)).toNat ((List.range i).map (fun j=>AV.bool (set.testBit j)) ++ List.replicate (f.vars.toNat - i) .ff)),(0,.box f.av)]) (fun i=>f.vars.toNat - i) 0 ?_ (fun _=>rfl) ?_ ?_
 ·exact Nat.zero_le _
 ·refine ⟨by (repeat' first|exact rfl|exact trivial|exact wR|exact lR _|apply aI),.mk ?_ ?_⟩
  ·all_goals exact wk
  ·exact ⟨by simp,by simp,trivial⟩
 intro i hi _
 (try dsimp only[awp]);conv=>whnf
 refine And.intro (fun g1=>?_) (fun g1=>?_)
 ·have hlt : i < f.vars.toNat:=by omega
  (try dsimp only[awp]);conv=>whnf
  refine ⟨by omega,?_⟩
  (try dsimp only[awp]);conv=>whnf
  refine ⟨⟨by omega,by omega⟩,?_⟩
  (try dsimp only[awp]);conv=>whnf
  refine ⟨by simp; omega,rfl,?_⟩
  (try dsimp only[awp]);conv=>whnf
  refine zA ?_;conv=>whnf
  refine ⟨i + 1,?_,?_,?_⟩
  ·exact hlt
  ·refine ⟨by (repeat' first|exact rfl|exact trivial|exact wR|exact lR _|apply aI),.mk ?_ ?_⟩
   ·repeat' first|exact rfl|exact trivial|exact wR|exact lR _|apply aI
    ·simp only [Nat.zero_add,Int.toNat_natCast]
     refine set_ev hlt ?_
     show _ ↔ _
     rw [bit_test hs (by omega)]
     cases set.testBit i <;> simp
   ·exact ⟨by simp,by simp,trivial⟩
  ·omega
 have hil : i = f.vars.toNat:=by omega
 subst hil
 clear g1
 have hev : (List.range f.vars.toNat).map (fun j=>AV.bool (set.testBit j)) ++ List.replicate (f.vars.toNat - f.vars.toNat) .ff = (evs f.vars.toNat set).map .bool:=by simp [evs]
 rw [hev]
 (try dsimp only[awp]);conv=>whnf
 refine LoopE.of <| LoopSpec.inv (.keep 5 1 f.vars.toNat _ 1 _ rfl rfl (by simp [evs]) (.refl _ _)) (fun i : Nat=>i ≤ f.nodes.length) (fun i=>[(39,.int .i64 i),(5,.sl 1 ((valsF f.vars.toNat set (f.nodes.take i)).map .bool) (.own 2))]) (fun i=>[(2,.tok 1 (f.vars.toNat + i)),(1,.gone),(0,.box f.av)]) (fun i=>f.nodes.length - i) 0 ?_ (fun _=>rfl) ?_ ?_
 ·exact Nat.zero_le _
 ·refine ⟨?_,.mk ?_ (by simp [idsOk])⟩
  ·repeat' first|exact rfl|exact trivial|exact wR|exact lR _|apply aI
   all_goals (refine leRL_of ?_; simp [evs,valsF]; rw [List.take_of_length_le (by simp)]; done)
  ·all_goals exact wk
 intro i hi _
 (try dsimp only[awp]);conv=>whnf
 refine And.intro (fun g1=>?_) (fun g1=>?_)
 ·have hlt : i < f.nodes.length:=by simpa using g1
  have hok:=h3 i hlt
  have hvl:=vals_len f.vars.toNat set (f.nodes.take i)
  rw [List.length_take,Nat.min_eq_left hi] at hvl
  have hvs : valsF f.vars.toNat set (f.nodes.take (i + 1)) = valN (valsF f.vars.toNat set (f.nodes.take i)) f.nodes[i]:=by
   unfold valsF
   rw [List.take_add_one,List.getElem?_eq_getElem hlt,List.foldl_append]; rfl
  (try dsimp only[awp]);conv=>whnf
  refine aidx hlt ?_
  generalize f.nodes[i] = x at *
  generalize valsF f.vars.toNat set (f.nodes.take i) = V at *
  (try dsimp only[awp]);conv=>whnf
  refine LoopE.of <| LoopSpec.inv (.refl _ _) (fun j : Nat=>j ≤ x.args.length) (fun j=>[(46,.int .i64 j),(9,.int .i64 (cntT V (x.args.take j)))]) (fun _=>(3,.box x.av) :: [(2,.tok 1 (f.vars.toNat + i)),(1,.gone),(0,.box f.av)]) (fun j=>x.args.length - j) 0 ?_ (fun _=>rfl) ?_ ?_
  ·exact Nat.zero_le _
  ·refine ⟨?_,.mk ?_ (by simp [idsOk])⟩
   ·all_goals exact wk
   ·all_goals exact wk
  intro j hj _
  (try dsimp only[awp]);conv=>whnf
  refine And.intro (fun g2=>?_) (fun g2=>?_)
  ·have hjl : j < x.args.length:=by simpa using g2
   have ha:=hok.args _ (List.getElem_mem hjl)
   have hc:=cntT_take (v:=V) hjl
   have hal16 : x.args.length ≤ 16:=by
    have hal:=hok.num
    split at hal
    ·omega
    ·split at hal <;> omega
   (try dsimp only[awp]);conv=>whnf
   refine aidx hjl ?_
   generalize x.args[j] = a at *
   (try dsimp only[awp]);conv=>whnf
   refine aidxD false (by rw [hvl]; omega) ?_
   (try dsimp only[awp]);conv=>whnf
   refine And.intro (fun g3=>?_) (fun g3=>?_)
   ·rw [if_pos g3] at hc
    have hcl:=cntT_le V (x.args.take j)
    rw [List.length_take] at hcl
    (try dsimp only[awp]);conv=>whnf
    refine zA ?_;conv=>whnf
    (try dsimp only[awp]);conv=>whnf
    refine zA ?_;conv=>whnf
    refine ⟨j + 1,?_,?_,?_⟩
    ·exact hjl
    ·rw [hc]
     refine ⟨?_,.mk ?_ (by simp [idsOk])⟩
     ·all_goals exact wk
     ·all_goals exact wk
    ·omega
   ·rw [if_neg (by rw [g3]; simp)] at hc
    (try dsimp only[awp]);conv=>whnf
    refine zA ?_;conv=>whnf
    refine ⟨j + 1,?_,?_,?_⟩
    ·exact hjl
    ·rw [hc]
     refine ⟨?_,.mk ?_ (by simp [idsOk])⟩
     ·all_goals exact wk
     ·all_goals exact wk
    ·omega
  have hjl : j = x.args.length:=by (have : ¬ j < x.args.length:=by simpa using g2); omega
  subst hjl
  clear g2
  rw [List.take_length]
  have hk:=hok.kind
  have hkk:=hok.k
  have hnd : ∀ b : Bool,ndVal x (cntT V x.args) = b → valsF f.vars.toNat set (f.nodes.take (i + 1)) = V ++ [b]:=fun b hb=>by rw [hvs,valN,hb]
  clear hvs
  generalize cntT V x.args = c at *
  (try dsimp only[awp]);conv=>whnf
  refine And.intro (fun k0=>?_) (fun k0=>?_)
  ·(try dsimp only[awp]);conv=>whnf
   have hb:=hnd (decide (x.k = 1)) (by unfold ndVal; rw [if_pos k0])
   (try dsimp only[awp]);conv=>whnf
   refine ⟨by rw [List.length_map,hvl],.mk (by simp [maxL]; omega) (by simp; omega) ?_⟩
   (try dsimp only[awp]);conv=>whnf
   refine zA ?_;conv=>whnf
   refine ⟨i + 1,?_,?_,?_⟩
   ·exact hlt
   ·rw [hb]
    refine ⟨?_,.mk ?_ (by simp [idsOk])⟩
    ·repeat' first|exact rfl|exact trivial|exact wR|exact lR _|apply aI
     all_goals (show leRL _ (List.map _ (_ ++ [_])); rw [List.map_append]; refine leRL_snoc ?_ (lR _); show _ ↔ _; simp; try (first | omega | (rw [show (2 : Int) = ((2 : Nat) : Int) from rfl,tmod_nat]; omega)))
    ·repeat' first|exact rfl|exact trivial|exact wR|exact lR _|apply aI
     all_goals first | (simp [hvl]; done) | (simp [hvl]; omega)
   ·omega
  (try dsimp only[awp]);conv=>whnf
  refine And.intro (fun k1=>?_) (fun k1=>?_)
  ·(try dsimp only[awp]);conv=>whnf
   have hb:=hnd (decide (c = 0)) (by unfold ndVal; rw [if_neg k0,if_pos k1])
   (try dsimp only[awp]);conv=>whnf
   refine ⟨by rw [List.length_map,hvl],.mk (by simp [maxL]; omega) (by simp; omega) ?_⟩
   (try dsimp only[awp]);conv=>whnf
   refine zA ?_;conv=>whnf
   refine ⟨i + 1,?_,?_,?_⟩
   ·exact hlt
   ·rw [hb]
    refine ⟨?_,.mk ?_ (by simp [idsOk])⟩
    ·repeat' first|exact rfl|exact trivial|exact wR|exact lR _|apply aI
     all_goals (show leRL _ (List.map _ (_ ++ [_])); rw [List.map_append]; refine leRL_snoc ?_ (lR _); show _ ↔ _; simp; try (first | omega | (rw [show (2 : Int) = ((2 : Nat) : Int) from rfl,tmod_nat]; omega)))
    ·repeat' first|exact rfl|exact trivial|exact wR|exact lR _|apply aI
     all_goals first | (simp [hvl]; done) | (simp [hvl]; omega)
   ·omega
  (try dsimp only[awp]);conv=>whnf
  refine And.intro (fun k2=>?_) (fun k2=>?_)
  ·(try dsimp only[awp]);conv=>whnf
   have hb:=hnd (decide (c = x.args.length)) (by unfold ndVal; rw [if_neg k0,if_neg k1,if_pos k2])
   (try dsimp only[awp]);conv=>whnf
   refine ⟨by rw [List.length_map,hvl],.mk (by simp [maxL]; omega) (by simp; omega) ?_⟩
   (try dsimp only[awp]);conv=>whnf
   refine zA ?_;conv=>whnf
   refine ⟨i + 1,?_,?_,?_⟩
   ·exact hlt
   ·rw [hb]
    refine ⟨?_,.mk ?_ (by simp [idsOk])⟩
    ·repeat' first|exact rfl|exact trivial|exact wR|exact lR _|apply aI
     all_goals (show leRL _ (List.map _ (_ ++ [_])); rw [List.map_append]; refine leRL_snoc ?_ (lR _); show _ ↔ _; simp; try (first | omega | (rw [show (2 : Int) = ((2 : Nat) : Int) from rfl,tmod_nat]; omega)))
    ·repeat' first|exact rfl|exact trivial|exact wR|exact lR _|apply aI
     all_goals first | (simp [hvl]; done) | (simp [hvl]; omega)
   ·omega
  (try dsimp only[awp]);conv=>whnf
  refine And.intro (fun k3=>?_) (fun k3=>?_)
  ·(try dsimp only[awp]);conv=>whnf
   have hb:=hnd (decide (0 < c)) (by unfold ndVal; rw [if_neg k0,if_neg k1,if_neg k2,if_pos k3])
   (try dsimp only[awp]);conv=>whnf
   refine ⟨by rw [List.length_map,hvl],.mk (by simp [maxL]; omega) (by simp; omega) ?_⟩
   (try dsimp only[awp]);conv=>whnf
   refine zA ?_;conv=>whnf
   refine ⟨i + 1,?_,?_,?_⟩
   ·exact hlt
   ·rw [hb]
    refine ⟨?_,.mk ?_ (by simp [idsOk])⟩
    ·repeat' first|exact rfl|exact trivial|exact wR|exact lR _|apply aI
     all_goals (show leRL _ (List.map _ (_ ++ [_])); rw [List.map_append]; refine leRL_snoc ?_ (lR _); show _ ↔ _; simp; try (first | omega | (rw [show (2 : Int) = ((2 : Nat) : Int) from rfl,tmod_nat]; omega)))
    ·repeat' first|exact rfl|exact trivial|exact wR|exact lR _|apply aI
     all_goals first | (simp [hvl]; done) | (simp [hvl]; omega)
   ·omega
  (try dsimp only[awp]);conv=>whnf
  refine And.intro (fun k4=>?_) (fun k4=>?_)
  ·(try dsimp only[awp]);conv=>whnf
   have hb:=hnd (decide (x.k ≤ c)) (by unfold ndVal; rw [if_neg k0,if_neg k1,if_neg k2,if_neg k3,if_pos k4])
   (try dsimp only[awp]);conv=>whnf
   refine ⟨by rw [List.length_map,hvl],.mk (by simp [maxL]; omega) (by simp; omega) ?_⟩
   (try dsimp only[awp]);conv=>whnf
   refine zA ?_;conv=>whnf
   refine ⟨i + 1,?_,?_,?_⟩
   ·exact hlt
   ·rw [hb]
    refine ⟨?_,.mk ?_ (by simp [idsOk])⟩
    ·repeat' first|exact rfl|exact trivial|exact wR|exact lR _|apply aI
     all_goals (show leRL _ (List.map _ (_ ++ [_])); rw [List.map_append]; refine leRL_snoc ?_ (lR _); show _ ↔ _; simp; try (first | omega | (rw [show (2 : Int) = ((2 : Nat) : Int) from rfl,tmod_nat]; omega)))
    ·repeat' first|exact rfl|exact trivial|exact wR|exact lR _|apply aI
     all_goals first | (simp [hvl]; done) | (simp [hvl]; omega)
   ·omega
  (try dsimp only[awp]);conv=>whnf
  refine And.intro (fun k5=>?_) (fun k5=>by exfalso; omega)
  (try dsimp only[awp]);conv=>whnf
  refine ⟨by decide,?_⟩
  (try dsimp only[awp]);conv=>whnf
  have hb:=hnd (decide (c % 2 = 1)) (by unfold ndVal; rw [if_neg k0,if_neg k1,if_neg k2,if_neg k3,if_neg k4,if_pos k5])
  (try dsimp only[awp]);conv=>whnf
  refine ⟨by rw [List.length_map,hvl],.mk (by simp [maxL]; omega) (by simp; omega) ?_⟩
  (try dsimp only[awp]);conv=>whnf
  refine zA ?_;conv=>whnf
  refine ⟨i + 1,?_,?_,?_⟩
  ·exact hlt
  ·rw [hb]
   refine ⟨?_,.mk ?_ (by simp [idsOk])⟩
   ·repeat' first|exact rfl|exact trivial|exact wR|exact lR _|apply aI
    all_goals (show leRL _ (List.map _ (_ ++ [_])); rw [List.map_append]; refine leRL_snoc ?_ (lR _); show _ ↔ _; simp; try (first | omega | (rw [show (2 : Int) = ((2 : Nat) : Int) from rfl,tmod_nat]; omega)))
   ·repeat' first|exact rfl|exact trivial|exact wR|exact lR _|apply aI
    all_goals first | (simp [hvl]; done) | (simp [hvl]; omega)
  ·omega
 have hil : i = f.nodes.length:=by (have : ¬ i < f.nodes.length:=by simpa using g1); omega
 subst hil
 rw [List.take_length]
 (try dsimp only[awp]);conv=>whnf
 refine ⟨⟨_,_,.refl _ _,?_⟩⟩
 conv=>whnf
 refine ⟨?_,rfl,by simp [nextId],.mk ?_ (by simp [idsOk])⟩
 ·all_goals exact wk
 ·all_goals exact wk

theorem c_fValue (f : Fo) (h : FOk f) (set : Nat) (hs : set < 2 ^ f.vars.toNat) : FnH Tryz.prog 22 [f.av,.int .i64 set] [] (.tup [.bool ((valsF f.vars.toNat set f.nodes).getD f.top.toNat false),.nilI]) []:=by
 have h1:=h.vars
 have hs2 : set < 2 ^ 63:=Nat.lt_of_lt_of_le hs (Nat.pow_le_pow_right (by decide) (by omega))
 have hs3 : (set : Int) < 2 ^ f.vars.toNat:=by
  have : ((set : Nat) : Int) < ((2 ^ f.vars.toNat : Nat) : Int):=by exact_mod_cast hs
  simpa using this
 have cc:=c_fcheck f h set ⟨by omega,hs3⟩
 have cv:=c_fvalues f h set hs2
 have hl:=vals_len f.vars.toNat set f.nodes
 have ht:=h.top
 generalize valsF f.vars.toNat set f.nodes = V at *
 refine FnH.intro lay mixed Tryz.func22 (by kernel_rfl) rfl (by kernel_rfl) rfl fun hok=>?_
 (try dsimp only[argC,succC]);(try dsimp only[awp]);conv=>whnf
 refine .pure _ _ ?_ ⟨rfl,rfl⟩ cc fun _=>?_
 ·exact leL_refl _
 (try dsimp only[awp]);conv=>whnf
 refine ADraw.auto (by kernel_rfl) ?_;conv=>whnf
 refine ACallP.pure _ _ ?_ ⟨rfl,rfl⟩ cv ?_
 ·exact leL_refl _
 (try dsimp only[awp]);conv=>whnf
 refine aidxD false (by rw [hl]; omega) ?_
 (try dsimp only[awp]);conv=>whnf
 refine fM ?_;(conv=>whnf);refine ⟨?_,rfl⟩;conv=>whnf
 all_goals exact wk

theorem c_nodeKind (k : Int) : FnH Tryz.prog 266 [.int .i64 k] [] (.tup [.int .i64 (kindN k),.bool (statK k)]) []:=by
 obtain ⟨a,ha⟩ : ∃ a,kindN k = a:=⟨_,rfl⟩
 obtain ⟨b,hb⟩ : ∃ b,statK k = b:=⟨_,rfl⟩
 rw [ha,hb]
 refine FnH.intro lay mixed Tryz.func266 (by kernel_rfl) rfl (by kernel_rfl) rfl fun hok=>?_
 (try dsimp only[argC,succC]);(try dsimp only[awp]);conv=>whnf
 repeat' (first | (refine And.intro (fun _=>?_) (fun _=>?_) <;> ((try dsimp only[awp]);(conv=>whnf))))
 all_goals
  refine fM ?_;(conv=>whnf);refine ⟨?_,rfl⟩;conv=>whnf
 all_goals
  rw [← ha,← hb]
  repeat' first|exact rfl|exact trivial|exact wR|exact lR _|apply aI
 all_goals
  unfold kindN statK at *
  first | (simp_all [le0]; done) | (show le0 _ _; simp_all [le0]; done) | skip

abbrev xC (vars : Int) (st : CS) : AV:=.ag [.int .i64 vars,.sl 3 (st.nodes.map Nd.av) (.own 2),.int .i64 0]
abbrev hpC (m : Md) (vars : Int) (st : CS) : Heap:=hpF m (xC vars st) (.tok 3 st.nodes.length) (.amap shN (encM st.es))
abbrev compAV (r : (Bool × Int) × CS) : AV:=.tup [.int .i64 r.1.2,errAV (if r.1.1 = true then 7 else 0)]

theorem xC_wk (vars : Int) (st : CS) : WkA (xC vars st):=⟨le0_refl _,rfl⟩
theorem tC_wk (n : Nat) : WkO (.tok 3 n):=⟨⟨rfl,rfl⟩,rfl⟩
theorem mC_wk (es : Marks) : WkO (.amap shN (encM es)):=⟨⟨rfl,leM_refl _⟩,encM_bnd _ _⟩

theorem aupd_eq {es : Marks} {x : Node} {v w : Int} {k : List (AV × AV) → Prop} (e : w = v) (h : k (encM (mark es x v))) : AUpd (encM es) (nAV x) (.int .i64 w) k:=by subst e; exact aupd_es h

def lvl (rank : Node → Nat) (x : Node) : Nat:=if x.1 = 2 then rank x + 1 else 0

theorem c_cinput (m : Md) (hM : MOk m) (hB : MdB m) (rank : Node → Nat) (hr : RankM m rank) : ∀ (n : Nat) (a : Int) (s : Str) (st : CS),(a = -1 ∨ (0 ≤ a ∧ a < (m.pages.length : Int))) → InOk m a s → lvl rank (resR m a s) < n → CInv m st →
  FnH Tryz.prog 219 [.ptr 1 [] 0,.int .i64 a,.str s] (hpC m m.evs.length st) (compAV (compN m m.evs.length n (resR m a s) st)) (hpC m m.evs.length (compN m m.evs.length n (resR m a s) st).2):=by
 intro n
 induction n with
 | zero=>intro a s st _ _ h; omega
 | succ n ih =>
   intro a s st ha hin hn hI
   have hev:=hM.lens.1
   have cf:=c_cfind m (xC m.evs.length st) (.tok 3 st.nodes.length) (.amap shN (encM st.es)) (xC_wk _ _) (tC_wk _) (mC_wk _) a s hin.pos ha hin.pg
   have hxo:=hin.ok
   have hshort:=hI.short hB
   have hcl:=hM.closed
   have hkk:=fun h2=>okN_kids hcl hxo h2
   have hrk:=hr _ hxo
   have hInv:=comp_inv hcl hr m.evs.length n
   generalize hx : resR m a s = x at *
   generalize hve : (m.evs.length : Int) = ve at *
   refine FnH.intro lay mixed Tryz.func219 (by kernel_rfl) rfl (by kernel_rfl) rfl fun hok=>?_
   (try dsimp only[argC,succC]);(try dsimp only[awp]);conv=>whnf
   refine .gen _ _ cf fun _=>?_
   (try dsimp only[awp]);conv=>whnf
   refine And.intro (fun h0=>?_) (fun h0=>?_)
   ·rw [show compN m ve (n + 1) x st = ((false,x.2.2),st) from if_pos h0]
    (try dsimp only[awp]);conv=>whnf
    refine ⟨⟨_,_,.refl _ _,?_⟩⟩
    conv=>whnf
    refine ⟨?_,rfl,by simp [nextId],.mk ?_ (by simp [idsOk])⟩
    ·all_goals exact wk
    ·repeat' first|exact rfl|exact trivial|exact wR|exact lR _|apply aI
     all_goals first | exact leM_refl _ | exact leM_nr _ _ | exact encM_bnd _ _ | (show leRL _ (List.map _ (_ ++ [_])); rw [List.map_append]; refine leRL_snoc ?_ (lR _); (repeat' first|exact rfl|exact trivial|exact wR|exact lR _|apply aI); done) | (simp [pushN]; done) | (simp [pushN]; omega)
   (try dsimp only[awp]);conv=>whnf
   refine ADraw.auto (by kernel_rfl) ?_;conv=>whnf
   refine alook_opt (fun v hv=>?_) (fun hv=>?_)
   ·rw [show compN m ve (n + 1) x st = ((false,v),st) from by unfold compN; rw [if_neg h0,hv]]
    (try dsimp only[awp]);conv=>whnf
    refine ⟨⟨_,_,.refl _ _,?_⟩⟩
    conv=>whnf
    refine ⟨?_,rfl,by simp [nextId],.mk ?_ (by simp [idsOk])⟩
    ·all_goals exact wk
    ·repeat' first|exact rfl|exact trivial|exact wR|exact lR _|apply aI
     all_goals first | exact leM_refl _ | exact leM_nr _ _ | exact encM_bnd _ _ | (show leRL _ (List.map _ (_ ++ [_])); rw [List.map_append]; refine leRL_snoc ?_ (lR _); (repeat' first|exact rfl|exact trivial|exact wR|exact lR _|apply aI); done) | (simp [pushN]; done) | (simp [pushN]; omega)
   (try dsimp only[awp]);conv=>whnf
   refine And.intro (fun h1=>?_) (fun h1=>?_)
   ·have hh : 0 ≤ x.2.2 ∧ x.2.2 < (m.hs.length : Int):=by
     rcases hxo with h | h | h
     ·omega
     ·exact ⟨h.2.2.1,h.2.2.2⟩
     ·have:=(mem_all.1 h).1; omega
    have hR : compN m ve (n + 1) x st = pushN ve st x ⟨0,if (houseAt m x).on = true then 1 else 0,[]⟩:=by unfold compN; rw [if_neg h0,hv]; exact if_pos h1
    rw [hR]
    (try dsimp only[awp]);conv=>whnf
    refine ADraw.auto (by kernel_rfl) ?_;conv=>whnf
    refine aidxD default hh ?_
    rw [show m.hs.getD x.2.2.toNat default = houseAt m x from rfl]
    generalize houseAt m x = hs at *
    (try dsimp only[awp]);conv=>whnf
    refine And.intro (fun g=>?_) (fun g=>?_)
    ·rw [if_pos g]
     (try dsimp only[awp]);conv=>whnf
     (try dsimp only[awp]);conv=>whnf
     refine ADraw.auto (by kernel_rfl) ?_;conv=>whnf
     refine ⟨by rw [List.length_map],.mk (by simp [maxL]; omega) (by simp; omega) ?_⟩
     (try dsimp only[awp]);conv=>whnf
     refine ADraw.auto (by kernel_rfl) ?_;conv=>whnf
     refine ⟨inr64 (by simp; omega) (by simp; omega),?_⟩
     (try dsimp only[awp]);conv=>whnf
     refine ⟨inr64 (by simp; omega) (by simp; omega),?_⟩
     (try dsimp only[awp]);conv=>whnf
     refine aupd_eq (v:=ve + st.nodes.length) (by simp; omega) ?_
     (try dsimp only[awp]);conv=>whnf
     refine ADraw.auto (by kernel_rfl) ?_;conv=>whnf
     refine alook_put ?_
     (try dsimp only[awp]);conv=>whnf
     refine ⟨⟨_,_,.refl _ _,?_⟩⟩
     conv=>whnf
     refine ⟨?_,rfl,by simp [nextId],.mk ?_ (by simp [idsOk])⟩
     ·all_goals exact wk
     ·repeat' first|exact rfl|exact trivial|exact wR|exact lR _|apply aI
      all_goals first | exact leM_refl _ | exact leM_nr _ _ | exact encM_bnd _ _ | (show leRL _ (List.map _ (_ ++ [_])); rw [List.map_append]; refine leRL_snoc ?_ (lR _); (repeat' first|exact rfl|exact trivial|exact wR|exact lR _|apply aI); done) | (simp [pushN]; done) | (simp [pushN]; omega)
    ·rw [if_neg (by rw [g]; simp)]
     (try dsimp only[awp]);conv=>whnf
     refine ADraw.auto (by kernel_rfl) ?_;conv=>whnf
     refine ⟨by rw [List.length_map],.mk (by simp [maxL]; omega) (by simp; omega) ?_⟩
     (try dsimp only[awp]);conv=>whnf
     refine ADraw.auto (by kernel_rfl) ?_;conv=>whnf
     refine ⟨inr64 (by simp; omega) (by simp; omega),?_⟩
     (try dsimp only[awp]);conv=>whnf
     refine ⟨inr64 (by simp; omega) (by simp; omega),?_⟩
     (try dsimp only[awp]);conv=>whnf
     refine aupd_eq (v:=ve + st.nodes.length) (by simp; omega) ?_
     (try dsimp only[awp]);conv=>whnf
     refine ADraw.auto (by kernel_rfl) ?_;conv=>whnf
     refine alook_put ?_
     (try dsimp only[awp]);conv=>whnf
     refine ⟨⟨_,_,.refl _ _,?_⟩⟩
     conv=>whnf
     refine ⟨?_,rfl,by simp [nextId],.mk ?_ (by simp [idsOk])⟩
     ·all_goals exact wk
     ·repeat' first|exact rfl|exact trivial|exact wR|exact lR _|apply aI
      all_goals first | exact leM_refl _ | exact leM_nr _ _ | exact encM_bnd _ _ | (show leRL _ (List.map _ (_ ++ [_])); rw [List.map_append]; refine leRL_snoc ?_ (lR _); (repeat' first|exact rfl|exact trivial|exact wR|exact lR _|apply aI); done) | (simp [pushN]; done) | (simp [pushN]; omega)
   have h2 : x.1 = 2:=by
    rcases hxo with h | h | h
    ·omega
    ·omega
    ·exact (mem_all.1 h).1
   obtain ⟨hxa,hkk⟩:=hkk h2
   obtain ⟨_,hpg,hix⟩:=mem_all.1 hxa
   have hrk:=hrk h2
   have hlv : rank x < n:=by unfold lvl at hn; rw [if_pos h2] at hn; omega
   have hil : (gateAt m x).ins.length ≤ 40:=by
    have : gateAt m x ∈ gatesM m x.2.1:=by
     unfold gateAt
     rw [List.getD_eq_getElem?_getD,List.getElem?_eq_getElem (by omega)]
     exact List.getElem_mem _
    unfold gatesM at this
    split at this
    ·exact hB.gates.2 _ this
    ·rw [List.getD_eq_getElem?_getD] at this
     cases hp : m.pages[x.2.1.toNat]? with
     | none=>rw [hp] at this; exact absurd this (by show ¬ gateAt m x ∈ ([] : List Mg); simp)
     | some p=>rw [hp] at this; exact (hB.pgates p (List.mem_of_getElem? hp)).2 _ this
   have hins : ∀ (j : Nat) (h : j < (gateAt m x).ins.length),InOk m x.2.1 (gateAt m x).ins[j] ∧ (kidsM m x)[j]? = some (resR m x.2.1 (gateAt m x).ins[j]):=fun j h=>by
    have hg : gateAt m x ∈ gatesM m x.2.1:=by
     unfold gateAt
     rw [List.getD_eq_getElem?_getD,List.getElem?_eq_getElem (by omega)]
     exact List.getElem_mem _
    exact ⟨hM.inOk hpg (hM.ins_in hpg hg (List.getElem_mem h)),by simp [kidsM,h]⟩
   have hlen : (kidsM m x).length = (gateAt m x).ins.length:=by simp [kidsM]
   have hmem : ∀ y ∈ kidsM m x,lvl rank y < n:=fun y hy=>by
    unfold lvl
    split
    ·rename_i e; have:=hrk y hy e; omega
    ·omega
   have hR : compN m ve (n + 1) x st = if statK (gateAt m x).kind = false then ((true,0),st)
    else if (compL (compN m ve n) (kidsM m x) st []).1.1 = true then ((true,0),(compL (compN m ve n) (kidsM m x) st []).2)
    else pushN ve (compL (compN m ve n) (kidsM m x) st []).2 x ⟨kindN (gateAt m x).kind,(gateAt m x).k,(compL (compN m ve n) (kidsM m x) st []).1.2⟩:=by
    conv=>lhs; unfold compN
    rw [if_neg h0,hv]
    exact if_neg h1
   have cK:=c_nodeKind (gateAt m x).kind
   (try dsimp only[awp]);conv=>whnf
   refine ADraw.frz [3] ?_
   conv=>whnf
   refine And.intro ⟨rfl,rfl⟩ ?_
   conv=>whnf
   refine ⟨[true,true,true,false,true,true,true,true,false,false],by kernel_rfl,?_⟩
   conv=>whnf
   refine .gen _ _ (c_cgates m _ _ _ _ _ x.2.1 hpg) fun _=>?_
   (try dsimp only[awp]);conv=>whnf
   refine aidxD default hix ?_
   have hga : (gatesM m x.2.1).getD x.2.2.toNat default = gateAt m x:=rfl
   rw [hga]
   generalize gateAt m x = g at *
   generalize kidsM m x = K at *
   (try dsimp only[awp]);conv=>whnf
   refine .pure _ _ ?_ ⟨rfl,rfl⟩ cK fun _=>?_
   ·exact leL_refl _
   (try dsimp only[awp]);conv=>whnf
   refine And.intro (fun g1=>?_) (fun g1=>?_)
   ·rw [hR,if_pos (by simpa using g1)]
    (try dsimp only[awp]);conv=>whnf
    refine ⟨⟨_,_,.refl _ _,?_⟩⟩
    conv=>whnf
    refine ⟨?_,rfl,by simp [nextId],.mk ?_ (by simp [idsOk])⟩
    ·all_goals exact wk
    ·repeat' first|exact rfl|exact trivial|exact wR|exact lR _|apply aI
     all_goals first | exact leM_refl _ | exact leM_nr _ _ | exact encM_bnd _ _ | (show leRL _ (List.map _ (_ ++ [_])); rw [List.map_append]; refine leRL_snoc ?_ (lR _); (repeat' first|exact rfl|exact trivial|exact wR|exact lR _|apply aI); done) | (simp [pushN]; done) | (simp [pushN]; omega)
   have g1 : statK g.kind = true:=by simpa using g1
   rw [if_neg (by rw [g1]; simp)] at hR
   generalize hW : compN m ve n = W at *
   generalize hS : compL W K st [] = Rz at *
   (try dsimp only[awp]);conv=>whnf
   refine LoopE.of <| LoopSpec.inv (.growF 4 [2] 1 [] (.ag [.int .i64 (kindN g.kind),.int .i64 g.k,.nils]) .nils _ rfl rfl (.inl ⟨rfl,rfl⟩) rfl (.refl _ _))
    (fun (q : Nat × CS × List Int)=>q.1 ≤ g.ins.length ∧ compL W (K.drop q.1) q.2.1 q.2.2 = Rz ∧ q.2.2.length = q.1 ∧ CInv m q.2.1 ∧ (∀ z : Node,z.1 = 2 → rank x ≤ rank z → lookO st.es z = none → lookO q.2.1.es z = none))
    (fun q=>[(78,.int .i64 q.1)]) (fun q=>(6,.tok 1 q.1) :: (5,.gone) :: (4,.box (.ag [.int .i64 (kindN g.kind),.int .i64 g.k,.sl 1 (q.2.2.map (.int .i64)) (.own 6)])) :: (3,.gone) :: hpC m ve q.2.1) (fun q=>g.ins.length - q.1) (0,st,[]) ?_ (fun _=>rfl) ?_ ?_
   ·exact ⟨Nat.zero_le _,hS,rfl,hI,fun _ _ _ h=>h⟩
   ·refine ⟨?_,.mk ?_ (by simp [idsOk])⟩
    ·all_goals exact wk
    ·repeat' first|exact rfl|exact trivial|exact wR|exact lR _|apply aI
     all_goals first | exact leM_refl _ | exact encM_bnd _ _
   rintro ⟨j,sj,acc⟩ ⟨hj,hnj,hacc,hIj,hzj⟩ _
   dsimp only at hj hnj hacc hIj hzj
   (try dsimp only[awp]);conv=>whnf
   refine And.intro (fun hh=>?_) (fun hh=>?_)
   ·have hjl : j < g.ins.length:=by simpa using hh
    obtain ⟨hij,hKj⟩:=hins j hjl
    rw [drop_of_get? hKj] at hnj
    unfold compL at hnj
    have hyK:=List.mem_of_getElem? hKj
    have hlj:=hmem _ hyK
    have cw:=ih x.2.1 g.ins[j] sj hpg hij hlj hIj
    have hIr:=hInv (resR m x.2.1 g.ins[j]) sj hij.ok hIj
    have hyr:=hrk _ hyK
    (try dsimp only[awp]);conv=>whnf
    refine aidx hjl ?_
    generalize g.ins[j] = s2 at *
    generalize resR m x.2.1 s2 = y at *
    generalize hr0 : W y sj = r at *
    obtain ⟨⟨rb,ra⟩,rs⟩:=r
    dsimp only at hnj hIr cw
    cases rb with
    | true =>
      rw [if_pos rfl] at hnj
      rw [show compAV ((true,ra),rs) = .tup [.int .i64 ra,.ifc 111 (.int .i64 7)] from rfl] at cw
      (try dsimp only[awp]);conv=>whnf
      refine .gen _ _ (FnH.frame [0,1,2] cw ⟨rfl,rfl,rfl,rfl⟩ ?_ ?_) fun _=>?_
      ·repeat' first|exact rfl|exact trivial|exact wR|exact lR _|apply aI
       all_goals first | exact leM_rn _ _ | exact encM_bnd _ _
      ·all_goals exact wk
      rw [hR,← hnj,if_pos rfl]
      (try dsimp only[awp]);conv=>whnf
      refine ⟨⟨_,_,.refl _ _,?_⟩⟩
      conv=>whnf
      refine ⟨?_,rfl,by simp [nextId],.mk ?_ (by simp [idsOk])⟩
      ·all_goals exact wk
      ·repeat' first|exact rfl|exact trivial|exact wR|exact lR _|apply aI
       all_goals first | exact leM_refl _ | exact leM_nr _ _ | exact encM_bnd _ _ | (show leRL _ (List.map _ (_ ++ [_])); rw [List.map_append]; refine leRL_snoc ?_ (lR _); (repeat' first|exact rfl|exact trivial|exact wR|exact lR _|apply aI); done) | (simp [pushN]; done) | (simp [pushN]; omega)
    | false =>
      rw [if_neg (by simp)] at hnj
      rw [show compAV ((false,ra),rs) = .tup [.int .i64 ra,.nilI] from rfl] at cw
      (try dsimp only[awp]);conv=>whnf
      refine .gen _ _ (FnH.frame [0,1,2] cw ⟨rfl,rfl,rfl,rfl⟩ ?_ ?_) fun _=>?_
      ·repeat' first|exact rfl|exact trivial|exact wR|exact lR _|apply aI
       all_goals first | exact leM_rn _ _ | exact encM_bnd _ _
      ·all_goals exact wk
      (try dsimp only[awp]);conv=>whnf
      refine ⟨by rw [List.length_map,hacc],.mk (by simp [maxL]; omega) (by simp; omega) ?_⟩
      (try dsimp only[awp]);conv=>whnf
      refine zA ?_;conv=>whnf
      refine ⟨(j + 1,rs,acc ++ [ra]),?_,?_,?_⟩
      ·exact ⟨hjl,hnj,by simp [hacc],hIr.1,fun z hz hxz hs=>hIr.2 z hz (fun e=>by have:=hyr e; omega) (hzj z hz hxz hs)⟩
      ·refine ⟨?_,.mk ?_ (by simp [idsOk])⟩
       ·all_goals exact wk
       ·repeat' first|exact rfl|exact trivial|exact wR|exact lR _|apply aI
        all_goals first | exact leM_nr _ _ | exact encM_bnd _ _ | (show leRL _ (List.map _ (_ ++ [_])); rw [List.map_append]; exact lR _) | (simp [hacc]; done) | (simp; omega)
      ·show g.ins.length - (j + 1) < g.ins.length - j
       omega
   have hjl : K.length ≤ j:=by (have : ¬ j < g.ins.length:=by simpa using hh); omega
   rw [List.drop_eq_nil_of_le hjl] at hnj
   unfold compL at hnj
   rw [← hnj,if_neg (by simp)] at hR
   rw [hR]
   have hshort:=hIj.short hB
   (try dsimp only[awp]);conv=>whnf
   (try dsimp only[awp]);conv=>whnf
   refine ADraw.auto (by kernel_rfl) ?_;conv=>whnf
   refine ⟨by rw [List.length_map],.mk (by simp [maxL]; omega) (by simp; omega) ?_⟩
   (try dsimp only[awp]);conv=>whnf
   refine ADraw.auto (by kernel_rfl) ?_;conv=>whnf
   refine ⟨inr64 (by simp; omega) (by simp; omega),?_⟩
   (try dsimp only[awp]);conv=>whnf
   refine ⟨inr64 (by simp; omega) (by simp; omega),?_⟩
   (try dsimp only[awp]);conv=>whnf
   refine aupd_eq (v:=ve + sj.nodes.length) (by simp; omega) ?_
   (try dsimp only[awp]);conv=>whnf
   refine ADraw.auto (by kernel_rfl) ?_;conv=>whnf
   refine alook_put ?_
   (try dsimp only[awp]);conv=>whnf
   refine ⟨⟨_,_,.refl _ _,?_⟩⟩
   conv=>whnf
   refine ⟨?_,rfl,by simp [nextId],.mk ?_ (by simp [idsOk])⟩
   ·all_goals exact wk
   ·repeat' first|exact rfl|exact trivial|exact wR|exact lR _|apply aI
    all_goals first | exact leM_refl _ | exact leM_nr _ _ | exact encM_bnd _ _ | (show leRL _ (List.map _ (_ ++ [_])); rw [List.map_append]; refine leRL_snoc ?_ (lR _); (repeat' first|exact rfl|exact trivial|exact wR|exact lR _|apply aI); done) | (simp [pushN]; done) | (simp [pushN]; omega)

theorem countP_lt {α : Type} {p q : α → Bool} : ∀ {l : List α},(∀ x ∈ l,p x = true → q x = true) → (∃ y ∈ l,q y = true ∧ p y = false) → l.countP p < l.countP q
 | [],_,h=>by obtain ⟨y,hy,_⟩:=h; simp at hy
 | x :: l,h1,h2=>by
   simp only [List.countP_cons]
   have hle : l.countP p ≤ l.countP q:=List.countP_mono_left fun y hy=>h1 y (by simp [hy])
   obtain ⟨y,hy,hq,hp⟩:=h2
   rcases List.mem_cons.1 hy with rfl | hy
   ·rw [if_pos hq,if_neg (by rw [hp]; simp)]; omega
   ·have ih:=countP_lt (l:=l) (fun z hz=>h1 z (by simp [hz])) ⟨y,hy,hq,hp⟩
    have:=h1 x (by simp)
    split
    ·rename_i hpx; rw [if_pos (this hpx)]; omega
    ·omega

theorem ok_gateC {m : Md} {x : Node} (h : okN m x) (h2 : x.1 = 2) : x ∈ allNodes m:=by
 rcases h with h | h | h
 ·omega
 ·omega
 ·exact h

theorem rank_bd {m : Md} (hc : ClosedM m) {rank : Node → Nat} (hr : RankM m rank) : ∃ rank',RankM m rank' ∧ ∀ x,rank' x ≤ (allNodes m).length:=by
 refine ⟨fun x=>(allNodes m).countP fun z=>decide (rank z < rank x),?_,fun x=>List.countP_le_length⟩
 intro x hx h2 y hy hy2
 have hxa:=(okN_kids hc hx h2)
 have hlt:=hr x hx h2 y hy hy2
 refine countP_lt (fun z _ h=>?_) ⟨y,?_,?_,?_⟩
 ·have:=of_decide_eq_true h
  exact decide_eq_true (by omega)
 ·exact ok_gateC (hxa.2 y hy) hy2
 ·exact decide_eq_true hlt
 ·exact decide_eq_false (by omega)
def fuelC (m : Md) : Nat:=(allNodes m).length + 2

theorem MOk.rank {m : Md} (hM : MOk m) : ∃ rank,RankM m rank ∧ ∀ x,lvl rank x < fuelC m:=by
 obtain ⟨rank,hr⟩:=cyc_rank hM.closed hM.cyc
 obtain ⟨rank',hr',hb⟩:=rank_bd hM.closed hr
 refine ⟨rank',hr',fun x=>?_⟩
 have:=hb x
 unfold lvl fuelC
 split <;> omega

def compTop (m : Md) (s : Str) : (Bool × Int) × CS:=compN m m.evs.length (fuelC m) (resR m (-1) s) ⟨[],[]⟩

def atR (m : Md) (s : Str) : Fo × Int :=
 if (inputR m (-1) s).2 ≠ 0 then (⟨0,[],0⟩,(inputR m (-1) s).2) else if (compTop m s).1.1 = true then (⟨0,[],0⟩,7)
 else (⟨m.evs.length,(compTop m s).2.nodes,(compTop m s).1.2⟩,0)

abbrev atAV (r : Fo × Int) : AV:=.tup [r.1.av,errAV r.2]

theorem CInv.nil (m : Md) : CInv m ⟨[],[]⟩:=⟨rfl,by simp,by simp⟩

theorem c_at (m : Md) (s : Str) (hC : MdC m) (hB : MdB m) (R : AV) (hR : R = atAV (atR m s)) : FnH Tryz.prog 117 [m.av,.str s] [] R []:=by
 have ci:=c_Input m (-1) s hC hB _ rfl
 have bE:=errAV_bnd (inputR m (-1) s).2
 by_cases hi : (inputR m (-1) s).2 ≠ 0
 ·rw [show atR m s = (⟨0,[],0⟩,(inputR m (-1) s).2) from if_pos hi] at hR
  subst hR
  rw [errAV_ne hi] at ci
  rw [show atAV (⟨0,[],0⟩,(inputR m (-1) s).2) = .tup [(⟨0,[],0⟩ : Fo).av,.ifc 111 (.int .i64 (inputR m (-1) s).2)] from by unfold atAV; rw [errAV_ne hi]]
  generalize inputR m (-1) s = q at *
  obtain ⟨⟨q1,q2,q3⟩,e⟩:=q
  refine FnH.intro lay mixed Tryz.func117 (by kernel_rfl) rfl (by kernel_rfl) rfl fun hok=>?_
  (try dsimp only[argC,succC]);(try dsimp only[awp]);conv=>whnf
  refine .pure _ _ ?_ ⟨rfl,rfl⟩ ci fun _=>?_
  ·exact leL_refl _
  (try dsimp only[awp]);conv=>whnf
  refine ⟨⟨_,_,.refl _ _,?_⟩⟩
  conv=>whnf
  refine ⟨?_,rfl,by simp [nextId],.mk ?_ (by simp [idsOk])⟩
  ·all_goals exact wk
  ·all_goals exact wk
 have hi : (inputR m (-1) s).2 = 0:=by simpa using hi
 have hin0 : checkM m = 0 ∧ isInR m (-1) s = true:=by
  unfold inputR at hi
  split at hi
  ·rename_i h; exact absurd hi h
  rename_i h0
  rw [if_neg (by omega),if_neg (by omega)] at hi
  split at hi
  ·cases hi
  ·rename_i h; exact ⟨by simpa using h0,by simpa using h⟩
 have hM:=checkM_ok hin0.1
 have hin:=hM.inOk (.inl rfl) hin0.2
 obtain ⟨rank,hr,hb⟩:=hM.rank
 have cw:=c_cinput m hM hB rank hr (fuelC m) (-1) s ⟨[],[]⟩ (.inl rfl) hin (hb _) (.nil m)
 rw [show compN m m.evs.length (fuelC m) (resR m (-1) s) ⟨[],[]⟩ = compTop m s from rfl] at cw
 rw [hi,errAV_zero] at ci
 have hR2 : atR m s = if (compTop m s).1.1 = true then (⟨0,[],0⟩,7) else (⟨m.evs.length,(compTop m s).2.nodes,(compTop m s).1.2⟩,0):=if_neg (by rw [hi]; simp)
 rw [hR2] at hR
 clear hR2 hi
 generalize inputR m (-1) s = q at *
 obtain ⟨⟨q1,q2,q3⟩,e⟩:=q
 generalize compTop m s = r at *
 obtain ⟨⟨rb,ra⟩,rn,re⟩:=r
 dsimp only at hR
 have cv : Cv [] [(3,.box (.ag [m.av,.ag [.int .i64 m.evs.length,.nils,.int .i64 0],.mp 2])),(2,.amap shN []),(1,.box (.ag [.int .i64 0,.nils,.int .i64 0])),(0,.box m.av)] [] [(4,.tok 3 0),(3,.box (.ag [m.av,.ag [.int .i64 m.evs.length,.sl 3 [] (.own 4),.int .i64 0],.mp 2])),(2,.amap shN []),(1,.box (.ag [.int .i64 0,.nils,.int .i64 0])),(0,.box m.av)] :=
  .growF 3 [1,1] 3 [] (.ag [m.av,.ag [.int .i64 m.evs.length,.nils,.int .i64 0],.mp 2]) .nils _ rfl rfl (.inl ⟨rfl,rfl⟩) rfl (.refl _ _)
 cases rb with
 | true =>
   rw [if_pos rfl] at hR
   subst hR
   rw [show compAV ((true,ra),⟨rn,re⟩) = .tup [.int .i64 ra,.ifc 111 (.int .i64 7)] from rfl] at cw
   refine FnH.intro lay mixed Tryz.func117 (by kernel_rfl) rfl (by kernel_rfl) rfl fun hok=>?_
   (try dsimp only[argC,succC]);(try dsimp only[awp]);conv=>whnf
   refine .pure _ _ ?_ ⟨rfl,rfl⟩ ci fun _=>?_
   ·exact leL_refl _
   (try dsimp only[awp]);conv=>whnf
   rw [show (((m.evs.map Ev.av).length : Nat) : Int) = (m.evs.length : Int) by simp]
   refine .gen _ _ (FnH.pre cv (FnH.frame [2,3,4] cw ⟨rfl,rfl,rfl,rfl⟩ ?_ ?_)) fun _=>?_
   ·all_goals exact wk
   ·all_goals exact wk
   (try dsimp only[awp]);conv=>whnf
   refine ⟨⟨_,_,.refl _ _,?_⟩⟩
   conv=>whnf
   refine ⟨?_,rfl,by simp [nextId],.mk ?_ (by simp [idsOk])⟩
   ·all_goals exact wk
   ·all_goals exact wk
 | false =>
   rw [if_neg (by simp)] at hR
   subst hR
   rw [show compAV ((false,ra),⟨rn,re⟩) = .tup [.int .i64 ra,.nilI] from rfl] at cw
   refine FnH.intro lay mixed Tryz.func117 (by kernel_rfl) rfl (by kernel_rfl) rfl fun hok=>?_
   (try dsimp only[argC,succC]);(try dsimp only[awp]);conv=>whnf
   refine .pure _ _ ?_ ⟨rfl,rfl⟩ ci fun _=>?_
   ·exact leL_refl _
   (try dsimp only[awp]);conv=>whnf
   rw [show (((m.evs.map Ev.av).length : Nat) : Int) = (m.evs.length : Int) by simp]
   refine .gen _ _ (FnH.pre cv (FnH.frame [2,3,4] cw ⟨rfl,rfl,rfl,rfl⟩ ?_ ?_)) fun _=>?_
   ·all_goals exact wk
   ·all_goals exact wk
   (try dsimp only[awp]);conv=>whnf
   refine ⟨⟨_,_,.refl _ _,?_⟩⟩
   conv=>whnf
   refine ⟨?_,rfl,by simp [nextId],.mk ?_ (by simp [idsOk])⟩
   ·all_goals exact wk
   ·all_goals exact wk

theorem errAV_two (e : Int) : errAV e = .nilI ∨ ∃ c : Int,errAV e = .ifc 111 (.int .i64 c):=by
 by_cases h : e = 0
 ·left; rw [h]; rfl
 ·right; exact ⟨e,errAV_ne h⟩

def staticR (m : Md) : Fo × Int:=if checkM m ≠ 0 then (⟨0,[],0⟩,checkM m) else atR m m.top

theorem c_Static (m : Md) (hC : MdC m) (hB : MdB m) (R : AV) (hR : R = atAV (staticR m)) : FnH Tryz.prog 43 [m.av] [] R []:=by
 have cc:=c_mCheck m hC hB _ rfl
 by_cases h0 : checkM m ≠ 0
 ·rw [errAV_ne h0] at cc
  rw [show staticR m = (⟨0,[],0⟩,checkM m) from if_pos h0] at hR
  rw [show atAV (⟨0,[],0⟩,checkM m) = .tup [(⟨0,[],0⟩ : Fo).av,.ifc 111 (.int .i64 (checkM m))] from by unfold atAV; rw [errAV_ne h0]] at hR
  subst hR
  refine FnH.intro lay mixed Tryz.func43 (by kernel_rfl) rfl (by kernel_rfl) rfl fun hok=>?_
  (try dsimp only[argC,succC]);(try dsimp only[awp]);conv=>whnf
  refine .pure _ _ ?_ ⟨rfl,rfl⟩ cc fun _=>?_
  ·exact leL_refl _
  (try dsimp only[awp]);conv=>whnf
  refine ⟨⟨_,_,.refl _ _,?_⟩⟩
  conv=>whnf
  refine ⟨?_,rfl,by simp [nextId],.mk ?_ (by simp [idsOk])⟩
  ·all_goals exact wk
  ·all_goals exact wk
 have h0 : checkM m = 0:=by simpa using h0
 rw [h0,errAV_zero] at cc
 have ca:=c_at m m.top hC hB _ rfl
 rw [show staticR m = atR m m.top from if_neg (by rw [h0]; simp)] at hR
 subst hR
 unfold atAV at *
 have hE:=errAV_two (atR m m.top).2
 generalize errAV (atR m m.top).2 = E at *
 generalize (atR m m.top).1 = f at *
 rcases hE with rfl | ⟨c,rfl⟩
 all_goals
  refine FnH.intro lay mixed Tryz.func43 (by kernel_rfl) rfl (by kernel_rfl) rfl fun hok=>?_
  (try dsimp only[argC,succC]);(try dsimp only[awp]);conv=>whnf
  refine .pure _ _ ?_ ⟨rfl,rfl⟩ cc fun _=>?_
  ·exact leL_refl _
  (try dsimp only[awp]);conv=>whnf
  refine .pure _ _ ?_ ⟨rfl,rfl⟩ ca fun _=>?_
  ·exact leL_refl _
  (try dsimp only[awp]);conv=>whnf
  refine ⟨⟨_,_,.refl _ _,?_⟩⟩
  conv=>whnf
  refine ⟨?_,rfl,by simp [nextId],.mk ?_ (by simp [idsOk])⟩
  ·all_goals exact wk
  ·all_goals exact wk

theorem all_len64 {m : Md} (hM : MOk m) : (allNodes m).length ≤ 64:=by
 have ht : totalM m ≤ 64:=by
  have:=hM.pages
  unfold pagesErr at this
  split at this
  ·cases this
  ·omega
 have h1 : ∀ (l : List Pg) (n : Nat),l.foldl (fun n x=>n + x.gates.length) n = n + (l.map fun p=>p.gates.length).sum:=by
  intro l
  induction l with
  | nil=>intro n; simp
  | cons p l ih=>intro n; simp only [List.foldl_cons,ih,List.map_cons,List.sum_cons]; omega
 have h2 : ∀ (l : List Int),(l.flatMap (nodesAt m)).length = (l.map fun a=>(gatesM m a).length).sum:=by
  intro l
  induction l with
  | nil=>simp
  | cons a l ih=>simp only [List.flatMap_cons,List.length_append,ih,List.map_cons,List.sum_cons]; simp [nodesAt]
 have h3 : (atsM m).map (fun a=>(gatesM m a).length) = m.gates.length :: m.pages.map fun p=>p.gates.length:=by
  unfold atsM
  rw [List.map_map,List.range_succ_eq_map,List.map_cons,List.map_map]
  congr 1
  apply List.ext_getElem
  ·simp
  ·intro i h1 h2
   simp only [List.length_map,List.length_range] at h1
   simp only [List.getElem_map,List.getElem_range,Function.comp]
   unfold gatesM
   rw [if_neg (by omega)]
   have : (((i + 1 : Nat) : Int) - 1).toNat = i:=by omega
   rw [show ((Nat.succ i : Nat) : Int) - 1 = (i : Int) by simp]
   rw [Int.toNat_natCast,List.getD_eq_getElem?_getD,List.getElem?_eq_getElem h1]; rfl
 unfold totalM at ht
 rw [h1] at ht
 unfold allNodes
 rw [h2,h3,List.sum_cons]
 exact ht

theorem CInv.short128 {m : Md} (hM : MOk m) {st : CS} (h : CInv m st) : st.nodes.length ≤ 128:=by
 have:=nodup_sub h.nd (u:=univ m) fun x hx=>by
  obtain ⟨e,he,rfl⟩:=List.mem_map.1 hx
  exact univ_mem (h.ok e he).1 (h.ok e he).2
 rw [List.length_map] at this
 have h1:=all_len64 hM
 have h2:=hM.lens.2
 have : (univ m).length = m.hs.length + (allNodes m).length:=by simp [univ]
 rw [h.len]
 omega

structure VInv (vars : Int) (st : CS) : Prop where
 nd : ∀ (i : Nat) (h : i < st.nodes.length),NdOk vars i st.nodes[i]
 va : ∀ z v,lookO st.es z = some v → 0 ≤ v ∧ v < vars + st.nodes.length

theorem VInv.push {vars : Int} (hv : 0 ≤ vars) {st : CS} (h : VInv vars st) (x : Node) (nd : Nd) (hn : NdOk vars st.nodes.length nd) : VInv vars (pushN vars st x nd).2:=by
 refine ⟨?_,?_⟩
 ·show ∀ (i : Nat) (h : i < (st.nodes ++ [nd]).length),NdOk vars i (st.nodes ++ [nd])[i]
  intro i hi
  by_cases hl : i < st.nodes.length
  ·rw [List.getElem_append_left hl]; exact h.nd i hl
  ·obtain rfl : i = st.nodes.length:=by simp at hi; omega
   rw [List.getElem_append_right (Nat.le_refl _)]
   simpa using hn
 ·show ∀ z v,lookO (mark st.es x (vars + st.nodes.length)) z = some v → 0 ≤ v ∧ v < vars + ((st.nodes ++ [nd]).length : Int)
  intro z v hz
  rw [lookO_mark] at hz
  rw [List.length_append]
  split at hz
  ·obtain rfl:=Option.some.inj hz
   simp; omega
  ·have:=h.va z v hz
   simp; omega

theorem gate_nd {m : Md} (hM : MOk m) {x : Node} (hx : x ∈ allNodes m) (hs : statK (gateAt m x).kind = true) {vars : Int} {i : Nat} {args : List Int} (hl : args.length = (gateAt m x).ins.length) (ha : ∀ a ∈ args,0 ≤ a ∧ a < vars + i) :
  NdOk vars i ⟨kindN (gateAt m x).kind,(gateAt m x).k,args⟩:=by
 obtain ⟨_,h2,h3,h4⟩:=mem_all.1 hx
 have hk : x.2.2.toNat < (gatesM m x.2.1).length:=by omega
 have ho:=(hM.gate h2 hk).own
 have e : gateAt m x = (gatesM m x.2.1)[x.2.2.toNat]:=by unfold gateAt; rw [List.getD_eq_getElem?_getD,List.getElem?_eq_getElem hk]; rfl
 rw [← e] at ho
 generalize gateAt m x = g at *
 clear e
 have hf : argsR g.kind g.ins.length = true ∧ ¬ (g.kind = 2 ∧ (g.k < 1 ∨ (g.ins.length : Int) < g.k)) ∧ ¬ (g.kind ≠ 2 ∧ g.k ≠ 0):=by
  unfold mgErr at ho
  split at ho
  ·cases ho
  split at ho
  ·cases ho
  split at ho
  ·cases ho
  split at ho
  ·cases ho
  split at ho
  ·cases ho
  rename_i q1 q2 q3
  exact ⟨by simpa using q1,q2,q3⟩
 obtain ⟨f1,f2,f3⟩:=hf
 unfold statK at hs
 simp only [Bool.or_eq_true,decide_eq_true_eq] at hs
 rcases hs with ((((e | e) | e) | e) | e) | e <;> rw [e] at f1 f2 f3 ⊢ <;> simp [argsR] at f1 f2 f3 <;> refine ⟨?_,?_,ha,?_⟩ <;> simp [kindN] <;> omega

theorem compL_app (f : Node → CS → (Bool × Int) × CS) : ∀ (l : List Node) (s : CS) (acc : List Int),(compL f l s acc).1.1 = false → (compL f l s acc).1.2.length = acc.length + l.length
 | [],_,_,_=>rfl
 | y :: l,s,acc,h=>by
   unfold compL at h ⊢
   split
   ·rename_i hb; rw [if_pos hb] at h; cases h
   ·rename_i hb
    rw [if_neg hb] at h
    rw [compL_app f l _ _ h]
    simp; omega

theorem comp_wf {m : Md} (hM : MOk m) (vars : Int) (hv : vars = m.evs.length) : ∀ (n : Nat) (x : Node) (st : CS),okN m x → VInv vars st → (compN m vars n x st).1.1 = false →
  VInv vars (compN m vars n x st).2 ∧ (0 ≤ (compN m vars n x st).1.2 ∧ (compN m vars n x st).1.2 < vars + (compN m vars n x st).2.nodes.length) ∧ ∃ r,(compN m vars n x st).2.nodes = st.nodes ++ r
 | 0,_,_,_,_,h=>by cases h
 | n + 1,x,st,hx,hI,h=>by
   have hv0 : 0 ≤ vars:=by omega
   unfold compN at h ⊢
   split
   ·rename_i h0
    refine ⟨hI,?_,[],by simp⟩
    rcases hx with hx | hx | hx
    ·dsimp only; omega
    ·omega
    ·have:=(mem_all.1 hx).1; omega
   rename_i h0
   rw [if_neg h0] at h
   split
   ·rename_i a ha; exact ⟨hI,hI.va x a ha,[],by simp⟩
   rename_i hn
   simp only [hn] at h
   have hpush : ∀ {s : CS} (nd : Nd),VInv vars s → NdOk vars s.nodes.length nd → (∃ r,s.nodes = st.nodes ++ r) → VInv vars (pushN vars s x nd).2 ∧ (0 ≤ (pushN vars s x nd).1.2 ∧ (pushN vars s x nd).1.2 < vars + (pushN vars s x nd).2.nodes.length) ∧ ∃ r,(pushN vars s x nd).2.nodes = st.nodes ++ r:=by
    intro s nd h1 h2 ⟨r,hr⟩
    refine ⟨h1.push hv0 x nd h2,?_,r ++ [nd],?_⟩
    ·show 0 ≤ vars + (s.nodes.length : Int) ∧ vars + (s.nodes.length : Int) < vars + ((s.nodes ++ [nd]).length : Int)
     rw [List.length_append]; simp; omega
    ·show s.nodes ++ [nd] = _
     rw [hr,List.append_assoc]
   split
   ·rename_i h1
    refine hpush _ hI ⟨by simp,by simp,by simp,?_⟩ ⟨[],by simp⟩
    simp
    try (cases (houseAt m x).on <;> simp)
   rename_i h1
   rw [if_neg h1] at h
   have h2 : x.1 = 2:=by
    rcases hx with h | h | h
    ·omega
    ·omega
    ·exact (mem_all.1 h).1
   obtain ⟨hxa,hk⟩:=okN_kids hM.closed hx h2
   split
   ·rename_i hs; rw [if_pos hs] at h; cases h
   rename_i hs
   rw [if_neg hs] at h
   have key : ∀ (l : List Node) (s : CS) (acc : List Int),(∀ y ∈ l,okN m y) → VInv vars s → (∀ a ∈ acc,0 ≤ a ∧ a < vars + s.nodes.length) → (compL (compN m vars n) l s acc).1.1 = false →
     VInv vars (compL (compN m vars n) l s acc).2 ∧ (∀ a ∈ (compL (compN m vars n) l s acc).1.2,0 ≤ a ∧ a < vars + (compL (compN m vars n) l s acc).2.nodes.length) ∧ ∃ r,(compL (compN m vars n) l s acc).2.nodes = s.nodes ++ r:=by
    intro l
    induction l with
    | nil=>intro s acc _ h1 h2 _; exact ⟨h1,h2,[],by simp [compL]⟩
    | cons y l ih =>
      intro s acc hl h1 h2 he
      unfold compL at he ⊢
      split
      ·rename_i hb; rw [if_pos hb] at he; cases he
      ·rename_i hb
       rw [if_neg hb] at he
       obtain ⟨g1,g2,r,g3⟩:=comp_wf hM vars hv n y s (hl y (by simp)) h1 (by simpa using hb)
       have hle : (s.nodes.length : Int) ≤ (compN m vars n y s).2.nodes.length:=by rw [g3,List.length_append]; omega
       obtain ⟨i1,i2,r',i3⟩:=ih _ _ (fun z hz=>hl z (by simp [hz])) g1 (fun a ha=>by
        rcases List.mem_append.1 ha with ha | ha
        ·have:=h2 a ha; omega
        ·simp at ha; subst ha; exact g2) he
       exact ⟨i1,i2,r ++ r',by rw [i3,g3,List.append_assoc]⟩
   split
   ·rename_i he; rw [if_pos he] at h; cases h
   ·rename_i he
    have he : (compL (compN m vars n) (kidsM m x) st []).1.1 = false:=by simpa using he
    obtain ⟨k1,k2,k3⟩:=key _ _ _ hk hI (by simp) he
    refine hpush _ k1 (gate_nd hM hxa (by simpa using hs) ?_ k2) k3
    rw [compL_app _ _ _ _ he]
    simp [kidsM]

theorem VInv.nil (vars : Int) : VInv vars ⟨[],[]⟩:=⟨fun i h=>by simp at h,fun z v h=>by cases h⟩

theorem at_ok {m : Md} (hM : MOk m) {s : Str} (hs : isInR m (-1) s = true) (he : (compTop m s).1.1 = false) : FOk ⟨m.evs.length,(compTop m s).2.nodes,(compTop m s).1.2⟩:=by
 have hok:=(hM.inOk (.inl rfl) hs).ok
 obtain ⟨rank,hr,_⟩:=hM.rank
 obtain ⟨h1,h2,_⟩:=comp_wf hM m.evs.length rfl (fuelC m) _ ⟨[],[]⟩ hok (.nil _) he
 have h3:=(comp_inv hM.closed hr m.evs.length (fuelC m) _ ⟨[],[]⟩ hok (.nil m)).1.short128 hM
 have:=hM.lens.1
 exact ⟨⟨by simp,by show (m.evs.length : Int) ≤ 24; omega⟩,h3,h1.nd,h2⟩
end S
