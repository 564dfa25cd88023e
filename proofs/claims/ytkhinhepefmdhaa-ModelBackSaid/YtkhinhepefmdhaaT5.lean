/-
  Contracts of functions of the program, over the logic of the texts before. Nothing is assumed.
-/
import Derived.Test.YtkhinhepefmdhaaT4

open Go Go.AL Go.Proofs
namespace S
set_option maxRecDepth 100000

def fewG (x : Mg) : Bool := decide (x.ins.length ≤ 40) && shortR x.dorm
def fewR (l : List Mg) : Bool := l.all fewG && decide (l.length ≤ 100)
def evS (x : Ev) : Bool := shortR x.p && shortR x.fail && shortR x.repair
def grS (x : Gr) : Bool := decide (x.mem.length ≤ 60) && decide (x.fac.length ≤ 60) && x.fac.all shortR
def phS (x : Ph) : Bool := decide (x.vals.length ≤ 60) && x.vals.all fun v => shortR v.p

def lightM (m : Md) : Bool := decide (m.evs.length ≤ 60) && decide (m.hs.length ≤ 60) && decide (m.pages.length ≤ 30) && decide (m.grs.length ≤ 30) && decide (m.phs.length ≤ 30) && fewR m.gates &&
 m.evs.all evS && (m.pages.all fun p => fewR p.gates) && m.grs.all grS && m.phs.all phS

theorem c_few (l : List Mg) (R : AV) (hR : R = .bool (fewR l)) : FnH Try.prog 52 [gL l] [] R [] := by
 refine FnH.intro lay mixed Try.func52 (by kernel_rfl) rfl (by kernel_rfl) rfl fun hok => ?_
 have lg : l.length ≤ 9223372036854775807 := by have := hok.1.1; simpa [maxL] using this
 ((try dsimp only[argC,succC]);(try dsimp only[awp]);(conv=>whnf))
 refine LoopE.of <| LoopSpec.inv (.refl _ _) (fun (i : Nat) => i ≤ l.length ∧ (l.take i).all fewG = true) (fun (i : Nat) => [(7, .int .i64 i)]) (fun _ => _) (fun (i : Nat) => l.length - i) 0 ?_ (fun _ => rfl) ?_ ?_
 ·exact ⟨Nat.zero_le _, by simp⟩
 ·(repeat' first|exact rfl|exact trivial|exact wR|exact lR _|apply aI)
 rintro i ⟨hi, hn⟩ _
 ((try dsimp only[awp]);(conv=>whnf))
 refine And.intro (fun h => ?_) (fun h => ?_)
 ·have hlt : i < l.length := by simpa using h
  have hall := all_take (p := fewG) hlt
  have hmem := List.getElem_mem hlt
  ((try dsimp only[awp]);(conv=>whnf))
  refine aidx hlt ?_
  generalize l[i] = g at *
  have no : fewG g = false → R = .bool false := fun h => by rw [hR]; unfold fewR; rw [all_false hmem h]; rfl
  ((try dsimp only[awp]);(conv=>whnf))
  refine And.intro (fun h1 => ?_) (fun h1 => ?_)
  ·have h1 : ¬ g.ins.length ≤ 40 := by simp only [List.length_map] at h1; omega
   obtain rfl := no (by simp [fewG, h1])
   ((try dsimp only[awp]);(conv=>whnf))
   (refine fM ?_;(conv=>whnf);refine ⟨?_,rfl⟩;(conv=>whnf))
   (repeat' first|exact rfl|exact trivial|exact wR|exact lR _|apply aI)
  have h1 : g.ins.length ≤ 40 := by simp only [List.length_map] at h1; omega
  ((try dsimp only[awp]);(conv=>whnf))
  refine .pure _ _ ?_ ⟨rfl, rfl⟩ (c_Short g.dorm) fun _ => ?_
  ·exact leL_refl _
  ((try dsimp only[awp]);(conv=>whnf))
  refine And.intro (fun h2 => ?_) (fun h2 => ?_)
  ·have h2 : shortR g.dorm = false := by simpa using h2
   obtain rfl := no (by simp [fewG, h2])
   ((try dsimp only[awp]);(conv=>whnf))
   (refine fM ?_;(conv=>whnf);refine ⟨?_,rfl⟩;(conv=>whnf))
   (repeat' first|exact rfl|exact trivial|exact wR|exact lR _|apply aI)
  have h2 : shortR g.dorm = true := by simpa using h2
  ((try dsimp only[awp]);(conv=>whnf))
  (refine ⟨inr64 (by omega) (by omega),?_⟩;(conv=>whnf))
  refine ⟨i + 1, ?_, ?_, ?_⟩
  ·exact ⟨hlt, by rw [hall, hn]; simp [fewG, h1, h2]⟩
  ·refine ⟨?_, .mk ?_ trivial⟩
   ·(repeat' first|exact rfl|exact trivial|exact wR|exact lR _|apply aI)
   ·(repeat' first|exact rfl|exact trivial|exact wR|exact lR _|apply aI)
  ·omega
 have hil : i = l.length := by have : ¬ i < l.length := by simpa using h
                               omega
 subst hil
 rw [List.take_length] at hn
 subst hR
 ((try dsimp only[awp]);(conv=>whnf))
 (refine fM ?_;(conv=>whnf);refine ⟨?_,rfl⟩;(conv=>whnf))
 show _ ↔ _
 simp [fewR, hn]
 omega

theorem c_LightM (m : Md) (R : AV) (hR : R = .bool (lightM m)) : FnH Try.prog 23 [m.av] [] R [] := by
 refine FnH.intro lay mixed Try.func23 (by kernel_rfl) rfl (by kernel_rfl) rfl fun hok => ?_
 ((try dsimp only[argC,succC]);(try dsimp only[awp]);(conv=>whnf))
 refine And.intro (fun h1 => ?_) (fun h1 => ?_)
 ·have h1 : ¬ m.evs.length ≤ 60 := by simp only [List.length_map] at h1; omega
  obtain rfl : R = .bool false := by rw [hR]; congr 1; unfold lightM; rw [decide_eq_false h1]; simp
  ((try dsimp only[awp]);(conv=>whnf))
  (refine fM ?_;(conv=>whnf);refine ⟨?_,rfl⟩;(conv=>whnf))
  (repeat' first|exact rfl|exact trivial|exact wR|exact lR _|apply aI)
 have h1 : m.evs.length ≤ 60 := by simp only [List.length_map] at h1; omega
 ((try dsimp only[awp]);(conv=>whnf))
 refine And.intro (fun h2 => ?_) (fun h2 => ?_)
 ·have h2 : ¬ m.hs.length ≤ 60 := by simp only [List.length_map] at h2; omega
  obtain rfl : R = .bool false := by rw [hR]; congr 1; unfold lightM; rw [decide_eq_false h2]; simp
  ((try dsimp only[awp]);(conv=>whnf))
  (refine fM ?_;(conv=>whnf);refine ⟨?_,rfl⟩;(conv=>whnf))
  (repeat' first|exact rfl|exact trivial|exact wR|exact lR _|apply aI)
 have h2 : m.hs.length ≤ 60 := by simp only [List.length_map] at h2; omega
 ((try dsimp only[awp]);(conv=>whnf))
 refine And.intro (fun h3 => ?_) (fun h3 => ?_)
 ·have h3 : ¬ m.pages.length ≤ 30 := by simp only [List.length_map] at h3; omega
  obtain rfl : R = .bool false := by rw [hR]; congr 1; unfold lightM; rw [decide_eq_false h3]; simp
  ((try dsimp only[awp]);(conv=>whnf))
  (refine fM ?_;(conv=>whnf);refine ⟨?_,rfl⟩;(conv=>whnf))
  (repeat' first|exact rfl|exact trivial|exact wR|exact lR _|apply aI)
 have h3 : m.pages.length ≤ 30 := by simp only [List.length_map] at h3; omega
 ((try dsimp only[awp]);(conv=>whnf))
 refine And.intro (fun h4 => ?_) (fun h4 => ?_)
 ·have h4 : ¬ m.grs.length ≤ 30 := by simp only [List.length_map] at h4; omega
  obtain rfl : R = .bool false := by rw [hR]; congr 1; unfold lightM; rw [decide_eq_false h4]; simp
  ((try dsimp only[awp]);(conv=>whnf))
  (refine fM ?_;(conv=>whnf);refine ⟨?_,rfl⟩;(conv=>whnf))
  (repeat' first|exact rfl|exact trivial|exact wR|exact lR _|apply aI)
 have h4 : m.grs.length ≤ 30 := by simp only [List.length_map] at h4; omega
 ((try dsimp only[awp]);(conv=>whnf))
 refine And.intro (fun h5 => ?_) (fun h5 => ?_)
 ·have h5 : ¬ m.phs.length ≤ 30 := by simp only [List.length_map] at h5; omega
  obtain rfl : R = .bool false := by rw [hR]; congr 1; unfold lightM; rw [decide_eq_false h5]; simp
  ((try dsimp only[awp]);(conv=>whnf))
  (refine fM ?_;(conv=>whnf);refine ⟨?_,rfl⟩;(conv=>whnf))
  (repeat' first|exact rfl|exact trivial|exact wR|exact lR _|apply aI)
 have h5 : m.phs.length ≤ 30 := by simp only [List.length_map] at h5; omega
 ((try dsimp only[awp]);(conv=>whnf))
 refine .pure _ _ ?_ ⟨rfl, rfl⟩ (c_few m.gates _ rfl) fun _ => ?_
 ·exact leL_refl _
 ((try dsimp only[awp]);(conv=>whnf))
 refine And.intro (fun h6 => ?_) (fun h6 => ?_)
 ·have h6 : fewR m.gates = false := by simpa using h6
  obtain rfl : R = .bool false := by rw [hR]; congr 1; unfold lightM; rw [h6]; simp
  ((try dsimp only[awp]);(conv=>whnf))
  (refine fM ?_;(conv=>whnf);refine ⟨?_,rfl⟩;(conv=>whnf))
  (repeat' first|exact rfl|exact trivial|exact wR|exact lR _|apply aI)
 have h6 : fewR m.gates = true := by simpa using h6
 ((try dsimp only[awp]);(conv=>whnf))
 refine LoopE.of <| LoopSpec.inv (.refl _ _) (fun (i : Nat) => i ≤ m.evs.length ∧ (m.evs.take i).all evS = true) (fun (i : Nat) => [(52, .int .i64 i)]) (fun _ => _) (fun (i : Nat) => m.evs.length - i) 0 ?_ (fun _ => rfl) ?_ ?_
 ·exact ⟨Nat.zero_le _, by simp⟩
 ·(repeat' first|exact rfl|exact trivial|exact wR|exact lR _|apply aI)
 rintro i ⟨hi, hn⟩ _
 ((try dsimp only[awp]);(conv=>whnf))
 refine And.intro (fun h => ?_) (fun h => ?_)
 ·have hlt : i < m.evs.length := by simpa using h
  have hall := all_take (p := evS) hlt
  have hmem := List.getElem_mem hlt
  ((try dsimp only[awp]);(conv=>whnf))
  refine aidx hlt ?_
  generalize m.evs[i] = g at *
  ((try dsimp only[awp]);(conv=>whnf))
  refine .pure _ _ ?_ ⟨rfl, rfl⟩ (c_Short g.p) fun _ => ?_
  ·exact leL_refl _
  ((try dsimp only[awp]);(conv=>whnf))
  refine And.intro (fun q1 => ?_) (fun q1 => ?_)
  ·have q1 : shortR g.p = false := by simpa using q1
   obtain rfl : R = .bool false := by rw [hR]; congr 1; unfold lightM; rw [all_false hmem (show evS g = false by simp [evS, q1])]; simp
   ((try dsimp only[awp]);(conv=>whnf))
   (refine fM ?_;(conv=>whnf);refine ⟨?_,rfl⟩;(conv=>whnf))
   (repeat' first|exact rfl|exact trivial|exact wR|exact lR _|apply aI)
  have q1 : shortR g.p = true := by simpa using q1
  ((try dsimp only[awp]);(conv=>whnf))
  refine .pure _ _ ?_ ⟨rfl, rfl⟩ (c_Short g.fail) fun _ => ?_
  ·exact leL_refl _
  ((try dsimp only[awp]);(conv=>whnf))
  refine And.intro (fun q2 => ?_) (fun q2 => ?_)
  ·have q2 : shortR g.fail = false := by simpa using q2
   obtain rfl : R = .bool false := by rw [hR]; congr 1; unfold lightM; rw [all_false hmem (show evS g = false by simp [evS, q2])]; simp
   ((try dsimp only[awp]);(conv=>whnf))
   (refine fM ?_;(conv=>whnf);refine ⟨?_,rfl⟩;(conv=>whnf))
   (repeat' first|exact rfl|exact trivial|exact wR|exact lR _|apply aI)
  have q2 : shortR g.fail = true := by simpa using q2
  ((try dsimp only[awp]);(conv=>whnf))
  refine .pure _ _ ?_ ⟨rfl, rfl⟩ (c_Short g.repair) fun _ => ?_
  ·exact leL_refl _
  ((try dsimp only[awp]);(conv=>whnf))
  refine And.intro (fun q3 => ?_) (fun q3 => ?_)
  ·have q3 : shortR g.repair = false := by simpa using q3
   obtain rfl : R = .bool false := by rw [hR]; congr 1; unfold lightM; rw [all_false hmem (show evS g = false by simp [evS, q3])]; simp
   ((try dsimp only[awp]);(conv=>whnf))
   (refine fM ?_;(conv=>whnf);refine ⟨?_,rfl⟩;(conv=>whnf))
   (repeat' first|exact rfl|exact trivial|exact wR|exact lR _|apply aI)
  have q3 : shortR g.repair = true := by simpa using q3
  ((try dsimp only[awp]);(conv=>whnf))
  (refine ⟨inr64 (by omega) (by omega),?_⟩;(conv=>whnf))
  refine ⟨i + 1, ?_, ?_, ?_⟩
  ·exact ⟨hlt, by rw [hall, hn]; simp [evS, q1, q2, q3]⟩
  ·refine ⟨?_, .mk ?_ ⟨by simp, trivial⟩⟩
   ·(repeat' first|exact rfl|exact trivial|exact wR|exact lR _|apply aI)
   ·(repeat' first|exact rfl|exact trivial|exact wR|exact lR _|apply aI)
  ·omega
 have hil : i = m.evs.length := by have : ¬ i < m.evs.length := by simpa using h
                                   omega
 subst hil
 rw [List.take_length] at hn
 have a1 := hn
 clear h hi hn
 ((try dsimp only[awp]);(conv=>whnf))
 refine LoopE.of <| LoopSpec.inv (.refl _ _) (fun (i : Nat) => i ≤ m.pages.length ∧ (m.pages.take i).all (fun p => fewR p.gates) = true) (fun (i : Nat) => [(76, .int .i64 i)]) (fun _ => _) (fun (i : Nat) => m.pages.length - i) 0 ?_ (fun _ => rfl) ?_ ?_
 ·exact ⟨Nat.zero_le _, by simp⟩
 ·(repeat' first|exact rfl|exact trivial|exact wR|exact lR _|apply aI)
 rintro i ⟨hi, hn⟩ _
 ((try dsimp only[awp]);(conv=>whnf))
 refine And.intro (fun h => ?_) (fun h => ?_)
 ·have hlt : i < m.pages.length := by simpa using h
  have hall := all_take (p := fun p : Pg => fewR p.gates) hlt
  have hmem := List.getElem_mem hlt
  ((try dsimp only[awp]);(conv=>whnf))
  refine aidx hlt ?_
  generalize m.pages[i] = g at *
  ((try dsimp only[awp]);(conv=>whnf))
  refine .pure _ _ ?_ ⟨rfl, rfl⟩ (c_few g.gates _ rfl) fun _ => ?_
  ·exact leL_refl _
  ((try dsimp only[awp]);(conv=>whnf))
  refine And.intro (fun q1 => ?_) (fun q1 => ?_)
  ·have q1 : fewR g.gates = false := by simpa using q1
   obtain rfl : R = .bool false := by rw [hR]; congr 1; unfold lightM; rw [all_false (p := fun p : Pg => fewR p.gates) hmem q1]; simp
   ((try dsimp only[awp]);(conv=>whnf))
   (refine fM ?_;(conv=>whnf);refine ⟨?_,rfl⟩;(conv=>whnf))
   (repeat' first|exact rfl|exact trivial|exact wR|exact lR _|apply aI)
  have q1 : fewR g.gates = true := by simpa using q1
  ((try dsimp only[awp]);(conv=>whnf))
  (refine ⟨inr64 (by omega) (by omega),?_⟩;(conv=>whnf))
  refine ⟨i + 1, ?_, ?_, ?_⟩
  ·exact ⟨hlt, by rw [hall, hn]; simp [q1]⟩
  ·refine ⟨?_, .mk ?_ ⟨by simp, trivial⟩⟩
   ·(repeat' first|exact rfl|exact trivial|exact wR|exact lR _|apply aI)
   ·(repeat' first|exact rfl|exact trivial|exact wR|exact lR _|apply aI)
  ·omega
 have hil : i = m.pages.length := by have : ¬ i < m.pages.length := by simpa using h
                                     omega
 subst hil
 rw [List.take_length] at hn
 have a2 := hn
 clear h hi hn
 ((try dsimp only[awp]);(conv=>whnf))
 refine LoopE.of <| LoopSpec.inv (.refl _ _) (fun (i : Nat) => i ≤ m.grs.length ∧ (m.grs.take i).all grS = true) (fun (i : Nat) => [(88, .int .i64 i)]) (fun _ => _) (fun (i : Nat) => m.grs.length - i) 0 ?_ (fun _ => rfl) ?_ ?_
 ·exact ⟨Nat.zero_le _, by simp⟩
 ·(repeat' first|exact rfl|exact trivial|exact wR|exact lR _|apply aI)
 rintro i ⟨hi, hn⟩ _
 ((try dsimp only[awp]);(conv=>whnf))
 refine And.intro (fun h => ?_) (fun h => ?_)
 ·have hlt : i < m.grs.length := by simpa using h
  have hall := all_take (p := grS) hlt
  have hmem := List.getElem_mem hlt
  ((try dsimp only[awp]);(conv=>whnf))
  refine aidx hlt ?_
  generalize m.grs[i] = g at *
  ((try dsimp only[awp]);(conv=>whnf))
  refine And.intro (fun q1 => ?_) (fun q1 => ?_)
  ·have q1 : ¬ g.mem.length ≤ 60 := by simp only [List.length_map] at q1; omega
   obtain rfl : R = .bool false := by rw [hR]; congr 1; unfold lightM; rw [all_false hmem (show grS g = false by simp [grS, q1])]; simp
   ((try dsimp only[awp]);(conv=>whnf))
   (refine fM ?_;(conv=>whnf);refine ⟨?_,rfl⟩;(conv=>whnf))
   (repeat' first|exact rfl|exact trivial|exact wR|exact lR _|apply aI)
  have q1 : g.mem.length ≤ 60 := by simp only [List.length_map] at q1; omega
  ((try dsimp only[awp]);(conv=>whnf))
  refine And.intro (fun q2 => ?_) (fun q2 => ?_)
  ·have q2 : ¬ g.fac.length ≤ 60 := by simp only [List.length_map] at q2; omega
   obtain rfl : R = .bool false := by rw [hR]; congr 1; unfold lightM; rw [all_false hmem (show grS g = false by simp [grS, q2])]; simp
   ((try dsimp only[awp]);(conv=>whnf))
   (refine fM ?_;(conv=>whnf);refine ⟨?_,rfl⟩;(conv=>whnf))
   (repeat' first|exact rfl|exact trivial|exact wR|exact lR _|apply aI)
  have q2 : g.fac.length ≤ 60 := by simp only [List.length_map] at q2; omega
  ((try dsimp only[awp]);(conv=>whnf))
  refine LoopE.of <| LoopSpec.inv (.refl _ _) (fun (j : Nat) => j ≤ g.fac.length ∧ (g.fac.take j).all shortR = true) (fun (j : Nat) => [(105, .int .i64 j)]) (fun _ => _) (fun (j : Nat) => g.fac.length - j) 0 ?_ (fun _ => rfl) ?_ ?_
  ·exact ⟨Nat.zero_le _, by simp⟩
  ·(repeat' first|exact rfl|exact trivial|exact wR|exact lR _|apply aI)
  rintro j ⟨hj, hnj⟩ _
  ((try dsimp only[awp]);(conv=>whnf))
  refine And.intro (fun hh => ?_) (fun hh => ?_)
  ·have hjl : j < g.fac.length := by simpa using hh
   have hallj := all_take (p := shortR) hjl
   have hmj := List.getElem_mem hjl
   ((try dsimp only[awp]);(conv=>whnf))
   refine aidx hjl ?_
   generalize g.fac[j] = r at *
   ((try dsimp only[awp]);(conv=>whnf))
   refine .pure _ _ ?_ ⟨rfl, rfl⟩ (c_Short r) fun _ => ?_
   ·exact leL_refl _
   ((try dsimp only[awp]);(conv=>whnf))
   refine And.intro (fun q3 => ?_) (fun q3 => ?_)
   ·have q3 : shortR r = false := by simpa using q3
    obtain rfl : R = .bool false := by rw [hR]; congr 1; unfold lightM; rw [all_false hmem (show grS g = false by simp [grS, all_false hmj q3])]; simp
    ((try dsimp only[awp]);(conv=>whnf))
    (refine fM ?_;(conv=>whnf);refine ⟨?_,rfl⟩;(conv=>whnf))
    (repeat' first|exact rfl|exact trivial|exact wR|exact lR _|apply aI)
   have q3 : shortR r = true := by simpa using q3
   ((try dsimp only[awp]);(conv=>whnf))
   (refine ⟨inr64 (by omega) (by omega),?_⟩;(conv=>whnf))
   refine ⟨j + 1, ?_, ?_, ?_⟩
   ·exact ⟨hjl, by rw [hallj, hnj, q3]; rfl⟩
   ·refine ⟨?_, .mk ?_ ⟨by simp, by simp, trivial⟩⟩
    ·(repeat' first|exact rfl|exact trivial|exact wR|exact lR _|apply aI)
    ·(repeat' first|exact rfl|exact trivial|exact wR|exact lR _|apply aI)
   ·omega
  have hjl : j = g.fac.length := by have : ¬ j < g.fac.length := by simpa using hh
                                    omega
  subst hjl
  rw [List.take_length] at hnj
  ((try dsimp only[awp]);(conv=>whnf))
  (refine ⟨inr64 (by omega) (by omega),?_⟩;(conv=>whnf))
  refine ⟨i + 1, ?_, ?_, ?_⟩
  ·exact ⟨hlt, by rw [hall, hn]; simp [grS, q1, q2, hnj]⟩
  ·refine ⟨?_, .mk ?_ ⟨by simp, trivial⟩⟩
   ·(repeat' first|exact rfl|exact trivial|exact wR|exact lR _|apply aI)
   ·(repeat' first|exact rfl|exact trivial|exact wR|exact lR _|apply aI)
  ·omega
 have hil : i = m.grs.length := by have : ¬ i < m.grs.length := by simpa using h
                                   omega
 subst hil
 rw [List.take_length] at hn
 have a3 := hn
 clear h hi hn
 ((try dsimp only[awp]);(conv=>whnf))
 refine LoopE.of <| LoopSpec.inv (.refl _ _) (fun (i : Nat) => i ≤ m.phs.length ∧ (m.phs.take i).all phS = true) (fun (i : Nat) => [(117, .int .i64 i)]) (fun _ => _) (fun (i : Nat) => m.phs.length - i) 0 ?_ (fun _ => rfl) ?_ ?_
 ·exact ⟨Nat.zero_le _, by simp⟩
 ·(repeat' first|exact rfl|exact trivial|exact wR|exact lR _|apply aI)
 rintro i ⟨hi, hn⟩ _
 ((try dsimp only[awp]);(conv=>whnf))
 refine And.intro (fun h => ?_) (fun h => ?_)
 ·have hlt : i < m.phs.length := by simpa using h
  have hall := all_take (p := phS) hlt
  have hmem := List.getElem_mem hlt
  ((try dsimp only[awp]);(conv=>whnf))
  refine aidx hlt ?_
  generalize m.phs[i] = g at *
  ((try dsimp only[awp]);(conv=>whnf))
  refine And.intro (fun q1 => ?_) (fun q1 => ?_)
  ·have q1 : ¬ g.vals.length ≤ 60 := by simp only [List.length_map] at q1; omega
   obtain rfl : R = .bool false := by rw [hR]; congr 1; unfold lightM; rw [all_false hmem (show phS g = false by simp [phS, q1])]; simp
   ((try dsimp only[awp]);(conv=>whnf))
   (refine fM ?_;(conv=>whnf);refine ⟨?_,rfl⟩;(conv=>whnf))
   (repeat' first|exact rfl|exact trivial|exact wR|exact lR _|apply aI)
  have q1 : g.vals.length ≤ 60 := by simp only [List.length_map] at q1; omega
  ((try dsimp only[awp]);(conv=>whnf))
  refine LoopE.of <| LoopSpec.inv (.refl _ _) (fun (j : Nat) => j ≤ g.vals.length ∧ (g.vals.take j).all (fun v => shortR v.p) = true) (fun (j : Nat) => [(128, .int .i64 j)]) (fun _ => _) (fun (j : Nat) => g.vals.length - j) 0 ?_ (fun _ => rfl) ?_ ?_
  ·exact ⟨Nat.zero_le _, by simp⟩
  ·(repeat' first|exact rfl|exact trivial|exact wR|exact lR _|apply aI)
  rintro j ⟨hj, hnj⟩ _
  ((try dsimp only[awp]);(conv=>whnf))
  refine And.intro (fun hh => ?_) (fun hh => ?_)
  ·have hjl : j < g.vals.length := by simpa using hh
   have hallj := all_take (p := fun v : Pv => shortR v.p) hjl
   have hmj := List.getElem_mem hjl
   ((try dsimp only[awp]);(conv=>whnf))
   refine aidx hjl ?_
   generalize g.vals[j] = r at *
   ((try dsimp only[awp]);(conv=>whnf))
   refine .pure _ _ ?_ ⟨rfl, rfl⟩ (c_Short r.p) fun _ => ?_
   ·exact leL_refl _
   ((try dsimp only[awp]);(conv=>whnf))
   refine And.intro (fun q3 => ?_) (fun q3 => ?_)
   ·have q3 : shortR r.p = false := by simpa using q3
    have q4 := all_false (p := fun v : Pv => shortR v.p) hmj q3
    obtain rfl : R = .bool false := by rw [hR]; congr 1; unfold lightM; rw [all_false hmem (show phS g = false by unfold phS; rw [q4]; simp)]; simp
    ((try dsimp only[awp]);(conv=>whnf))
    (refine fM ?_;(conv=>whnf);refine ⟨?_,rfl⟩;(conv=>whnf))
    (repeat' first|exact rfl|exact trivial|exact wR|exact lR _|apply aI)
   have q3 : shortR r.p = true := by simpa using q3
   ((try dsimp only[awp]);(conv=>whnf))
   (refine ⟨inr64 (by omega) (by omega),?_⟩;(conv=>whnf))
   refine ⟨j + 1, ?_, ?_, ?_⟩
   ·exact ⟨hjl, by rw [hallj, hnj, q3]; rfl⟩
   ·refine ⟨?_, .mk ?_ ⟨by simp, by simp, trivial⟩⟩
    ·(repeat' first|exact rfl|exact trivial|exact wR|exact lR _|apply aI)
    ·(repeat' first|exact rfl|exact trivial|exact wR|exact lR _|apply aI)
   ·omega
  have hjl : j = g.vals.length := by have : ¬ j < g.vals.length := by simpa using hh
                                     omega
  subst hjl
  rw [List.take_length] at hnj
  ((try dsimp only[awp]);(conv=>whnf))
  (refine ⟨inr64 (by omega) (by omega),?_⟩;(conv=>whnf))
  refine ⟨i + 1, ?_, ?_, ?_⟩
  ·exact ⟨hlt, by rw [hall, hn]; unfold phS; rw [hnj]; simp [q1]⟩
  ·refine ⟨?_, .mk ?_ ⟨by simp, trivial⟩⟩
   ·(repeat' first|exact rfl|exact trivial|exact wR|exact lR _|apply aI)
   ·(repeat' first|exact rfl|exact trivial|exact wR|exact lR _|apply aI)
  ·omega
 have hil : i = m.phs.length := by have : ¬ i < m.phs.length := by simpa using h
                                   omega
 subst hil
 rw [List.take_length] at hn
 obtain rfl : R = .bool true := by rw [hR]; congr 1; unfold lightM; rw [a1, a2, a3, hn, h6]; simp [h1, h2, h3, h4, h5]
 ((try dsimp only[awp]);(conv=>whnf))
 (refine fM ?_;(conv=>whnf);refine ⟨?_,rfl⟩;(conv=>whnf))
 (repeat' first|exact rfl|exact trivial|exact wR|exact lR _|apply aI)

theorem few_B {l : List Mg} (h : fewR l = true) : l.length ≤ 100 ∧ (∀ x ∈ l, x.ins.length ≤ 40) ∧ mgC l := by
 unfold fewR at h
 simp only [Bool.and_eq_true, decide_eq_true_eq] at h
 refine ⟨h.2, fun x hx => ?_, fun x hx => ?_⟩
 ·have := List.all_eq_true.1 h.1 x hx
  simp only [fewG, Bool.and_eq_true, decide_eq_true_eq] at this
  exact this.1
 ·have := List.all_eq_true.1 h.1 x hx
  simp only [fewG, Bool.and_eq_true, decide_eq_true_eq] at this
  exact shortR_C this.2

theorem lightM_B {m : Md} (h : lightM m = true) : MdB m ∧ MdC m := by
 unfold lightM at h
 simp only [Bool.and_eq_true, decide_eq_true_eq] at h
 obtain ⟨⟨⟨⟨⟨⟨⟨⟨⟨h1, h2⟩, h3⟩, h4⟩, h5⟩, h6⟩, h7⟩, h8⟩, h9⟩, h10⟩ := h
 have f6 := few_B h6
 refine ⟨⟨h1, h2, ⟨f6.1, f6.2.1⟩, h3, fun p hp => ?_, h4, fun g hg => ?_, h5, fun p hp => ?_⟩, ⟨fun x hx => ?_, f6.2.2, fun p hp => ?_, fun g hg f hf => ?_, fun p hp v hv => ?_⟩⟩
 ·have := few_B (List.all_eq_true.1 h8 p hp)
  exact ⟨this.1, this.2.1⟩
 ·have := List.all_eq_true.1 h9 g hg
  simp only [grS, Bool.and_eq_true, decide_eq_true_eq] at this
  exact this.1
 ·have := List.all_eq_true.1 h10 p hp
  simp only [phS, Bool.and_eq_true, decide_eq_true_eq] at this
  exact this.1
 ·have := List.all_eq_true.1 h7 x hx
  simp only [evS, Bool.and_eq_true] at this
  exact ⟨shortR_C this.1.1, shortR_C this.1.2, shortR_C this.2⟩
 ·exact (few_B (List.all_eq_true.1 h8 p hp)).2.2
 ·have := List.all_eq_true.1 h9 g hg
  simp only [grS, Bool.and_eq_true, decide_eq_true_eq] at this
  exact shortR_C (List.all_eq_true.1 this.2 f hf)
 ·have := List.all_eq_true.1 h10 p hp
  simp only [phS, Bool.and_eq_true, decide_eq_true_eq] at this
  exact shortR_C (List.all_eq_true.1 this.2 v hv)
end S

open Go Go.AL Go.Proofs
namespace S
set_option maxRecDepth 100000

def shortX (x : Rat) : Prop := x.num.length ≤ 40 ∧ x.den.length ≤ 40

structure MdX (m : Md) : Prop where
 evs : ∀ x ∈ m.evs, shortX x.p ∧ shortX x.fail ∧ shortX x.repair
 gates : ∀ x ∈ m.gates, shortX x.dorm
 pages : ∀ p ∈ m.pages, ∀ x ∈ p.gates, shortX x.dorm
 grs : ∀ x ∈ m.grs, ∀ f ∈ x.fac, shortX f
 phs : ∀ x ∈ m.phs, ∀ v ∈ x.vals, shortX v.p

theorem shortX_of {x : Rat} (h : shortR x = true) : shortX x := by
 simpa [shortR, shortX] using h

theorem few_X {l : List Mg} (h : fewR l = true) : ∀ x ∈ l, shortX x.dorm := by
 intro x hx
 unfold fewR at h
 simp only [Bool.and_eq_true] at h
 have := List.all_eq_true.1 h.1 x hx
 simp only [fewG, Bool.and_eq_true] at this
 exact shortX_of this.2

theorem lightM_X {m : Md} (h : lightM m = true) : MdX m := by
 unfold lightM at h
 simp only [Bool.and_eq_true, decide_eq_true_eq] at h
 obtain ⟨⟨⟨⟨⟨⟨⟨⟨⟨h1, h2⟩, h3⟩, h4⟩, h5⟩, h6⟩, h7⟩, h8⟩, h9⟩, h10⟩ := h
 refine ⟨fun x hx => ?_, few_X h6, fun p hp => few_X (List.all_eq_true.1 h8 p hp), fun g hg f hf => ?_, fun p hp v hv => ?_⟩
 ·have := List.all_eq_true.1 h7 x hx
  simp only [evS, Bool.and_eq_true] at this
  exact ⟨shortX_of this.1.1, shortX_of this.1.2, shortX_of this.2⟩
 ·have := List.all_eq_true.1 h9 g hg
  simp only [grS, Bool.and_eq_true] at this
  exact shortX_of (List.all_eq_true.1 this.2 f hf)
 ·have := List.all_eq_true.1 h10 p hp
  simp only [phS, Bool.and_eq_true] at this
  exact shortX_of (List.all_eq_true.1 this.2 v hv)

abbrev zMd : AV := .ag [.str [], .str [], .nils, .nils, .nils, .nils, .nils, .nils]
end S

open Go Go.AL Go.Proofs
namespace S
set_option maxRecDepth 100000

def rnS (old new s : Str) : Str := if s = old then new else s
def rnG (old new : Str) (g : Mg) : Mg := { g with ins := g.ins.map (rnS old new) }
def rnE (old new : Str) (x : Ev) : Ev := { x with name := rnS old new x.name }
def rnP (old new : Str) (x : Pg) : Pg := { x with top := rnS old new x.top, gates := x.gates.map (rnG old new) }
def rnGr (old new : Str) (x : Gr) : Gr := { x with mem := x.mem.map (rnS old new) }
def rnPv (old new : Str) (x : Pv) : Pv := { x with ev := rnS old new x.ev }
def rnPh (old new : Str) (x : Ph) : Ph := { x with top := rnS old new x.top, vals := x.vals.map (rnPv old new) }
def rnM (m : Md) (old new : Str) : Md :=
 { name := m.name, top := rnS old new m.top, evs := m.evs.map (rnE old new), hs := m.hs, gates := m.gates.map (rnG old new), pages := m.pages.map (rnP old new), grs := m.grs.map (rnGr old new), phs := m.phs.map (rnPh old new) }

theorem c_rn1 (old new s : Str) : FnH Try.prog 68 [.str s, .cp (.str old), .cp (.str new)] [] (.str (rnS old new s)) [] := by
 refine FnH.intro lay mixed Try.func68 (by kernel_rfl) rfl (by kernel_rfl) rfl fun hok => ?_
 ((try dsimp only[argC,succC]);(try dsimp only[awp]);(conv=>whnf))
 refine And.intro (fun h => ?_) (fun h => ?_)
 ·rw [show rnS old new s = new from if_pos h]
  ((try dsimp only[awp]);(conv=>whnf))
  (refine fM ?_;(conv=>whnf);refine ⟨?_,rfl⟩;(conv=>whnf))
  (repeat' first|exact rfl|exact trivial|exact wR|exact lR _|apply aI)
 ·rw [show rnS old new s = s from if_neg h]
  ((try dsimp only[awp]);(conv=>whnf))
  (refine fM ?_;(conv=>whnf);refine ⟨?_,rfl⟩;(conv=>whnf))
  (repeat' first|exact rfl|exact trivial|exact wR|exact lR _|apply aI)

abbrev fn1 (old new : Str) : AV := .fn 68 [.cp (.str old), .cp (.str new)]

theorem c_rn2 (old new : Str) (l : List Str) (hl : l.length ≤ 1000000) : FnH Try.prog 69 [sL l, .cp (fn1 old new)] [] (sL (l.map (rnS old new))) [] := by
 refine FnH.intro lay mixed Try.func69 (by kernel_rfl) rfl (by kernel_rfl) rfl fun hok => ?_
 ((try dsimp only[argC,succC]);(try dsimp only[awp]);(conv=>whnf))
 refine LoopE.of <| LoopSpec.inv (.grow 4 1 [] _ rfl (.inl ⟨rfl, rfl⟩) (.refl _ _)) (fun (i : Nat) => i ≤ l.length)
  (fun i => [(9, .int .i64 i), (4, .sl 1 (((l.take i).map (rnS old new)).map .str) (.own 0))]) (fun i => [(0, .tok 1 i)]) (fun i => l.length - i) 0 ?_ (fun _ => rfl) ?_ ?_
 ·exact Nat.zero_le _
 ·refine ⟨?_, .mk ?_ ⟨by simp, trivial⟩⟩
  ·(repeat' first|exact rfl|exact trivial|exact wR|exact lR _|apply aI)
  ·(repeat' first|exact rfl|exact trivial|exact wR|exact lR _|apply aI)
 intro i hi _
 ((try dsimp only[awp]);(conv=>whnf))
 refine And.intro (fun h => ?_) (fun h => ?_)
 ·have hlt : i < l.length := by simpa using h
  have ht : (l.take (i + 1)).map (rnS old new) = (l.take i).map (rnS old new) ++ [rnS old new l[i]] := by
   rw [List.take_add_one, List.getElem?_eq_getElem hlt, List.map_append]; rfl
  have hlen : ((l.take i).map (rnS old new)).length = i := by simp; omega
  ((try dsimp only[awp]);(conv=>whnf))
  refine aidx hlt ?_
  generalize l[i] = x at *
  generalize (l.take i).map (rnS old new) = L at *
  ((try dsimp only[awp]);(conv=>whnf))
  refine .pure _ _ ?_ ⟨rfl, rfl⟩ (c_rn1 old new x) fun _ => ?_
  ·(repeat' first|exact rfl|exact trivial|exact wR|exact lR _|apply aI)
  ((try dsimp only[awp]);(conv=>whnf))
  refine ⟨by rw [List.length_map]; omega, .mk (by simp [maxL]; omega) (by simp; omega) ?_⟩
  ((try dsimp only[awp]);(conv=>whnf))
  (refine ⟨inr64 (by omega) (by omega),?_⟩;(conv=>whnf))
  refine ⟨i + 1, ?_, ?_, ?_⟩
  ·exact hlt
  ·rw [ht]
   refine ⟨?_, .mk ?_ ⟨by simp, trivial⟩⟩
   ·(repeat' first|exact rfl|exact trivial|exact wR|exact lR _|apply aI)
    all_goals first | (refine leRL_of ?_; rw [List.map_append]; rfl) | (simp; done) | (simp; omega)
   ·(repeat' first|exact rfl|exact trivial|exact wR|exact lR _|apply aI)
    all_goals first | (simp; done) | (simp; omega)
  ·omega
 ·have hlt : i = l.length := by have : ¬ i < l.length := by simpa using h
                                omega
  subst hlt
  rw [List.take_length]
  ((try dsimp only[awp]);(conv=>whnf))
  (refine fM ?_;(conv=>whnf);refine ⟨?_,rfl⟩;(conv=>whnf))
  (repeat' first|exact rfl|exact trivial|exact wR|exact lR _|apply aI)

abbrev fn2 (old new : Str) : AV := .fn 69 [.cp (fn1 old new)]

theorem c_clone22 (x : Rat) (hx : shortX x) : FnH Try.prog 71 [x.av] [] x.av [] := by
 have c1 := c_clone32 x.num (by have := hx.1; omega)
 have c2 := c_clone32 x.den (by have := hx.2; omega)
 refine FnH.intro lay mixed Try.func71 (by kernel_rfl) rfl (by kernel_rfl) rfl fun hok => ?_
 ((try dsimp only[argC,succC]);(try dsimp only[awp]);(conv=>whnf))
 (refine ADraw.auto (by kernel_rfl) ?_;(conv=>whnf))
 refine ACallP.pure _ _ ?_ ⟨rfl, rfl⟩ c1 ?_
 ·exact leL_refl _
 ((try dsimp only[awp]);(conv=>whnf))
 refine ACallP.pure _ _ ?_ ⟨rfl, rfl⟩ c2 ?_
 ·exact leL_refl _
 ((try dsimp only[awp]);(conv=>whnf))
 (refine fM ?_;(conv=>whnf);refine ⟨?_,rfl⟩;(conv=>whnf))
 (repeat' first|exact rfl|exact trivial|exact wR|exact lR _|apply aI)

theorem c_rn3 (old new : Str) (l : List Mg) (hl : l.length ≤ 1000) (hi : ∀ g ∈ l, g.ins.length ≤ 1000) (hd : ∀ g ∈ l, shortX g.dorm) : FnH Try.prog 70 [gL l, .cp (fn2 old new)] [] (gL (l.map (rnG old new))) [] := by
 refine FnH.intro lay mixed Try.func70 (by kernel_rfl) rfl (by kernel_rfl) rfl fun hok => ?_
 ((try dsimp only[argC,succC]);(try dsimp only[awp]);(conv=>whnf))
 refine LoopE.of <| LoopSpec.inv (.grow 4 7 [] _ rfl (.inl ⟨rfl, rfl⟩) (.refl _ _)) (fun (i : Nat) => i ≤ l.length)
  (fun i => [(9, .int .i64 i), (4, .sl 7 (((l.take i).map (rnG old new)).map Mg.av) (.own 0))]) (fun i => [(0, .tok 7 i)]) (fun i => l.length - i) 0 ?_ (fun _ => rfl) ?_ ?_
 ·exact Nat.zero_le _
 ·refine ⟨?_, .mk ?_ ⟨by simp, trivial⟩⟩
  ·(repeat' first|exact rfl|exact trivial|exact wR|exact lR _|apply aI)
  ·(repeat' first|exact rfl|exact trivial|exact wR|exact lR _|apply aI)
 intro i hil _
 ((try dsimp only[awp]);(conv=>whnf))
 refine And.intro (fun h => ?_) (fun h => ?_)
 ·have hlt : i < l.length := by simpa using h
  have ht : (l.take (i + 1)).map (rnG old new) = (l.take i).map (rnG old new) ++ [rnG old new l[i]] := by
   rw [List.take_add_one, List.getElem?_eq_getElem hlt, List.map_append]; rfl
  have hlen : ((l.take i).map (rnG old new)).length = i := by simp; omega
  have c2 := c_rn2 old new (l[i]).ins (by have := hi _ (List.getElem_mem hlt); omega)
  have cc := c_clone22 _ (hd _ (List.getElem_mem hlt))
  ((try dsimp only[awp]);(conv=>whnf))
  refine aidx hlt ?_
  generalize l[i] = x at *
  generalize (l.take i).map (rnG old new) = L at *
  ((try dsimp only[awp]);(conv=>whnf))
  refine .pure _ _ ?_ ⟨rfl, rfl⟩ c2 fun _ => ?_
  ·(repeat' first|exact rfl|exact trivial|exact wR|exact lR _|apply aI)
  ((try dsimp only[awp]);(conv=>whnf))
  refine .pure _ _ ?_ ⟨rfl, rfl⟩ cc fun _ => ?_
  ·exact leL_refl _
  ((try dsimp only[awp]);(conv=>whnf))
  refine ⟨by rw [List.length_map]; omega, .mk (by simp [maxL]; omega) (by simp; omega) ?_⟩
  ((try dsimp only[awp]);(conv=>whnf))
  (refine ⟨inr64 (by omega) (by omega),?_⟩;(conv=>whnf))
  refine ⟨i + 1, ?_, ?_, ?_⟩
  ·exact hlt
  ·rw [ht]
   refine ⟨?_, .mk ?_ ⟨by simp, trivial⟩⟩
   ·(repeat' first|exact rfl|exact trivial|exact wR|exact lR _|apply aI)
    all_goals first | (refine leRL_of ?_; rw [List.map_append]; rfl) | (simp; done) | (simp; omega)
   ·(repeat' first|exact rfl|exact trivial|exact wR|exact lR _|apply aI)
    all_goals first | (simp; done) | (simp; omega)
  ·omega
 ·have hlt : i = l.length := by have : ¬ i < l.length := by simpa using h
                                omega
  subst hlt
  rw [List.take_length]
  ((try dsimp only[awp]);(conv=>whnf))
  (refine fM ?_;(conv=>whnf);refine ⟨?_,rfl⟩;(conv=>whnf))
  (repeat' first|exact rfl|exact trivial|exact wR|exact lR _|apply aI)

theorem rn_X {m : Md} {old new : Str} (h : MdX m) : MdX (rnM m old new) := by
 refine ⟨?_, ?_, ?_, ?_, ?_⟩
 ·intro x hx
  obtain ⟨y, hy, rfl⟩ := List.mem_map.1 hx
  exact h.evs y hy
 ·intro x hx
  obtain ⟨y, hy, rfl⟩ := List.mem_map.1 hx
  exact h.gates y hy
 ·intro x hx
  obtain ⟨y, hy, rfl⟩ := List.mem_map.1 hx
  intro g hg
  obtain ⟨g', hg', rfl⟩ := List.mem_map.1 hg
  exact h.pages y hy g' hg'
 ·intro x hx
  obtain ⟨y, hy, rfl⟩ := List.mem_map.1 hx
  exact h.grs y hy
 ·intro x hx v hv
  obtain ⟨y, hy, rfl⟩ := List.mem_map.1 hx
  obtain ⟨v', hv', rfl⟩ := List.mem_map.1 hv
  exact h.phs y hy v' hv'
end S

open Go Go.AL Go.Proofs
namespace S
set_option maxRecDepth 100000

theorem c_cloneHs (l : List Hs) (hl : l.length ≤ 1000000) : FnH Try.prog 72 [.sl 2 (l.map Hs.av) .no] [] (.sl 2 (l.map Hs.av) .no) [] := by
 refine FnH.intro lay mixed Try.func72 (by kernel_rfl) rfl (by kernel_rfl) rfl fun hok => ?_
 (conv=>whnf)
 intro b hb
 (conv=>whnf)
 refine And.intro (fun h => ?_) (fun h => ?_)
 ·have : l = [] := by simpa using hb h
  subst this
  (conv=>whnf)
  (refine fM ?_;(conv=>whnf);refine ⟨?_,rfl⟩;(conv=>whnf))
  rfl
 ·(conv=>whnf)
  refine .pure (by simp [maxL]; omega) (by simp; omega) ?_
  (conv=>whnf)
  (refine fM ?_;(conv=>whnf);refine ⟨?_,rfl⟩;(conv=>whnf))
  (repeat' first|exact rfl|exact trivial|exact wR|exact lR _|apply aI)

abbrev rnBox (m : Md) (old new : Str) (evs pages grs phs : AV) : AV := .ag [.str m.name, .str (rnS old new m.top), evs, .sl 2 (m.hs.map Hs.av) .no, gL (m.gates.map (rnG old new)), pages, grs, phs]

def renameE (m : Md) (old new : Str) : Int := if i_event m.evs old < 0 then 5 else checkM (rnM m old new)

theorem take_map {α β : Type} {f : α → β} {l : List α} {k : Nat} (h : k < l.length) : (l.take (k + 1)).map f = (l.take k).map f ++ [f l[k]] := by
 rw [List.take_add_one, List.getElem?_eq_getElem h, List.map_append]; rfl
theorem take_len {α β : Type} {f : α → β} {l : List α} {k : Nat} (h : k ≤ l.length) : ((l.take k).map f).length = k := by simp; omega

theorem rn_C {m : Md} {old new : Str} (h : MdC m) : MdC (rnM m old new) := by
 refine ⟨?_, ?_, ?_, ?_, ?_⟩
 ·intro x hx
  obtain ⟨y, hy, rfl⟩ := List.mem_map.1 hx
  exact h.evs y hy
 ·intro x hx
  obtain ⟨y, hy, rfl⟩ := List.mem_map.1 hx
  exact h.gates y hy
 ·intro x hx
  obtain ⟨y, hy, rfl⟩ := List.mem_map.1 hx
  intro g hg
  obtain ⟨g', hg', rfl⟩ := List.mem_map.1 hg
  exact h.pages y hy g' hg'
 ·intro x hx
  obtain ⟨y, hy, rfl⟩ := List.mem_map.1 hx
  exact h.grs y hy
 ·intro x hx v hv
  obtain ⟨y, hy, rfl⟩ := List.mem_map.1 hx
  obtain ⟨v', hv', rfl⟩ := List.mem_map.1 hv
  exact h.phs y hy v' hv'

theorem rn_B {m : Md} {old new : Str} (h : MdB m) : MdB (rnM m old new) := by
 refine ⟨by simpa [rnM] using h.evs, h.hs, ⟨by simpa [rnM] using h.gates.1, ?_⟩, by simpa [rnM] using h.pages, ?_, by simpa [rnM] using h.grs, ?_, by simpa [rnM] using h.phs, ?_⟩
 ·intro x hx
  obtain ⟨y, hy, rfl⟩ := List.mem_map.1 hx
  simpa [rnG] using h.gates.2 y hy
 ·intro x hx
  obtain ⟨y, hy, rfl⟩ := List.mem_map.1 hx
  refine ⟨by simpa [rnP] using (h.pgates y hy).1, fun g hg => ?_⟩
  obtain ⟨g', hg', rfl⟩ := List.mem_map.1 hg
  simpa [rnG] using (h.pgates y hy).2 g' hg'
 ·intro x hx
  obtain ⟨y, hy, rfl⟩ := List.mem_map.1 hx
  simpa [rnGr] using h.mem y hy
 ·intro x hx
  obtain ⟨y, hy, rfl⟩ := List.mem_map.1 hx
  simpa [rnPh] using h.vals y hy

theorem c_Rename (m : Md) (old new : Str) (hC : MdC m) (hB : MdB m) (hX : MdX m) (h0 : checkM m = 0) (R : AV) (hR : R = if renameE m old new = 0 then .tup [(rnM m old new).av, .nilI] else .tup [zMd, .ifc 52 (.int .i64 (renameE m old new))]) : FnH Try.prog 30 [m.av, .str old, .str new] [] R [] := by
 have cc := c_mCheck m hC hB _ rfl
 rw [h0, errAV_zero] at cc
 have cc2 := c_mCheck (rnM m old new) (rn_C hC) (rn_B hB) _ rfl
 have ce := c_event m old
 have cn := fun s => c_rn1 old new s
 have ch := c_cloneHs m.hs (by have := hB.hs; omega)
 have cg := c_rn3 old new m.gates (by have := hB.gates.1; omega) (fun g hg => by have := hB.gates.2 g hg; omega) hX.gates
 have b1 := hB.evs
 have b2 := hB.pages
 have b3 := hB.grs
 have b4 := hB.phs
 unfold renameE at hR
 refine FnH.intro lay mixed Try.func30 (by kernel_rfl) rfl (by kernel_rfl) rfl fun hok => ?_
 ((try dsimp only[argC,succC]);(try dsimp only[awp]);(conv=>whnf))
 refine .pure _ _ ?_ ⟨rfl, rfl⟩ cc fun _ => ?_
 ·exact leL_refl _
 ((try dsimp only[awp]);(conv=>whnf))
 refine .pure _ _ ?_ ⟨rfl, rfl⟩ ce fun _ => ?_
 ·exact leL_refl _
 ((try dsimp only[awp]);(conv=>whnf))
 refine And.intro (fun g0 => ?_) (fun g0 => ?_)
 ·rw [if_pos g0, if_neg (by decide)] at hR
  subst hR
  ((try dsimp only[awp]);(conv=>whnf))
  (refine fM ?_;(conv=>whnf);refine ⟨?_,rfl⟩;(conv=>whnf))
  (repeat' first|exact rfl|exact trivial|exact wR|exact lR _|apply aI)
 rw [if_neg g0] at hR
 ((try dsimp only[awp]);(conv=>whnf))
 (refine ADraw.frzAuto [0, 1, 2, 4, 5] (by kernel_rfl) ?_; (conv => whnf); (repeat (refine And.intro ⟨rfl, rfl⟩ ?_; (conv => whnf))))
 refine ACallP.pure _ _ ?_ ⟨rfl, rfl⟩ (cn m.top) ?_
 ·exact leL_refl _
 ((try dsimp only[awp]);(conv=>whnf))
 refine ACallP.pure _ _ ?_ ⟨rfl, rfl⟩ ch ?_
 ·exact leL_refl _
 ((try dsimp only[awp]);(conv=>whnf))
 refine ACallP.pure _ _ ?_ ⟨rfl, rfl⟩ cg ?_
 ·exact leL_refl _
 ((try dsimp only[awp]);(conv=>whnf))
 refine LoopE.of <| LoopSpec.inv (.growF 6 [2] 11 [] (rnBox m old new .nils .nils .nils .nils) .nils _ rfl rfl (.inl ⟨rfl, rfl⟩) rfl (.refl _ _)) (fun (k : Nat) => k ≤ m.evs.length)
  (fun k => [(60, .int .i64 k)]) (fun k => [(7, .tok 11 k), (6, .box (rnBox m old new (.sl 11 (((m.evs.take k).map (rnE old new)).map Ev.av) (.own 7)) .nils .nils .nils)), (5, .gone), (4, .gone), (3, .box zMd), (2, .gone), (1, .gone), (0, .gone)]) (fun k => m.evs.length - k) 0 ?_ (fun _ => rfl) ?_ ?_
 ·exact Nat.zero_le _
 ·refine ⟨?_, .mk ?_ (by simp [idsOk])⟩
  ·(repeat' first|exact rfl|exact trivial|exact wR|exact lR _|apply aI)
  ·(repeat' first|exact rfl|exact trivial|exact wR|exact lR _|apply aI)
 intro k hk _
 ((try dsimp only[awp]);(conv=>whnf))
 refine And.intro (fun h => ?_) (fun h => ?_)
 ·have hkl : k < m.evs.length := by simpa using h
  have ht := take_map (f := rnE old new) hkl
  have hlen := take_len (f := rnE old new) hk
  obtain ⟨x1, x2, x3⟩ := hX.evs _ (List.getElem_mem hkl)
  ((try dsimp only[awp]);(conv=>whnf))
  refine aidx hkl ?_
  generalize m.evs[k] = x at *
  generalize (m.evs.take k).map (rnE old new) = L at *
  ((try dsimp only[awp]);(conv=>whnf))
  refine .pure _ _ ?_ ⟨rfl, rfl⟩ (cn x.name) fun _ => ?_
  ·exact leL_refl _
  ((try dsimp only[awp]);(conv=>whnf))
  (refine ADraw.auto (by kernel_rfl) ?_;(conv=>whnf))
  refine ACallP.pure _ _ ?_ ⟨rfl, rfl⟩ (c_clone22 x.p x1) ?_
  ·exact leL_refl _
  ((try dsimp only[awp]);(conv=>whnf))
  refine ACallP.pure _ _ ?_ ⟨rfl, rfl⟩ (c_clone22 x.fail x2) ?_
  ·exact leL_refl _
  ((try dsimp only[awp]);(conv=>whnf))
  refine ACallP.pure _ _ ?_ ⟨rfl, rfl⟩ (c_clone22 x.repair x3) ?_
  ·exact leL_refl _
  ((try dsimp only[awp]);(conv=>whnf))
  refine ⟨by rw [List.length_map]; omega, .mk (by simp [maxL]; omega) (by simp; omega) ?_⟩
  ((try dsimp only[awp]);(conv=>whnf))
  (refine ⟨inr64 (by omega) (by omega),?_⟩;(conv=>whnf))
  refine ⟨k + 1, ?_, ?_, ?_⟩
  ·exact hkl
  ·rw [ht]
   refine ⟨?_, .mk ?_ (by simp [idsOk])⟩
   ·(repeat' first|exact rfl|exact trivial|exact wR|exact lR _|apply aI)
    all_goals first | (simp; done) | (simp; omega)
   ·(repeat' first|exact rfl|exact trivial|exact wR|exact lR _|apply aI)
    all_goals first | (refine leRL_of ?_; rw [List.map_append]; rfl) | (simp; done) | (simp; omega)
  ·omega
 have hkl : k = m.evs.length := by have : ¬ k < m.evs.length := by simpa using h
                                   omega
 subst hkl
 rw [List.take_length]
 clear h
 ((try dsimp only[awp]);(conv=>whnf))
 refine LoopE.of <| LoopSpec.inv (.growF 6 [5] 3 [] (rnBox m old new (.sl 11 ((m.evs.map (rnE old new)).map Ev.av) (.own 7)) .nils .nils .nils) .nils _ rfl rfl (.inl ⟨rfl, rfl⟩) rfl (.refl _ _)) (fun (k : Nat) => k ≤ m.pages.length)
  (fun k => [(91, .int .i64 k)]) (fun k => [(8, .tok 3 k), (7, .gone), (6, .box (rnBox m old new (.sl 11 ((m.evs.map (rnE old new)).map Ev.av) .no) (.sl 3 (((m.pages.take k).map (rnP old new)).map Pg.av) (.own 8)) .nils .nils)), (5, .gone), (4, .gone), (3, .box zMd), (2, .gone), (1, .gone), (0, .gone)]) (fun k => m.pages.length - k) 0 ?_ (fun _ => rfl) ?_ ?_
 ·exact Nat.zero_le _
 ·refine ⟨?_, .mk ?_ (by simp [idsOk])⟩
  ·(repeat' first|exact rfl|exact trivial|exact wR|exact lR _|apply aI)
  ·(repeat' first|exact rfl|exact trivial|exact wR|exact lR _|apply aI)
 intro k hk _
 ((try dsimp only[awp]);(conv=>whnf))
 refine And.intro (fun h => ?_) (fun h => ?_)
 ·have hkl : k < m.pages.length := by simpa using h
  have ht := take_map (f := rnP old new) hkl
  have hlen := take_len (f := rnP old new) hk
  have hp := hB.pgates _ (List.getElem_mem hkl)
  have cgp := c_rn3 old new (m.pages[k]).gates (by omega) (fun g hg => by have := hp.2 g hg; omega) (hX.pages _ (List.getElem_mem hkl))
  ((try dsimp only[awp]);(conv=>whnf))
  refine aidx hkl ?_
  generalize m.pages[k] = x at *
  generalize (m.pages.take k).map (rnP old new) = L at *
  ((try dsimp only[awp]);(conv=>whnf))
  (refine ADraw.auto (by kernel_rfl) ?_;(conv=>whnf))
  refine ACallP.pure _ _ ?_ ⟨rfl, rfl⟩ (cn x.top) ?_
  ·exact leL_refl _
  ((try dsimp only[awp]);(conv=>whnf))
  refine ACallP.pure _ _ ?_ ⟨rfl, rfl⟩ cgp ?_
  ·exact leL_refl _
  ((try dsimp only[awp]);(conv=>whnf))
  refine ⟨by rw [List.length_map]; omega, .mk (by simp [maxL]; omega) (by simp; omega) ?_⟩
  ((try dsimp only[awp]);(conv=>whnf))
  (refine ⟨inr64 (by omega) (by omega),?_⟩;(conv=>whnf))
  refine ⟨k + 1, ?_, ?_, ?_⟩
  ·exact hkl
  ·rw [ht]
   refine ⟨?_, .mk ?_ (by simp [idsOk])⟩
   ·(repeat' first|exact rfl|exact trivial|exact wR|exact lR _|apply aI)
    all_goals first | (simp; done) | (simp; omega)
   ·(repeat' first|exact rfl|exact trivial|exact wR|exact lR _|apply aI)
    all_goals first | (refine leRL_of ?_; rw [List.map_append]; rfl) | (simp; done) | (simp; omega)
  ·omega
 have hkl : k = m.pages.length := by have : ¬ k < m.pages.length := by simpa using h
                                     omega
 subst hkl
 rw [List.take_length]
 clear h
 ((try dsimp only[awp]);(conv=>whnf))
 refine LoopE.of <| LoopSpec.inv (.growF 6 [6] 4 [] (rnBox m old new (.sl 11 ((m.evs.map (rnE old new)).map Ev.av) .no) (.sl 3 ((m.pages.map (rnP old new)).map Pg.av) (.own 8)) .nils .nils) .nils _ rfl rfl (.inl ⟨rfl, rfl⟩) rfl (.refl _ _)) (fun (k : Nat) => k ≤ m.grs.length)
  (fun k => [(115, .int .i64 k)]) (fun k => [(9, .tok 4 k), (8, .gone), (7, .gone), (6, .box (rnBox m old new (.sl 11 ((m.evs.map (rnE old new)).map Ev.av) .no) (.sl 3 ((m.pages.map (rnP old new)).map Pg.av) .no) (.sl 4 (((m.grs.take k).map (rnGr old new)).map Gr.av) (.own 9)) .nils)), (5, .gone), (4, .gone), (3, .box zMd), (2, .gone), (1, .gone), (0, .gone)]) (fun k => m.grs.length - k) 0 ?_ (fun _ => rfl) ?_ ?_
 ·exact Nat.zero_le _
 ·refine ⟨?_, .mk ?_ (by simp [idsOk])⟩
  ·(repeat' first|exact rfl|exact trivial|exact wR|exact lR _|apply aI)
  ·(repeat' first|exact rfl|exact trivial|exact wR|exact lR _|apply aI)
 intro k hk _
 ((try dsimp only[awp]);(conv=>whnf))
 refine And.intro (fun h => ?_) (fun h => ?_)
 ·have hkl : k < m.grs.length := by simpa using h
  have ht := take_map (f := rnGr old new) hkl
  have hlen := take_len (f := rnGr old new) hk
  have hm := hB.mem _ (List.getElem_mem hkl)
  have cgp := c_rn2 old new (m.grs[k]).mem (by omega)
  have hf := hX.grs _ (List.getElem_mem hkl)
  ((try dsimp only[awp]);(conv=>whnf))
  refine aidx hkl ?_
  generalize m.grs[k] = x at *
  generalize (m.grs.take k).map (rnGr old new) = L at *
  ((try dsimp only[awp]);(conv=>whnf))
  (refine ADraw.auto (by kernel_rfl) ?_;(conv=>whnf))
  refine ACallP.pure _ _ ?_ ⟨rfl, rfl⟩ cgp ?_
  ·exact leL_refl _
  ((try dsimp only[awp]);(conv=>whnf))
  refine LoopE.of <| LoopSpec.inv (.growF 11 [3] 3 [] (.ag [.str x.name, .int .i64 x.kind, sL (x.mem.map (rnS old new)), .nils]) .nils _ rfl rfl (.inl ⟨rfl, rfl⟩) rfl (.refl _ _)) (fun (j : Nat) => j ≤ x.fac.length)
   (fun j => [(131, .int .i64 j)]) (fun j => [(12, .tok 3 j), (11, .box (.ag [.str x.name, .int .i64 x.kind, sL (x.mem.map (rnS old new)), .sl 3 ((x.fac.take j).map Rat.av) (.own 12)])), (10, .gone), (9, .tok 4 k), (8, .gone), (7, .gone), (6, .box (rnBox m old new (.sl 11 ((m.evs.map (rnE old new)).map Ev.av) .no) (.sl 3 ((m.pages.map (rnP old new)).map Pg.av) .no) (.sl 4 (L.map Gr.av) (.own 9)) .nils)), (5, .gone), (4, .gone), (3, .box zMd), (2, .gone), (1, .gone), (0, .gone)]) (fun j => x.fac.length - j) 0 ?_ (fun _ => rfl) ?_ ?_
  ·exact Nat.zero_le _
  ·refine ⟨?_, .mk ?_ (by simp [idsOk])⟩
   ·(repeat' first|exact rfl|exact trivial|exact wR|exact lR _|apply aI)
   ·(repeat' first|exact rfl|exact trivial|exact wR|exact lR _|apply aI)
  intro j hj _
  ((try dsimp only[awp]);(conv=>whnf))
  refine And.intro (fun hh => ?_) (fun hh => ?_)
  ·have hjl : j < x.fac.length := by simpa using hh
   have ht2 : x.fac.take (j + 1) = x.fac.take j ++ [x.fac[j]] := by rw [List.take_add_one, List.getElem?_eq_getElem hjl]; rfl
   have hlen2 : (x.fac.take j).length = j := by simp; omega
   have y1 := hf _ (List.getElem_mem hjl)
   ((try dsimp only[awp]);(conv=>whnf))
   refine aidx hjl ?_
   generalize x.fac[j] = y at *
   generalize x.fac.take j = L2 at *
   ((try dsimp only[awp]);(conv=>whnf))
   (refine ADraw.auto (by kernel_rfl) ?_;(conv=>whnf))
   refine ACallP.pure _ _ ?_ ⟨rfl, rfl⟩ (c_clone22 y y1) ?_
   ·exact leL_refl _
   ((try dsimp only[awp]);(conv=>whnf))
   refine ⟨by rw [List.length_map]; omega, .mk (by simp [maxL]; omega) (by simp; omega) ?_⟩
   ((try dsimp only[awp]);(conv=>whnf))
   (refine ⟨inr64 (by omega) (by omega),?_⟩;(conv=>whnf))
   refine ⟨j + 1, ?_, ?_, ?_⟩
   ·exact hjl
   ·rw [ht2]
    refine ⟨?_, .mk ?_ (by simp [idsOk])⟩
    ·(repeat' first|exact rfl|exact trivial|exact wR|exact lR _|apply aI)
    ·(repeat' first|exact rfl|exact trivial|exact wR|exact lR _|apply aI)
     all_goals first | (refine leRL_of ?_; rw [List.map_append]; rfl) | (simp; done) | (simp; omega)
   ·omega
  have hjl : j = x.fac.length := by have : ¬ j < x.fac.length := by simpa using hh
                                    omega
  subst hjl
  rw [List.take_length]
  clear hh
  ((try dsimp only[awp]);(conv=>whnf))
  refine ⟨by rw [List.length_map]; omega, .mk (by simp [maxL]; omega) (by simp; omega) ?_⟩
  ((try dsimp only[awp]);(conv=>whnf))
  (refine ⟨inr64 (by omega) (by omega),?_⟩;(conv=>whnf))
  refine ⟨k + 1, ?_, ?_, ?_⟩
  ·exact hkl
  ·rw [ht]
   refine ⟨?_, .mk ?_ (by simp [idsOk])⟩
   ·(repeat' first|exact rfl|exact trivial|exact wR|exact lR _|apply aI)
    all_goals first | (simp; done) | (simp; omega)
   ·(repeat' first|exact rfl|exact trivial|exact wR|exact lR _|apply aI)
    all_goals first | (refine leRL_of ?_; rw [List.map_append]; rfl) | (simp; done) | (simp; omega)
  ·omega
 have hkl : k = m.grs.length := by have : ¬ k < m.grs.length := by simpa using h
                                   omega
 subst hkl
 rw [List.take_length]
 clear h
 ((try dsimp only[awp]);(conv=>whnf))
 refine LoopE.of <| LoopSpec.inv (.growF 6 [7] 3 [] (rnBox m old new (.sl 11 ((m.evs.map (rnE old new)).map Ev.av) .no) (.sl 3 ((m.pages.map (rnP old new)).map Pg.av) .no) (.sl 4 ((m.grs.map (rnGr old new)).map Gr.av) (.own 9)) .nils) .nils _ rfl rfl (.inl ⟨rfl, rfl⟩) rfl (.refl _ _)) (fun (k : Nat) => k ≤ m.phs.length)
  (fun k => [(153, .int .i64 k)]) (fun k => [(10, .tok 3 k), (9, .gone), (8, .gone), (7, .gone), (6, .box (rnBox m old new (.sl 11 ((m.evs.map (rnE old new)).map Ev.av) .no) (.sl 3 ((m.pages.map (rnP old new)).map Pg.av) .no) (.sl 4 ((m.grs.map (rnGr old new)).map Gr.av) .no) (.sl 3 (((m.phs.take k).map (rnPh old new)).map Ph.av) (.own 10)))), (5, .gone), (4, .gone), (3, .box zMd), (2, .gone), (1, .gone), (0, .gone)]) (fun k => m.phs.length - k) 0 ?_ (fun _ => rfl) ?_ ?_
 ·exact Nat.zero_le _
 ·refine ⟨?_, .mk ?_ (by simp [idsOk])⟩
  ·(repeat' first|exact rfl|exact trivial|exact wR|exact lR _|apply aI)
  ·(repeat' first|exact rfl|exact trivial|exact wR|exact lR _|apply aI)
 intro k hk _
 ((try dsimp only[awp]);(conv=>whnf))
 refine And.intro (fun h => ?_) (fun h => ?_)
 ·have hkl : k < m.phs.length := by simpa using h
  have ht := take_map (f := rnPh old new) hkl
  have hlen := take_len (f := rnPh old new) hk
  have hv := hB.vals _ (List.getElem_mem hkl)
  have hf := hX.phs _ (List.getElem_mem hkl)
  ((try dsimp only[awp]);(conv=>whnf))
  refine aidx hkl ?_
  generalize m.phs[k] = x at *
  generalize (m.phs.take k).map (rnPh old new) = L at *
  ((try dsimp only[awp]);(conv=>whnf))
  (refine ADraw.auto (by kernel_rfl) ?_;(conv=>whnf))
  refine ACallP.pure _ _ ?_ ⟨rfl, rfl⟩ (cn x.top) ?_
  ·exact leL_refl _
  ((try dsimp only[awp]);(conv=>whnf))
  refine LoopE.of <| LoopSpec.inv (.growF 12 [2] 4 [] (.ag [.str x.name, .str (rnS old new x.top), .nils]) .nils _ rfl rfl (.inl ⟨rfl, rfl⟩) rfl (.refl _ _)) (fun (j : Nat) => j ≤ x.vals.length)
   (fun j => [(167, .int .i64 j)]) (fun j => [(13, .tok 4 j), (12, .box (.ag [.str x.name, .str (rnS old new x.top), .sl 4 (((x.vals.take j).map (rnPv old new)).map Pv.av) (.own 13)])), (11, .gone), (10, .tok 3 k), (9, .gone), (8, .gone), (7, .gone), (6, .box (rnBox m old new (.sl 11 ((m.evs.map (rnE old new)).map Ev.av) .no) (.sl 3 ((m.pages.map (rnP old new)).map Pg.av) .no) (.sl 4 ((m.grs.map (rnGr old new)).map Gr.av) .no) (.sl 3 (L.map Ph.av) (.own 10)))), (5, .gone), (4, .gone), (3, .box zMd), (2, .gone), (1, .gone), (0, .gone)]) (fun j => x.vals.length - j) 0 ?_ (fun _ => rfl) ?_ ?_
  ·exact Nat.zero_le _
  ·refine ⟨?_, .mk ?_ (by simp [idsOk])⟩
   ·(repeat' first|exact rfl|exact trivial|exact wR|exact lR _|apply aI)
   ·(repeat' first|exact rfl|exact trivial|exact wR|exact lR _|apply aI)
  intro j hj _
  ((try dsimp only[awp]);(conv=>whnf))
  refine And.intro (fun hh => ?_) (fun hh => ?_)
  ·have hjl : j < x.vals.length := by simpa using hh
   have ht2 := take_map (f := rnPv old new) hjl
   have hlen2 := take_len (f := rnPv old new) hj
   have y1 := hf _ (List.getElem_mem hjl)
   ((try dsimp only[awp]);(conv=>whnf))
   refine aidx hjl ?_
   generalize x.vals[j] = y at *
   generalize (x.vals.take j).map (rnPv old new) = L2 at *
   ((try dsimp only[awp]);(conv=>whnf))
   (refine ADraw.auto (by kernel_rfl) ?_;(conv=>whnf))
   refine ACallP.pure _ _ ?_ ⟨rfl, rfl⟩ (cn y.ev) ?_
   ·exact leL_refl _
   ((try dsimp only[awp]);(conv=>whnf))
   refine ACallP.pure _ _ ?_ ⟨rfl, rfl⟩ (c_clone22 y.p y1) ?_
   ·exact leL_refl _
   ((try dsimp only[awp]);(conv=>whnf))
   refine ⟨by rw [List.length_map]; omega, .mk (by simp [maxL]; omega) (by simp; omega) ?_⟩
   ((try dsimp only[awp]);(conv=>whnf))
   (refine ⟨inr64 (by omega) (by omega),?_⟩;(conv=>whnf))
   refine ⟨j + 1, ?_, ?_, ?_⟩
   ·exact hjl
   ·rw [ht2]
    refine ⟨?_, .mk ?_ (by simp [idsOk])⟩
    ·(repeat' first|exact rfl|exact trivial|exact wR|exact lR _|apply aI)
    ·(repeat' first|exact rfl|exact trivial|exact wR|exact lR _|apply aI)
     all_goals first | (refine leRL_of ?_; rw [List.map_append]; rfl) | (simp; done) | (simp; omega)
   ·omega
  have hjl : j = x.vals.length := by have : ¬ j < x.vals.length := by simpa using hh
                                     omega
  subst hjl
  rw [List.take_length]
  clear hh
  ((try dsimp only[awp]);(conv=>whnf))
  refine ⟨by rw [List.length_map]; omega, .mk (by simp [maxL]; omega) (by simp; omega) ?_⟩
  ((try dsimp only[awp]);(conv=>whnf))
  (refine ⟨inr64 (by omega) (by omega),?_⟩;(conv=>whnf))
  refine ⟨k + 1, ?_, ?_, ?_⟩
  ·exact hkl
  ·rw [ht]
   refine ⟨?_, .mk ?_ (by simp [idsOk])⟩
   ·(repeat' first|exact rfl|exact trivial|exact wR|exact lR _|apply aI)
    all_goals first | (simp; done) | (simp; omega)
   ·(repeat' first|exact rfl|exact trivial|exact wR|exact lR _|apply aI)
    all_goals first | (refine leRL_of ?_; rw [List.map_append]; rfl) | (simp; done) | (simp; omega)
  ·omega
 have hkl : k = m.phs.length := by have : ¬ k < m.phs.length := by simpa using h
                                   omega
 subst hkl
 rw [List.take_length]
 clear h
 by_cases g1 : checkM (rnM m old new) = 0
 ·rw [g1, errAV_zero] at cc2
  rw [if_pos g1] at hR
  subst hR
  ((try dsimp only[awp]);(conv=>whnf))
  refine .pure _ _ ?_ ⟨rfl, rfl⟩ cc2 fun _ => ?_
  ·(repeat' first|exact rfl|exact trivial|exact wR|exact lR _|apply aI)
  ((try dsimp only[awp]);(conv=>whnf))
  (refine fM ?_;(conv=>whnf);refine ⟨?_,rfl⟩;(conv=>whnf))
  (repeat' first|exact rfl|exact trivial|exact wR|exact lR _|apply aI)
 ·rw [errAV_ne g1] at cc2
  rw [if_neg g1] at hR
  subst hR
  ((try dsimp only[awp]);(conv=>whnf))
  refine .pure _ _ ?_ ⟨rfl, rfl⟩ cc2 fun _ => ?_
  ·(repeat' first|exact rfl|exact trivial|exact wR|exact lR _|apply aI)
  ((try dsimp only[awp]);(conv=>whnf))
  (refine fM ?_;(conv=>whnf);refine ⟨?_,rfl⟩;(conv=>whnf))
  (repeat' first|exact rfl|exact trivial|exact wR|exact lR _|apply aI)
end S

open Go Go.AL Go.Proofs
namespace S
set_option maxRecDepth 100000

theorem c_words (a b : List Int) : FnH Try.prog 50 [wL a, wL b] [] (.bool (decide (a = b))) [] := by
 refine FnH.intro lay mixed Try.func50 (by kernel_rfl) rfl (by kernel_rfl) rfl fun hok => ?_
 have ha : a.length ≤ 9223372036854775807 := by simpa [OkL, Ok, maxL] using hok.1.1
 ((try dsimp only[argC,succC]);(try dsimp only[awp]);(conv=>whnf))
 refine And.intro (fun h => ?_) (fun h => ?_)
 ·have h : a ≠ b := by intro e; apply h; rw [e]
  (conv=>whnf)
  (refine fM ?_;(conv=>whnf);refine ⟨?_,rfl⟩;(conv=>whnf))
  simpa using h
 have h : a.length = b.length := by simp only [List.length_map] at h; omega
 ((try dsimp only[awp]);(conv=>whnf))
 refine LoopE.of <| LoopSpec.inv (.refl _ _) (fun (i : Nat) => i ≤ a.length ∧ (a = b ↔ a.drop i = b.drop i)) (fun (i : Nat) => [(13, .int .i64 i)]) (fun _ => _) (fun (i : Nat) => a.length - i) 0 ?_ (fun _ => rfl) ?_ ?_
 ·exact ⟨Nat.zero_le _, by simp⟩
 ·(repeat' first|exact rfl|exact trivial|exact wR|exact lR _|apply aI)
 rintro i ⟨hi, hx⟩ _
 ((try dsimp only[awp]);(conv=>whnf))
 refine And.intro (fun h1 => ?_) (fun h1 => ?_)
 ·have hlt : i < a.length := by simpa using h1
  have hlt2 : i < b.length := by omega
  rw [List.drop_eq_getElem_cons hlt, List.drop_eq_getElem_cons hlt2] at hx
  ((try dsimp only[awp]);(conv=>whnf))
  (refine ADraw.auto (by kernel_rfl) ?_;(conv=>whnf))
  refine aidx hlt ?_
  ((try dsimp only[awp]);(conv=>whnf))
  refine aidx hlt2 ?_
  ((try dsimp only[awp]);(conv=>whnf))
  refine And.intro (fun h2 => ?_) (fun h2 => ?_)
  ·((try dsimp only[awp]);(conv=>whnf))
   (refine fM ?_;(conv=>whnf);refine ⟨?_,rfl⟩;(conv=>whnf))
   have : ¬ a = b := fun e => h2 (by simpa using (List.cons.inj (hx.1 e)).1)
   simpa using this
  ·have h2 : a[i] = b[i] := by simpa using h2
   ((try dsimp only[awp]);(conv=>whnf))
   (refine ⟨inr64 (by omega) (by omega),?_⟩;(conv=>whnf))
   refine ⟨i + 1, ?_, ?_, ?_⟩
   ·refine ⟨hlt, ?_⟩
    rw [hx, h2]
    exact ⟨fun e => (List.cons.inj e).2, fun e => by rw [e]⟩
   ·(repeat' first|exact rfl|exact trivial|exact wR|exact lR _|apply aI)
   ·omega
 ·have hil : i = a.length := by have : ¬ i < a.length := by simpa using h1
                                omega
  ((try dsimp only[awp]);(conv=>whnf))
  (refine fM ?_;(conv=>whnf);refine ⟨?_,rfl⟩;(conv=>whnf))
  have : a = b := hx.2 (by rw [hil, List.drop_length, h, List.drop_length])
  simpa using this

theorem c_ratEq (a b : Rat) : FnH Try.prog 21 [a.av, b.av] [] (.bool (decide (a = b))) [] := by
 have c1 := c_words a.num b.num
 have c2 := c_words a.den b.den
 have e : a = b ↔ a.neg = b.neg ∧ a.num = b.num ∧ a.den = b.den := by cases a; cases b; simp
 refine FnH.intro lay mixed Try.func21 (by kernel_rfl) rfl (by kernel_rfl) rfl fun hok => ?_
 ((try dsimp only[argC,succC]);(try dsimp only[awp]);(conv=>whnf))
 refine And.intro (fun h1 => ?_) (fun h1 => ?_)
 ·((try dsimp only[awp]);(conv=>whnf))
  refine .pure _ _ ?_ ⟨rfl, rfl⟩ c1 fun _ => ?_
  ·exact leL_refl _
  ((try dsimp only[awp]);(conv=>whnf))
  refine And.intro (fun h2 => ?_) (fun h2 => ?_)
  ·have h2 : a.num = b.num := by simpa using h2
   ((try dsimp only[awp]);(conv=>whnf))
   refine .pure _ _ ?_ ⟨rfl, rfl⟩ c2 fun _ => ?_
   ·exact leL_refl _
   ((try dsimp only[awp]);(conv=>whnf))
   (refine fM ?_;(conv=>whnf);refine ⟨?_,rfl⟩;(conv=>whnf))
   simp [e, h1, h2]
  ·have h2 : ¬ a.num = b.num := by simpa using h2
   ((try dsimp only[awp]);(conv=>whnf))
   (refine fM ?_;(conv=>whnf);refine ⟨?_,rfl⟩;(conv=>whnf))
   simp [e, h2]
 ·((try dsimp only[awp]);(conv=>whnf))
  (refine fM ?_;(conv=>whnf);refine ⟨?_,rfl⟩;(conv=>whnf))
  simp [e, h1]
end S

open Go Go.AL Go.Proofs
namespace S
set_option maxRecDepth 100000

theorem ratSelf (a : Rat) : FnH Try.prog 21 [a.av, a.av] [] .tt [] := (c_ratEq a a).weak (R' := .tt) (by show decide _ = true; simp)

theorem c_texts1 (a : List Str) : FnH Try.prog 75 [sL a, sL a] [] .tt [] := by
 refine FnH.intro lay mixed Try.func75 (by kernel_rfl) rfl (by kernel_rfl) rfl fun hok => ?_
 have ha : a.length ≤ 9223372036854775807 := by simpa [OkL, Ok, maxL] using hok.1.1
 ((try dsimp only[argC,succC]);(try dsimp only[awp]);(conv=>whnf))
 refine And.intro (fun h => absurd rfl h) (fun _ => ?_)
 ((try dsimp only[awp]);(conv=>whnf))
 refine LoopE.of <| LoopSpec.inv (.refl _ _) (fun (i : Nat) => i ≤ a.length) (fun (i : Nat) => [(13, .int .i64 i)]) (fun _ => _) (fun (i : Nat) => a.length - i) 0 ?_ (fun _ => rfl) ?_ ?_
 ·exact Nat.zero_le _
 ·(repeat' first|exact rfl|exact trivial|exact wR|exact lR _|apply aI)
 intro i hi _
 ((try dsimp only[awp]);(conv=>whnf))
 refine And.intro (fun h1 => ?_) (fun h1 => ?_)
 ·have hlt : i < a.length := by simpa using h1
  ((try dsimp only[awp]);(conv=>whnf))
  (refine ADraw.auto (by kernel_rfl) ?_;(conv=>whnf))
  refine aidx hlt ?_
  ((try dsimp only[awp]);(conv=>whnf))
  refine aidx hlt ?_
  ((try dsimp only[awp]);(conv=>whnf))
  refine And.intro (fun h2 => absurd rfl h2) (fun _ => ?_)
  ((try dsimp only[awp]);(conv=>whnf))
  (refine ⟨inr64 (by omega) (by omega),?_⟩;(conv=>whnf))
  refine ⟨i + 1, ?_, ?_, ?_⟩
  ·exact hlt
  ·(repeat' first|exact rfl|exact trivial|exact wR|exact lR _|apply aI)
  ·omega
 ·have hl : i = a.length := by (have : ¬ i < a.length := by simpa using h1); omega
  subst hl
  clear h1
  ((try dsimp only[awp]);(conv=>whnf))
  (refine fM ?_;(conv=>whnf);refine ⟨?_,rfl⟩;(conv=>whnf))
  (repeat' first|exact rfl|exact trivial|exact wR|exact lR _|apply aI)

theorem c_rats1 (a : List Rat) : FnH Try.prog 76 [.sl 3 (a.map Rat.av) .no, .sl 3 (a.map Rat.av) .no] [] .tt [] := by
 refine FnH.intro lay mixed Try.func76 (by kernel_rfl) rfl (by kernel_rfl) rfl fun hok => ?_
 have ha : a.length ≤ 9223372036854775807 := by simpa [OkL, Ok, maxL] using hok.1.1
 ((try dsimp only[argC,succC]);(try dsimp only[awp]);(conv=>whnf))
 refine And.intro (fun h => absurd rfl h) (fun _ => ?_)
 ((try dsimp only[awp]);(conv=>whnf))
 refine LoopE.of <| LoopSpec.inv (.refl _ _) (fun (i : Nat) => i ≤ a.length) (fun (i : Nat) => [(13, .int .i64 i)]) (fun _ => _) (fun (i : Nat) => a.length - i) 0 ?_ (fun _ => rfl) ?_ ?_
 ·exact Nat.zero_le _
 ·(repeat' first|exact rfl|exact trivial|exact wR|exact lR _|apply aI)
 intro i hi _
 ((try dsimp only[awp]);(conv=>whnf))
 refine And.intro (fun h1 => ?_) (fun h1 => ?_)
 ·have hlt : i < a.length := by simpa using h1
  ((try dsimp only[awp]);(conv=>whnf))
  (refine ADraw.auto (by kernel_rfl) ?_;(conv=>whnf))
  refine aidx hlt ?_
  ((try dsimp only[awp]);(conv=>whnf))
  refine aidx hlt ?_
  ((try dsimp only[awp]);(conv=>whnf))
  refine ACallP.pure _ _ ?_ ⟨rfl, rfl⟩ (ratSelf a[i]) ?_
  ·exact leL_refl _
  ((try dsimp only[awp]);(conv=>whnf))
  (refine ⟨inr64 (by omega) (by omega),?_⟩;(conv=>whnf))
  refine ⟨i + 1, ?_, ?_, ?_⟩
  ·exact hlt
  ·(repeat' first|exact rfl|exact trivial|exact wR|exact lR _|apply aI)
  ·omega
 ·have hl : i = a.length := by (have : ¬ i < a.length := by simpa using h1); omega
  subst hl
  clear h1
  ((try dsimp only[awp]);(conv=>whnf))
  (refine fM ?_;(conv=>whnf);refine ⟨?_,rfl⟩;(conv=>whnf))
  (repeat' first|exact rfl|exact trivial|exact wR|exact lR _|apply aI)

theorem c_sameGates1 (a : List Mg) : FnH Try.prog 74 [gL a, gL a] [] .tt [] := by
 refine FnH.intro lay mixed Try.func74 (by kernel_rfl) rfl (by kernel_rfl) rfl fun hok => ?_
 have ha : a.length ≤ 9223372036854775807 := by simpa [OkL, Ok, maxL] using hok.1.1
 ((try dsimp only[argC,succC]);(try dsimp only[awp]);(conv=>whnf))
 refine And.intro (fun h => absurd rfl h) (fun _ => ?_)
 ((try dsimp only[awp]);(conv=>whnf))
 refine LoopE.of <| LoopSpec.inv (.refl _ _) (fun (i : Nat) => i ≤ a.length) (fun (i : Nat) => [(15, .int .i64 i)]) (fun _ => _) (fun (i : Nat) => a.length - i) 0 ?_ (fun _ => rfl) ?_ ?_
 ·exact Nat.zero_le _
 ·(repeat' first|exact rfl|exact trivial|exact wR|exact lR _|apply aI)
 intro i hi _
 ((try dsimp only[awp]);(conv=>whnf))
 refine And.intro (fun h1 => ?_) (fun h1 => ?_)
 ·have hlt : i < a.length := by simpa using h1
  ((try dsimp only[awp]);(conv=>whnf))
  refine aidx hlt ?_
  ((try dsimp only[awp]);(conv=>whnf))
  refine aidx hlt ?_
  generalize a[i] = x at *
  ((try dsimp only[awp]);(conv=>whnf))
  refine And.intro (fun h2 => absurd rfl h2) (fun _ => ?_)
  ((try dsimp only[awp]);(conv=>whnf))
  refine And.intro (fun h2 => absurd rfl h2) (fun _ => ?_)
  ((try dsimp only[awp]);(conv=>whnf))
  refine And.intro (fun h2 => absurd rfl h2) (fun _ => ?_)
  ((try dsimp only[awp]);(conv=>whnf))
  refine .pure _ _ ?_ ⟨rfl, rfl⟩ (c_texts1 x.ins) fun _ => ?_
  ·exact leL_refl _
  ((try dsimp only[awp]);(conv=>whnf))
  refine .pure _ _ ?_ ⟨rfl, rfl⟩ (ratSelf x.dorm) fun _ => ?_
  ·exact leL_refl _
  ((try dsimp only[awp]);(conv=>whnf))
  (refine ⟨inr64 (by omega) (by omega),?_⟩;(conv=>whnf))
  refine ⟨i + 1, ?_, ?_, ?_⟩
  ·exact hlt
  ·refine ⟨?_, .mk ?_ (by simp [idsOk])⟩
   ·(repeat' first|exact rfl|exact trivial|exact wR|exact lR _|apply aI)
   ·(repeat' first|exact rfl|exact trivial|exact wR|exact lR _|apply aI)
  ·omega
 ·have hl : i = a.length := by (have : ¬ i < a.length := by simpa using h1); omega
  subst hl
  clear h1
  ((try dsimp only[awp]);(conv=>whnf))
  (refine fM ?_;(conv=>whnf);refine ⟨?_,rfl⟩;(conv=>whnf))
  (repeat' first|exact rfl|exact trivial|exact wR|exact lR _|apply aI)

theorem c_sameParts1 (m : Md) : FnH Try.prog 73 [m.av, m.av] [] .tt [] := by
 refine FnH.intro lay mixed Try.func73 (by kernel_rfl) rfl (by kernel_rfl) rfl fun hok => ?_
 have ha : m.evs.length ≤ 9223372036854775807 ∧ m.hs.length ≤ 9223372036854775807 ∧ m.pages.length ≤ 9223372036854775807 := by
  have := hok.1
  simp only [Ok, OkL, maxL, List.length_map] at this
  exact ⟨this.2.2.1.1, this.2.2.2.1.1, this.2.2.2.2.2.1.1⟩
 obtain ⟨ha1, ha2, ha3⟩ := ha
 ((try dsimp only[argC,succC]);(try dsimp only[awp]);(conv=>whnf))
 refine And.intro (fun h => absurd rfl h) (fun _ => ?_)
 ((try dsimp only[awp]);(conv=>whnf))
 refine And.intro (fun h2 => absurd rfl h2) (fun _ => ?_)
 ((try dsimp only[awp]);(conv=>whnf))
 refine And.intro (fun h2 => absurd rfl h2) (fun _ => ?_)
 ((try dsimp only[awp]);(conv=>whnf))
 refine LoopE.of <| LoopSpec.inv (.refl _ _) (fun (i : Nat) => i ≤ m.evs.length) (fun (i : Nat) => [(40, .int .i64 i)]) (fun _ => _) (fun (i : Nat) => m.evs.length - i) 0 ?_ (fun _ => rfl) ?_ ?_
 ·exact Nat.zero_le _
 ·(repeat' first|exact rfl|exact trivial|exact wR|exact lR _|apply aI)
 intro i hi _
 ((try dsimp only[awp]);(conv=>whnf))
 refine And.intro (fun h1 => ?_) (fun h1 => ?_)
 ·have hlt : i < m.evs.length := by simpa using h1
  ((try dsimp only[awp]);(conv=>whnf))
  refine aidx hlt ?_
  ((try dsimp only[awp]);(conv=>whnf))
  refine aidx hlt ?_
  generalize m.evs[i] = x at *
  ((try dsimp only[awp]);(conv=>whnf))
  refine And.intro (fun h2 => absurd rfl h2) (fun _ => ?_)
  ((try dsimp only[awp]);(conv=>whnf))
  refine And.intro (fun h2 => absurd rfl h2) (fun _ => ?_)
  ((try dsimp only[awp]);(conv=>whnf))
  refine .pure _ _ ?_ ⟨rfl, rfl⟩ (ratSelf x.p) fun _ => ?_
  ·exact leL_refl _
  ((try dsimp only[awp]);(conv=>whnf))
  refine .pure _ _ ?_ ⟨rfl, rfl⟩ (ratSelf x.fail) fun _ => ?_
  ·exact leL_refl _
  ((try dsimp only[awp]);(conv=>whnf))
  refine .pure _ _ ?_ ⟨rfl, rfl⟩ (ratSelf x.repair) fun _ => ?_
  ·exact leL_refl _
  ((try dsimp only[awp]);(conv=>whnf))
  (refine ⟨inr64 (by omega) (by omega),?_⟩;(conv=>whnf))
  refine ⟨i + 1, ?_, ?_, ?_⟩
  ·exact hlt
  ·refine ⟨?_, .mk ?_ (by simp [idsOk])⟩
   ·(repeat' first|exact rfl|exact trivial|exact wR|exact lR _|apply aI)
   ·(repeat' first|exact rfl|exact trivial|exact wR|exact lR _|apply aI)
  ·omega
 have hl : i = m.evs.length := by (have : ¬ i < m.evs.length := by simpa using h1); omega
 subst hl
 clear h1
 ((try dsimp only[awp]);(conv=>whnf))
 refine LoopE.of <| LoopSpec.inv (.refl _ _) (fun (i : Nat) => i ≤ m.hs.length) (fun (i : Nat) => [(90, .int .i64 i)]) (fun _ => _) (fun (i : Nat) => m.hs.length - i) 0 ?_ (fun _ => rfl) ?_ ?_
 ·exact Nat.zero_le _
 ·(repeat' first|exact rfl|exact trivial|exact wR|exact lR _|apply aI)
 intro i hi _
 ((try dsimp only[awp]);(conv=>whnf))
 refine And.intro (fun h1 => ?_) (fun h1 => ?_)
 ·have hlt : i < m.hs.length := by simpa using h1
  ((try dsimp only[awp]);(conv=>whnf))
  (refine ADraw.auto (by kernel_rfl) ?_;(conv=>whnf))
  refine aidx hlt ?_
  ((try dsimp only[awp]);(conv=>whnf))
  refine aidx hlt ?_
  generalize m.hs[i] = x at *
  ((try dsimp only[awp]);(conv=>whnf))
  refine And.intro (fun h2 => absurd (by simp [eqPL, eqP]) h2) (fun _ => ?_)
  ((try dsimp only[awp]);(conv=>whnf))
  (refine ⟨inr64 (by omega) (by omega),?_⟩;(conv=>whnf))
  refine ⟨i + 1, ?_, ?_, ?_⟩
  ·exact hlt
  ·refine ⟨?_, .mk ?_ (by simp [idsOk])⟩
   ·(repeat' first|exact rfl|exact trivial|exact wR|exact lR _|apply aI)
   ·(repeat' first|exact rfl|exact trivial|exact wR|exact lR _|apply aI)
  ·omega
 have hl : i = m.hs.length := by (have : ¬ i < m.hs.length := by simpa using h1); omega
 subst hl
 clear h1
 ((try dsimp only[awp]);(conv=>whnf))
 refine LoopE.of <| LoopSpec.inv (.refl _ _) (fun (i : Nat) => i ≤ m.pages.length) (fun (i : Nat) => [(108, .int .i64 i)]) (fun _ => _) (fun (i : Nat) => m.pages.length - i) 0 ?_ (fun _ => rfl) ?_ ?_
 ·exact Nat.zero_le _
 ·(repeat' first|exact rfl|exact trivial|exact wR|exact lR _|apply aI)
 intro i hi _
 ((try dsimp only[awp]);(conv=>whnf))
 refine And.intro (fun h1 => ?_) (fun h1 => ?_)
 ·have hlt : i < m.pages.length := by simpa using h1
  ((try dsimp only[awp]);(conv=>whnf))
  refine aidx hlt ?_
  ((try dsimp only[awp]);(conv=>whnf))
  refine aidx hlt ?_
  generalize m.pages[i] = x at *
  ((try dsimp only[awp]);(conv=>whnf))
  refine And.intro (fun h2 => absurd rfl h2) (fun _ => ?_)
  ((try dsimp only[awp]);(conv=>whnf))
  refine And.intro (fun h2 => absurd rfl h2) (fun _ => ?_)
  ((try dsimp only[awp]);(conv=>whnf))
  refine .pure _ _ ?_ ⟨rfl, rfl⟩ (c_sameGates1 x.gates) fun _ => ?_
  ·exact leL_refl _
  ((try dsimp only[awp]);(conv=>whnf))
  (refine ⟨inr64 (by omega) (by omega),?_⟩;(conv=>whnf))
  refine ⟨i + 1, ?_, ?_, ?_⟩
  ·exact hlt
  ·refine ⟨?_, .mk ?_ (by simp [idsOk])⟩
   ·(repeat' first|exact rfl|exact trivial|exact wR|exact lR _|apply aI)
   ·(repeat' first|exact rfl|exact trivial|exact wR|exact lR _|apply aI)
  ·omega
 have hl : i = m.pages.length := by (have : ¬ i < m.pages.length := by simpa using h1); omega
 subst hl
 clear h1
 ((try dsimp only[awp]);(conv=>whnf))
 (refine fM ?_;(conv=>whnf);refine ⟨?_,rfl⟩;(conv=>whnf))
 (repeat' first|exact rfl|exact trivial|exact wR|exact lR _|apply aI)

theorem c_Same1 (m : Md) (hv : ∀ p ∈ m.phs, p.vals.length ≤ 1000000) : FnH Try.prog 31 [m.av, m.av] [] .tt [] := by
 refine FnH.intro lay mixed Try.func31 (by kernel_rfl) rfl (by kernel_rfl) rfl fun hok => ?_
 have ha : m.grs.length ≤ 9223372036854775807 ∧ m.phs.length ≤ 9223372036854775807 := by
  have := hok.1
  simp only [Ok, OkL, maxL, List.length_map] at this
  exact ⟨this.2.2.2.2.2.2.1.1, this.2.2.2.2.2.2.2.1.1⟩
 obtain ⟨ha1, ha2⟩ := ha
 ((try dsimp only[argC,succC]);(try dsimp only[awp]);(conv=>whnf))
 refine And.intro (fun h => absurd rfl h) (fun _ => ?_)
 ((try dsimp only[awp]);(conv=>whnf))
 refine And.intro (fun h2 => absurd rfl h2) (fun _ => ?_)
 ((try dsimp only[awp]);(conv=>whnf))
 refine .pure _ _ ?_ ⟨rfl, rfl⟩ (c_sameParts1 m) fun _ => ?_
 ·exact leL_refl _
 ((try dsimp only[awp]);(conv=>whnf))
 refine .pure _ _ ?_ ⟨rfl, rfl⟩ (c_sameGates1 m.gates) fun _ => ?_
 ·exact leL_refl _
 ((try dsimp only[awp]);(conv=>whnf))
 refine And.intro (fun h2 => absurd rfl h2) (fun _ => ?_)
 ((try dsimp only[awp]);(conv=>whnf))
 refine And.intro (fun h2 => absurd rfl h2) (fun _ => ?_)
 ((try dsimp only[awp]);(conv=>whnf))
 refine LoopE.of <| LoopSpec.inv (.refl _ _) (fun (i : Nat) => i ≤ m.grs.length) (fun (i : Nat) => [(61, .int .i64 i)]) (fun _ => _) (fun (i : Nat) => m.grs.length - i) 0 ?_ (fun _ => rfl) ?_ ?_
 ·exact Nat.zero_le _
 ·(repeat' first|exact rfl|exact trivial|exact wR|exact lR _|apply aI)
 intro i hi _
 ((try dsimp only[awp]);(conv=>whnf))
 refine And.intro (fun h1 => ?_) (fun h1 => ?_)
 ·have hlt : i < m.grs.length := by simpa using h1
  ((try dsimp only[awp]);(conv=>whnf))
  refine aidx hlt ?_
  ((try dsimp only[awp]);(conv=>whnf))
  refine aidx hlt ?_
  generalize m.grs[i] = x at *
  ((try dsimp only[awp]);(conv=>whnf))
  refine And.intro (fun h2 => absurd rfl h2) (fun _ => ?_)
  ((try dsimp only[awp]);(conv=>whnf))
  refine And.intro (fun h2 => absurd rfl h2) (fun _ => ?_)
  ((try dsimp only[awp]);(conv=>whnf))
  refine .pure _ _ ?_ ⟨rfl, rfl⟩ (c_texts1 x.mem) fun _ => ?_
  ·exact leL_refl _
  ((try dsimp only[awp]);(conv=>whnf))
  refine .pure _ _ ?_ ⟨rfl, rfl⟩ (c_rats1 x.fac) fun _ => ?_
  ·exact leL_refl _
  ((try dsimp only[awp]);(conv=>whnf))
  (refine ⟨inr64 (by omega) (by omega),?_⟩;(conv=>whnf))
  refine ⟨i + 1, ?_, ?_, ?_⟩
  ·exact hlt
  ·refine ⟨?_, .mk ?_ (by simp [idsOk])⟩
   ·(repeat' first|exact rfl|exact trivial|exact wR|exact lR _|apply aI)
   ·(repeat' first|exact rfl|exact trivial|exact wR|exact lR _|apply aI)
  ·omega
 have hl : i = m.grs.length := by (have : ¬ i < m.grs.length := by simpa using h1); omega
 subst hl
 clear h1
 ((try dsimp only[awp]);(conv=>whnf))
 refine LoopE.of <| LoopSpec.inv (.refl _ _) (fun (i : Nat) => i ≤ m.phs.length) (fun (i : Nat) => [(103, .int .i64 i)]) (fun _ => _) (fun (i : Nat) => m.phs.length - i) 0 ?_ (fun _ => rfl) ?_ ?_
 ·exact Nat.zero_le _
 ·(repeat' first|exact rfl|exact trivial|exact wR|exact lR _|apply aI)
 intro i hi _
 ((try dsimp only[awp]);(conv=>whnf))
 refine And.intro (fun h1 => ?_) (fun h1 => ?_)
 ·have hlt : i < m.phs.length := by simpa using h1
  ((try dsimp only[awp]);(conv=>whnf))
  refine aidx hlt ?_
  ((try dsimp only[awp]);(conv=>whnf))
  refine aidx hlt ?_
  have hxv := hv _ (List.getElem_mem hlt)
  generalize m.phs[i] = x at *
  ((try dsimp only[awp]);(conv=>whnf))
  refine And.intro (fun h2 => absurd rfl h2) (fun _ => ?_)
  ((try dsimp only[awp]);(conv=>whnf))
  refine And.intro (fun h2 => absurd rfl h2) (fun _ => ?_)
  ((try dsimp only[awp]);(conv=>whnf))
  refine And.intro (fun h2 => absurd rfl h2) (fun _ => ?_)
  ((try dsimp only[awp]);(conv=>whnf))
  refine LoopE.of <| LoopSpec.inv (.refl _ _) (fun (j : Nat) => j ≤ x.vals.length) (fun (j : Nat) => [(137, .int .i64 j)]) (fun _ => _) (fun (j : Nat) => x.vals.length - j) 0 ?_ (fun _ => rfl) ?_ ?_
  ·exact Nat.zero_le _
  ·(repeat' first|exact rfl|exact trivial|exact wR|exact lR _|apply aI)
  intro j hj _
  ((try dsimp only[awp]);(conv=>whnf))
  refine And.intro (fun h2 => ?_) (fun h2 => ?_)
  ·have hlt2 : j < x.vals.length := by simpa using h2
   ((try dsimp only[awp]);(conv=>whnf))
   refine aidx hlt2 ?_
   ((try dsimp only[awp]);(conv=>whnf))
   refine aidx hlt2 ?_
   generalize x.vals[j] = v at *
   ((try dsimp only[awp]);(conv=>whnf))
   refine And.intro (fun h2 => absurd rfl h2) (fun _ => ?_)
   ((try dsimp only[awp]);(conv=>whnf))
   refine .pure _ _ ?_ ⟨rfl, rfl⟩ (ratSelf v.p) fun _ => ?_
   ·exact leL_refl _
   ((try dsimp only[awp]);(conv=>whnf))
   (refine ⟨inr64 (by omega) (by omega),?_⟩;(conv=>whnf))
   refine ⟨j + 1, ?_, ?_, ?_⟩
   ·exact hlt2
   ·refine ⟨?_, .mk ?_ (by simp [idsOk])⟩
    ·(repeat' first|exact rfl|exact trivial|exact wR|exact lR _|apply aI)
    ·(repeat' first|exact rfl|exact trivial|exact wR|exact lR _|apply aI)
   ·omega
  have hl2 : j = x.vals.length := by have : ¬ j < x.vals.length := by simpa using h2
                                     omega
  subst hl2
  clear h2
  ((try dsimp only[awp]);(conv=>whnf))
  (refine ⟨inr64 (by omega) (by omega),?_⟩;(conv=>whnf))
  refine ⟨i + 1, ?_, ?_, ?_⟩
  ·exact hlt
  ·refine ⟨?_, .mk ?_ (by simp [idsOk])⟩
   ·(repeat' first|exact rfl|exact trivial|exact wR|exact lR _|apply aI)
   ·(repeat' first|exact rfl|exact trivial|exact wR|exact lR _|apply aI)
  ·omega
 have hl : i = m.phs.length := by (have : ¬ i < m.phs.length := by simpa using h1); omega
 subst hl
 clear h1
 ((try dsimp only[awp]);(conv=>whnf))
 (refine fM ?_;(conv=>whnf);refine ⟨?_,rfl⟩;(conv=>whnf))
 (repeat' first|exact rfl|exact trivial|exact wR|exact lR _|apply aI)

theorem c_Same0 : FnH Try.prog 31 [zMd, zMd] [] .tt [] :=
 FnH.ofPure (c_Same1 ⟨[], [], [], [], [], [], [], []⟩ (by simp)) (by (repeat' first|exact rfl|exact trivial|apply aI)) ⟨rfl, rfl⟩
end S

open Go Go.AL Go.Proofs
namespace S
set_option maxRecDepth 100000

section
variable {σ : Type} (kids : Node → List Node) (step : σ → Node → σ) (V : σ → Node → Prop)

structure Inv (s : WS σ) : Prop where
 rank : ∃ rank : Node → Nat, ∀ x, look s.es x = 2 → ∀ y ∈ kids x, y.1 = 2 → look s.es y = 2 ∧ rank y < rank x
 met : ∀ x, look s.es x = 2 → V s.st x ∧ ∀ y ∈ kids x, y.1 ≠ 2 → V s.st y

structure On (s s' : WS σ) : Prop where
 one : ∀ y, look s'.es y = 1 ↔ look s.es y = 1
 two : ∀ y, look s.es y = 2 → look s'.es y = 2
 met : ∀ y, V s.st y → V s'.st y

structure After (x : Node) (s s' : WS σ) : Prop where
 inv : Inv kids V s'
 on : On V s s'
 done : x.1 = 2 → look s'.es x = 2
 leaf : x.1 ≠ 2 → V s'.st x

variable {kids step V}

end

end S

open Go Go.AL Go.Proofs
namespace S
set_option maxRecDepth 100000

structure GateOk (m : Md) (a : Int) (k : Nat) (x : Mg) : Prop where
 name : nameR x.name = true
 noEv : i_event m.evs x.name < 0
 noHs : i_house m.hs x.name < 0
 first : (k : Int) ≤ i_gate (gatesM m a) x.name
 own : mgErr x = 0

theorem MOk.gate {m : Md} (hM : MOk m) {a : Int} (ha : a = -1 ∨ (0 ≤ a ∧ a < (m.pages.length : Int))) {k : Nat} (hk : k < (gatesM m a).length) : GateOk m a k (gatesM m a)[k] := by
 have h := gatesErrAll_zero hM.gates ha k hk
 unfold gateErrM at h
 split at h
 ·cases h
 rename_i h1
 split at h
 ·cases h
 rename_i h2
 split at h
 ·cases h
 rename_i h3
 split at h
 ·cases h
 rename_i h4
 exact ⟨by simpa using h1, by omega, by omega, by omega, h⟩

theorem idxP_le {α : Type} {p : α → Bool} {l : List α} {k : Nat} (hk : k < l.length) (hp : p l[k] = true) : 0 ≤ idxP p l ∧ idxP p l ≤ k := by
 rcases idxP_cases p l with ⟨_, h2⟩ | ⟨i, hi, h1, _, h3⟩
 ·have := h2 _ (List.getElem_mem hk)
  rw [hp] at this; cases this
 ·refine ⟨by omega, ?_⟩
  rw [h1]
  rcases Nat.lt_or_ge k i with h | h
  ·have := h3 k h
   rw [hp] at this; cases this
  ·omega

theorem name_noAt {s : Str} (h : nameR s = true) : atS s = false := by
 unfold nameR at h
 simp only [Bool.and_eq_true, decide_eq_true_eq] at h
 unfold atS
 rw [Bool.and_eq_false_iff]
 right
 apply decide_eq_false
 intro e
 have := h.1.2
 rw [e] at this
 revert this
 decide

theorem MOk.ins_in {m : Md} (hM : MOk m) {a : Int} (ha : a = -1 ∨ (0 ≤ a ∧ a < (m.pages.length : Int))) {x : Mg} (hx : x ∈ gatesM m a) {s : Str} (hs : s ∈ x.ins) : isInR m a s = true := by
 obtain ⟨sp, h4⟩ := insAll_in hM.ins _ (ats_mem.2 ha)
 exact (pageIns_in h4).1 x hx s hs

theorem MOk.page_top {m : Md} (hM : MOk m) {p : Int} (hp : 0 ≤ p ∧ p < (m.pages.length : Int)) : (0 ≤ i_gate (gatesM m p) (pageTop m p) ∧ i_house m.hs (pageTop m p) < 0) ∨ 0 ≤ i_event m.evs (pageTop m p) := by
 obtain ⟨sp, h4⟩ := insAll_in hM.ins _ (ats_mem.2 (.inr hp))
 rcases (pageIns_in h4).2 (by omega) with h | h
 ·left
  refine ⟨h, ?_⟩
  obtain ⟨i, hi, _, h2⟩ := idx_name h
  have := (hM.gate (.inr hp) hi).noHs
  rw [h2] at this
  exact this
 ·exact .inr h

structure Local (m : Md) (a : Int) (s : Str) (r : Node) : Prop where
 idx : 0 ≤ r.2.2
 kind : r.1 = 0 ∨ r.1 = 1 ∨ r.1 = 2
 ev : r.1 = 0 → r.2.2 < (m.evs.length : Int) ∧ (atS s = false → (m.evs.getD r.2.2.toNat default).name = s)
 hs : r.1 = 1 → r.2.2 < (m.hs.length : Int) ∧ (m.hs.getD r.2.2.toNat default).name = s
 gate : r.1 = 2 → (r.2.1 = -1 ∨ (0 ≤ r.2.1 ∧ r.2.1 < (m.pages.length : Int))) ∧ r.2.2 < ((gatesM m r.2.1).length : Int) ∧
  (atS s = false → r.2.1 = a ∧ ((gatesM m r.2.1).getD r.2.2.toNat default).name = s) ∧
  (atS s = true → 0 ≤ r.2.1 ∧ (m.pages.getD r.2.1.toNat default).name = s.drop 1 ∧ (m.pages.getD r.2.1.toNat default).top = ((gatesM m r.2.1).getD r.2.2.toNat default).name)

end S

open Go Go.AL Go.Proofs
namespace S
set_option maxRecDepth 100000

theorem idxP_mapr {α β : Type} {f : α → β} {p : β → Bool} : ∀ l : List α, idxP p (l.map f) = idxP (fun x => p (f x)) l
 | [] => rfl
 | x :: l => by simp only [List.map_cons, idxP]; rw [idxP_mapr l]

theorem idxP_ext {α : Type} {p q : α → Bool} : ∀ {l : List α}, (∀ x ∈ l, p x = q x) → idxP p l = idxP q l
 | [], _ => rfl
 | x :: l, h => by simp only [idxP]; rw [h x (by simp), idxP_ext fun y hy => h y (by simp [hy])]

def Fr (old new s : Str) : Prop := s = new → new = old

theorem Fr.back {old new s : Str} (h : Fr old new s) : rnS new old (rnS old new s) = s := by
 unfold rnS
 by_cases e : s = old
 ·rw [if_pos e, if_pos rfl, e]
 ·rw [if_neg e]
  by_cases e2 : s = new
  ·rw [if_pos e2]; exact (e2.trans (h e2)).symm
  ·rw [if_neg e2]

structure FreshM (m : Md) (old new : Str) : Prop where
 ev : 0 ≤ i_event m.evs old
 evs : ∀ x ∈ m.evs, Fr old new x.name
 top : Fr old new m.top
 gates : ∀ g ∈ m.gates, ∀ s ∈ g.ins, Fr old new s
 pages : ∀ p ∈ m.pages, Fr old new p.top ∧ ∀ g ∈ p.gates, ∀ s ∈ g.ins, Fr old new s
 grs : ∀ g ∈ m.grs, ∀ s ∈ g.mem, Fr old new s
 phs : ∀ p ∈ m.phs, Fr old new p.top ∧ ∀ v ∈ p.vals, Fr old new v.ev
 nold : nameR old = true
 nnew : nameR new = true

theorem map_id2 {α : Type} {f g : α → α} {l : List α} (h : ∀ x ∈ l, g (f x) = x) : (l.map f).map g = l := by
 rw [List.map_map]
 conv => rhs; rw [← List.map_id l]
 exact List.map_congr_left fun x hx => h x hx

theorem rn_back {m : Md} {old new : Str} (h : FreshM m old new) : rnM (rnM m old new) new old = m := by
 obtain ⟨n, t, es, hs, gs, ps, grs, phs⟩ := m
 have hg : ∀ (l : List Mg), (∀ g ∈ l, ∀ s ∈ g.ins, Fr old new s) → (l.map (rnG old new)).map (rnG new old) = l := fun l hl => map_id2 fun g hg => by
  obtain ⟨a, b, c, d, e⟩ := g
  show Mg.mk a b c _ e = _
  congr 1
  exact map_id2 fun s hs => (hl _ hg s hs).back
 show Md.mk n _ _ hs _ _ _ _ = _
 congr 1
 ·exact h.top.back
 ·refine map_id2 fun x hx => ?_
  obtain ⟨a, b, c, d, e⟩ := x
  show Ev.mk _ b c d e = _
  congr 1
  exact (h.evs _ hx).back
 ·exact hg _ h.gates
 ·refine map_id2 fun x hx => ?_
  obtain ⟨a, b, c⟩ := x
  show Pg.mk a _ _ = _
  congr 1
  ·exact (h.pages _ hx).1.back
  ·exact hg _ (h.pages _ hx).2
 ·refine map_id2 fun x hx => ?_
  obtain ⟨a, b, c, d⟩ := x
  show Gr.mk a b _ d = _
  congr 1
  exact map_id2 fun s hs => (h.grs _ hx s hs).back
 ·refine map_id2 fun x hx => ?_
  obtain ⟨a, b, c⟩ := x
  show Ph.mk a _ _ = _
  congr 1
  ·exact (h.phs _ hx).1.back
  ·refine map_id2 fun v hv => ?_
   obtain ⟨v1, v2⟩ := v
   show Pv.mk _ v2 = _
   congr 1
   exact ((h.phs _ hx).2 _ hv).back

theorem rnS_inj {old new s t : Str} (hs : Fr old new s) (ht : Fr old new t) : rnS old new s = rnS old new t ↔ s = t := by
 constructor
 ·intro e
  have := congrArg (rnS new old) e
  rwa [hs.back, ht.back] at this
 ·rintro rfl; rfl

theorem rn_event {m : Md} {old new s : Str} (h : FreshM m old new) (hs : Fr old new s) : i_event (rnM m old new).evs (rnS old new s) = i_event m.evs s := by
 unfold i_event
 show idxP _ (m.evs.map (rnE old new)) = _
 rw [idxP_mapr]
 refine idxP_ext fun x hx => ?_
 rw [decide_eq_decide]
 exact rnS_inj (h.evs x hx) hs

theorem rn_gates (m : Md) (old new : Str) (a : Int) : gatesM (rnM m old new) a = (gatesM m a).map (rnG old new) := by
 unfold gatesM
 split
 ·rfl
 ·show ((m.pages.map (rnP old new)).getD a.toNat default).gates = _
  rw [List.getD_eq_getElem?_getD, List.getElem?_map, List.getD_eq_getElem?_getD]
  cases m.pages[a.toNat]? <;> rfl

theorem rn_gate (m : Md) (old new : Str) (a : Int) (s : Str) : i_gate (gatesM (rnM m old new) a) s = i_gate (gatesM m a) s := by
 unfold i_gate
 rw [rn_gates, idxP_mapr]; rfl

theorem rn_page (m : Md) (old new : Str) (s : Str) : i_page (rnM m old new).pages s = i_page m.pages s := by
 unfold i_page
 show idxP _ (m.pages.map (rnP old new)) = _
 rw [idxP_mapr]; rfl

theorem rnS_nil {old new : Str} (h : nameR old = true) : rnS old new [] = [] := by
 unfold rnS
 rw [if_neg]
 intro e
 have := nameR_pos h
 rw [← e] at this
 simp at this

theorem rn_ptop {m : Md} {old new : Str} (h : FreshM m old new) (a : Int) : pageTop (rnM m old new) a = rnS old new (pageTop m a) ∧ Fr old new (pageTop m a) := by
 unfold pageTop
 show ((m.pages.map (rnP old new)).getD a.toNat default).top = _ ∧ _
 rw [List.getD_eq_getElem?_getD, List.getElem?_map, List.getD_eq_getElem?_getD]
 cases hp : m.pages[a.toNat]? with
 | none =>
   refine ⟨(rnS_nil h.nold).symm, fun e => ?_⟩
   have := nameR_pos h.nnew
   rw [← e] at this
   exact absurd this (by decide)
 | some p => exact ⟨rfl, (h.pages p (List.mem_of_getElem? hp)).1⟩

theorem rn_ins {m : Md} {old new : Str} (h : FreshM m old new) (a : Int) : ∀ g ∈ gatesM m a, ∀ s ∈ g.ins, Fr old new s := by
 intro g hg
 unfold gatesM at hg
 split at hg
 ·exact h.gates g hg
 ·rw [List.getD_eq_getElem?_getD] at hg
  cases hp : m.pages[a.toNat]? with
  | none => rw [hp] at hg; exact absurd hg (by show ¬ g ∈ ([] : List Mg); simp)
  | some p => rw [hp] at hg; exact (h.pages p (List.mem_of_getElem? hp)).2 g hg

theorem rn_resOn {m : Md} {old new s : Str} (h : FreshM m old new) (hs : Fr old new s) (a : Int) : resOn (rnM m old new) a (rnS old new s) = resOn m a s := by
 unfold resOn
 rw [rn_event h hs, rn_gate]
 by_cases e : s = old
 ·rw [if_pos (by rw [e]; exact h.ev), if_pos (by rw [e]; exact h.ev)]
 ·rw [show rnS old new s = s from if_neg e]; rfl

theorem rn_at {old new s : Str} (ho : nameR old = true) (hn : nameR new = true) : atS (rnS old new s) = atS s := by
 unfold rnS
 by_cases e : s = old
 ·rw [if_pos e, e, name_noAt ho, name_noAt hn]
 ·rw [if_neg e]

theorem rn_res {m : Md} {old new s : Str} (h : FreshM m old new) (hs : Fr old new s) (a : Int) : resR (rnM m old new) a (rnS old new s) = resR m a s := by
 unfold resR
 rw [rn_at h.nold h.nnew]
 by_cases e : atS s = true
 ·have hne : s ≠ old := by rintro rfl; rw [name_noAt h.nold] at e; cases e
  rw [if_pos e, if_pos e, show rnS old new s = s from if_neg hne, rn_page, (rn_ptop h _).1]
  exact rn_resOn h (rn_ptop h _).2 _
 ·rw [if_neg e, if_neg e]
  exact rn_resOn h hs a

theorem rn_gateAt (m : Md) (old new : Str) (x : Node) : gateAt (rnM m old new) x = rnG old new (gateAt m x) := by
 unfold gateAt
 rw [rn_gates, List.getD_eq_getElem?_getD, List.getElem?_map, List.getD_eq_getElem?_getD]
 cases (gatesM m x.2.1)[x.2.2.toNat]? <;> rfl

theorem rn_kids {m : Md} {old new : Str} (h : FreshM m old new) : kidsM (rnM m old new) = kidsM m := by
 funext x
 unfold kidsM
 rw [rn_gateAt]
 show ((gateAt m x).ins.map (rnS old new)).map _ = _
 rw [List.map_map]
 refine List.map_congr_left fun s hs => rn_res h ?_ _
 unfold gateAt at hs
 rw [List.getD_eq_getElem?_getD] at hs
 cases hg : (gatesM m x.2.1)[x.2.2.toNat]? with
 | none => rw [hg] at hs; exact absurd hs (by show ¬ s ∈ ([] : List Str); simp)
 | some g => rw [hg] at hs; exact rn_ins h _ g (List.mem_of_getElem? hg) s hs

theorem rn_nodes (m : Md) (old new : Str) : allNodes (rnM m old new) = allNodes m := by
 unfold allNodes
 have h1 : atsM (rnM m old new) = atsM m := by
  unfold atsM
  show (List.range ((m.pages.map (rnP old new)).length + 1)).map _ = _
  rw [List.length_map]
 rw [h1]
 congr 1
 funext a
 unfold nodesAt
 rw [rn_gates, List.length_map]

theorem rn_visited {m : Md} {old new : Str} (h : FreshM m old new) : visitedM (rnM m old new) = visitedM m := by
 unfold visitedM walkV
 have h1 : fuelM (rnM m old new) = fuelM m := by unfold fuelM; rw [rn_nodes]
 rw [rn_kids h, h1]
 show (walkF _ _ _ (resR _ _ (rnS old new m.top)) _).2.st = _
 rw [rn_res h h.top]

theorem rn_used {m : Md} {old new : Str} (h : FreshM m old new) : usedR (rnM m old new) = usedR m := by
 unfold usedR
 rw [rn_visited h]

theorem rn_dyn {m : Md} {old new : Str} (h : FreshM m old new) : dynR (rnM m old new) = dynR m := by
 unfold dynR dynV
 rw [rn_visited h]
 congr 1
 funext x
 rw [rn_gateAt]; rfl

theorem ev_ok {m : Md} (h : eventsErr m = 0) {s : Str} (hs : 0 ≤ i_event m.evs s) : nameR s = true := by
 obtain ⟨i, hi, _, h2⟩ := idx_name hs
 have := (eventsErr_zero h).2.2.1 i hi
 unfold evErr at this
 split at this
 ·cases this
 rename_i h3
 rw [← h2]
 simpa using h3

theorem ev_first {m : Md} (h : eventsErr m = 0) {i : Nat} (hi : i < m.evs.length) : (i : Int) ≤ i_event m.evs m.evs[i].name := by
 have := (eventsErr_zero h).2.2.1 i hi
 unfold evErr at this
 split at this
 ·cases this
 split at this
 ·cases this
 omega

theorem rnS_new {old new : Str} : rnS old new old = new := if_pos rfl

theorem isIn_Fr {m : Md} {old new : Str} {a : Int} {s : Str} (hn : nameR new = true) (h : new ≠ old → i_event m.evs new < 0 ∧ i_house m.hs new < 0 ∧ i_gate (gatesM m a) new < 0) (hs : isInR m a s = true) : Fr old new s := by
 rintro rfl
 apply Classical.byContradiction
 intro hne
 obtain ⟨h1, h2, h3⟩ := h hne
 unfold isInR at hs
 rw [if_neg (by rw [name_noAt hn]; simp)] at hs
 simp only [Bool.or_eq_true, decide_eq_true_eq] at hs
 omega

theorem memErr_in {m : Md} : ∀ {l sp : List Str}, (memErr m l sp).1 = 0 → ∀ s ∈ l, 0 ≤ i_event m.evs s
 | [], _, _, s, hs => by simp at hs
 | x :: l, sp, h, s, hs => by
   simp only [memErr] at h
   split at h
   ·cases h
   rename_i h1
   split at h
   ·cases h
   rcases List.mem_cons.1 hs with rfl | hs
   ·omega
   ·exact memErr_in h s hs

theorem grErr_in {m : Md} {i : Nat} {x : Gr} {sp : List Str} (h : (grErr m i x sp).1 = 0) : ∀ s ∈ x.mem, 0 ≤ i_event m.evs s := by
 have key : (memErr m x.mem sp).1 = 0 := by
  unfold grErr at h
  have step : ∀ {c : Prop} [Decidable c] {n : Int} {A : Int × List Str}, n ≠ 0 → (if c then ((n, []) : Int × List Str) else A).1 = 0 → A.1 = 0 := by
   intro c _ n A hn h
   split at h
   ·exact absurd h hn
   ·exact h
  have h := step (by decide) (step (by decide) (step (by decide) (step (by decide) (step (by decide) (step (by decide) h)))))
  by_cases hm : (memErr m x.mem sp).1 ≠ 0
  ·rw [if_pos hm] at h; exact h
  ·simpa using hm
 exact memErr_in key

theorem grsErr_in {m : Md} : ∀ {l : List Gr} {i : Nat} {sp : List Str}, grsErr m i l sp = 0 → ∀ g ∈ l, ∀ s ∈ g.mem, 0 ≤ i_event m.evs s
 | [], _, _, _, g, hg, _, _ => by simp at hg
 | x :: l, i, sp, h, g, hg, s, hs => by
   simp only [grsErr] at h
   split at h
   ·rename_i hne; exact absurd h hne
   rename_i hne
   rcases List.mem_cons.1 hg with rfl | hg
   ·exact grErr_in (by simpa using hne) s hs
   ·exact grsErr_in h g hg s hs

theorem groups_in {m : Md} (h : groupsErr m = 0) : ∀ g ∈ m.grs, ∀ s ∈ g.mem, 0 ≤ i_event m.evs s := by
 unfold groupsErr at h
 split at h
 ·cases h
 ·exact grsErr_in h

theorem phases_in {m : Md} (h : phasesErr m = 0) : ∀ p ∈ m.phs, isInR m (-1) p.top = true ∧ ∀ v ∈ p.vals, 0 ≤ i_event m.evs v.ev := by
 unfold phasesErr at h
 split at h
 ·cases h
 intro p hp
 obtain ⟨i, hi, rfl⟩ := List.getElem_of_mem hp
 have := errL_zero.1 h i hi
 unfold phErr at this
 split at this
 ·cases this
 split at this
 ·cases this
 split at this
 ·cases this
 rename_i h3
 refine ⟨by simpa using h3, fun v hv => ?_⟩
 obtain ⟨j, hj, rfl⟩ := List.getElem_of_mem hv
 have := errL_zero.1 this j hj
 unfold pvErr at this
 split at this
 ·cases this
 omega

theorem fresh_of {m : Md} {old new : Str} (hM : MOk m) (ho : 0 ≤ i_event m.evs old) (hN : MOk (rnM m old new)) : FreshM m old new := by
 have hev : 0 ≤ i_event (rnM m old new).evs new := by
  unfold i_event
  rw [idxP_nonneg, List.any_eq_true]
  obtain ⟨i, hi, _, h2⟩ := idx_name ho
  exact ⟨rnE old new m.evs[i], List.mem_map.2 ⟨_, List.getElem_mem hi, rfl⟩, by
   show decide (rnS old new m.evs[i].name = new) = true
   rw [h2, rnS_new]; simp⟩
 have nnew := ev_ok hN.evs hev
 have nold := ev_ok hM.evs ho
 have e1 : new ≠ old → i_event m.evs new < 0 := by
  intro hne
  apply Classical.byContradiction
  intro hc
  have hc : 0 ≤ i_event m.evs new := by omega
  obtain ⟨i, hi, _, h2⟩ := idx_name ho
  obtain ⟨j, hj, _, h3⟩ := idx_name hc
  have hi' : i < (rnM m old new).evs.length := by show i < (m.evs.map _).length; rw [List.length_map]; exact hi
  have hj' : j < (rnM m old new).evs.length := by show j < (m.evs.map _).length; rw [List.length_map]; exact hj
  have gi : (rnM m old new).evs[i].name = new := by
   show ((m.evs.map (rnE old new))[i]'(by simpa using hi)).name = new
   rw [List.getElem_map]; show rnS old new _ = _; rw [h2, rnS_new]
  have gj : (rnM m old new).evs[j].name = new := by
   show ((m.evs.map (rnE old new))[j]'(by simpa using hj)).name = new
   rw [List.getElem_map]; show rnS old new _ = _; rw [h3]; exact if_neg hne
  have f1 := ev_first hN.evs hi'
  have f2 := ev_first hN.evs hj'
  rw [gi] at f1
  rw [gj] at f2
  have l1 := (idxP_le (p := fun x => decide (x.name = new)) hi' (by simpa using gi)).2
  have l2 := (idxP_le (p := fun x => decide (x.name = new)) hj' (by simpa using gj)).2
  unfold i_event at f1 f2
  have : i = j := by omega
  subst this
  rw [h2] at h3
  exact hne h3.symm
 have e2 : i_house m.hs new < 0 := by
  apply Classical.byContradiction
  intro hc
  have hc : 0 ≤ i_house (rnM m old new).hs new := by show 0 ≤ i_house m.hs new; omega
  obtain ⟨i, hi, _, h2⟩ := idx_name hc
  have := (eventsErr_zero hN.evs).2.2.2 i hi
  unfold hsErr at this
  split at this
  ·cases this
  split at this
  ·cases this
  rename_i h4
  exact h4 (by rw [h2]; exact hev)
 have e3 : ∀ a : Int, a = -1 ∨ (0 ≤ a ∧ a < (m.pages.length : Int)) → i_gate (gatesM m a) new < 0 := by
  intro a ha
  apply Classical.byContradiction
  intro hc
  have hc : 0 ≤ i_gate (gatesM (rnM m old new) a) new := by rw [rn_gate]; omega
  obtain ⟨i, hi, _, h2⟩ := idx_name hc
  have ha' : a = -1 ∨ (0 ≤ a ∧ a < ((rnM m old new).pages.length : Int)) := by
   show a = -1 ∨ (0 ≤ a ∧ a < ((m.pages.map (rnP old new)).length : Int)); rw [List.length_map]; exact ha
  have := (hN.gate ha' hi).noEv
  rw [h2] at this
  omega
 have fr : ∀ {a : Int} {s : Str}, a = -1 ∨ (0 ≤ a ∧ a < (m.pages.length : Int)) → isInR m a s = true → Fr old new s := fun ha hs => isIn_Fr nnew (fun hne => ⟨e1 hne, e2, e3 _ ha⟩) hs
 have fe : ∀ {s : Str}, 0 ≤ i_event m.evs s → Fr old new s := by
  intro s hs e
  apply Classical.byContradiction
  intro hne
  have := e1 hne
  rw [← e] at this
  omega
 refine ⟨ho, fun x hx => ?_, fr (.inl rfl) hM.top, fun g hg s hs => fr (.inl rfl) (hM.ins_in (.inl rfl) hg hs), fun p hp => ?_, fun g hg s hs => ?_, fun p hp => ?_, nold, nnew⟩
 ·obtain ⟨i, hi, rfl⟩ := List.getElem_of_mem hx
  exact fe (by have := ev_first hM.evs hi; omega)
 ·obtain ⟨i, hi, rfl⟩ := List.getElem_of_mem hp
  have ha : (0 : Int) ≤ i ∧ (i : Int) < (m.pages.length : Int) := by omega
  have hpt : pageTop m i = m.pages[i].top := by unfold pageTop; rw [Int.toNat_natCast, List.getD_eq_getElem?_getD, List.getElem?_eq_getElem hi]; rfl
  have hpg : gatesM m i = m.pages[i].gates := by unfold gatesM; rw [if_neg (by omega), Int.toNat_natCast, List.getD_eq_getElem?_getD, List.getElem?_eq_getElem hi]; rfl
  refine ⟨?_, fun g hg s hs => fr (.inr ha) (hM.ins_in (.inr ha) (by rw [hpg]; exact hg) hs)⟩
  rw [← hpt]
  rcases hM.page_top ha with ⟨h1, _⟩ | h1
  ·intro e
   rw [e] at h1
   have := e3 _ (.inr ha)
   omega
  ·exact fe h1
 ·exact fe (groups_in hM.grs g hg s hs)
 ·obtain ⟨h1, h2⟩ := phases_in hM.phs p hp
  exact ⟨fr (.inl rfl) h1, fun v hv => fe (h2 v hv)⟩
end S

open Go Go.AL Go.Proofs
namespace Go.AL
section
variable {P : Program} {ops : Array Oper} {Q : Exit → Act → World → Prop} {a : Act} {w : World} {o : Oper} {l : List Oper}

theorem wpl_val (v : Value) (w' : World) (hg : o.guard = none) (hrun : (execOp a.eval o).run P w = .ok (.value v) w') (h : wpList P ops Q l (a.put o.dst v) w') : wpList P ops Q (o :: l) a w := by
 simp only [wpList]
 rw [if_pos (wanted_none hg)]
 refine .inl ?_
 unfold Oper.wp
 rw [hrun, Oper.upon_value]; exact h

theorem wpl_skip (w' : World) (hg : o.guard = none) (hrun : (execOp a.eval o).run P w = .ok .skip w') (h : wpList P ops Q l (a.put o.dst undef) w') : wpList P ops Q (o :: l) a w := by
 simp only [wpList]
 rw [if_pos (wanted_none hg)]
 refine .inl ?_
 unfold Oper.wp
 rw [hrun, Oper.upon_skip]; exact h

structure Ext (w w' : World) : Prop where
 size : w.heap.size ≤ w'.heap.size
 old : ∀ b, b < w.heap.size → w'.heap[b]? = w.heap[b]?
 os : w'.os = w.os
 tape : w'.tape = w.tape
 output : w'.output = w.output

theorem Ext.trans {w v u : World} (h : Ext w v) (g : Ext v u) : Ext w u :=
 ⟨Nat.le_trans h.size g.size, fun b hb => (g.old b (Nat.lt_of_lt_of_le hb h.size)).trans (h.old b hb), g.os.trans h.os, g.tape.trans h.tape, g.output.trans h.output⟩

theorem wpl_alloc (v : Value) (ob : Obj) (hg : o.guard = none) (hrun : (execOp a.eval o).run P w = .ok (.value v) (w.alloc ob))
  (h : ∀ w', Ext w w' → w'.heap.size = w.heap.size + 1 → w'.heap[w.heap.size]? = some ob → wpList P ops Q l (a.put o.dst v) w') : wpList P ops Q (o :: l) a w := by
 refine wpl_val v _ hg hrun (h _ ⟨?_, fun b hb => alloc_heap_old w ob hb, rfl, rfl, rfl⟩ ?_ (alloc_heap_new w ob))
 ·show w.heap.size ≤ (w.heap.push ob).size
  rw [Array.size_push]; omega
 ·show (w.heap.push ob).size = _
  rw [Array.size_push]

theorem load_agg {t : Nat} {i : TI} {cs : List Value} {b off : Nat} (hT : TIOk P t i) (hz : isAg i.zero = true) (hl : cs.length = flat i.zero)
  (hc : ∀ j v, cs[j]? = some v → w.cell? ⟨b, off + j, none⟩ = some v) : (loadVar t ⟨b, off, none⟩).run P w = .ok (.agg cs.toArray) w := by
 unfold loadVar
 simp only [Sem.run_bind, hT.run_isAgg, Result.andThen_ok]
 have := run_loadCells_list (P := P) w ⟨b, off, none⟩ cs (fun j v hj => by
  have := hc j v hj
  unfold Addr.add; split
  ·rename_i h0; subst h0; simpa using this
  ·simpa using this)
 simp only [hz, if_true, Sem.run_bind, hT.run_size, Result.andThen_ok, ← hl, this, Sem.run_pure]

theorem load_one {t : Nat} {i : TI} {v : Value} {b off : Nat} (hT : TIOk P t i) (hz : isAg i.zero = false) (hc : w.cell? ⟨b, off, none⟩ = some v) : (loadVar t ⟨b, off, none⟩).run P w = .ok v w := by
 unfold loadVar
 simp only [Sem.run_bind, hT.run_isAgg, Result.andThen_ok, hz, Bool.false_eq_true, if_false, run_load, hc]

theorem results_cell {fn : Func} {tmps : Array Value} {t ty : Nat} {ad : Addr} {v : Value} (hr : fn.results.toList = [.cell t ty]) (ha : tmps.getD t undef = .pointer (some ad)) (hl : (loadVar ty ad).run P w = .ok v w) :
  (results fn tmps).run P w = .ok v w := by
 have h1 : (fn.results.toList.mapM (fun | .tmp t => pure (tmps.getD t undef) | .cell b t => do loadVar t (← asAddr (tmps.getD b undef)) : ResultVar → Sem Value)).run P w = .ok [v] w := by
  rw [hr]
  have e2 : (asAddr (Value.pointer (some ad))).run P w = .ok ad w := rfl
  simp only [List.mapM_cons, List.mapM_nil, Sem.run_bind, ha, e2, hl, Sem.run_pure, Result.andThen_ok]
 unfold results
 rw [Array.mapM_eq_mapM_toList]
 simp only [Sem.run_bind, map_eq_pure_bind, Sem.run_pure, Result.andThen_ok]
 erw [h1]
 simp

theorem run_store' {t : Nat} {x y : Operand} {ad : Addr} {v : Value} {w' : World} (ho : o.op = .store t x y) (hx : a.eval x = .pointer (some ad)) (hy : a.eval y = v) (h : (storeVar t ad v).run P w = .ok () w') :
  (execOp a.eval o).run P w = .ok .skip w' := by
 subst hy
 exact run_store_op (c := cx0 w) ho hx h

theorem setRow_ext {w : World} {g : Nat} {cs : Array Value} {w0 : World} (h : Ext w0 w) (hg : w0.heap.size ≤ g) : Ext w0 (w.setRow g cs) :=
 ⟨by rw [setRow_size]; exact h.size, fun b hb => (setRow_other w g b cs (by omega)).trans (h.old b hb), h.os, h.tape, h.output⟩
end
end Go.AL

namespace S
set_option maxRecDepth 100000

def exEv : Array Value := #[.string ⟨#[97]⟩, .bool false, .slice none 0 0, .slice none 0 0, .bool false, .slice none 0 0, .slice none 0 0, .bool false, .slice none 0 0, .slice none 0 0, .int .i64 0, .string ⟨#[98]⟩, .bool false, .slice none 0 0, .slice none 0 0, .bool false, .slice none 0 0, .slice none 0 0, .bool false, .slice none 0 0, .slice none 0 0, .int .i64 0, .string ⟨#[99]⟩, .bool false, .slice none 0 0, .slice none 0 0, .bool false, .slice none 0 0, .slice none 0 0, .bool false, .slice none 0 0, .slice none 0 0, .int .i64 0]
def exI0 : Array Value := #[.string ⟨#[97]⟩, .string ⟨#[64, 112]⟩]
def exG0 (n : Nat) : Array Value := #[.string ⟨#[103]⟩, .int .i64 0, .int .i64 0, .slice (some ⟨n, 0, none⟩) 2 2, .bool false, .slice none 0 0, .slice none 0 0]
def exI1 : Array Value := #[.string ⟨#[98]⟩, .string ⟨#[99]⟩]
def exG1 (n : Nat) : Array Value := #[.string ⟨#[104]⟩, .int .i64 1, .int .i64 0, .slice (some ⟨n, 0, none⟩) 2 2, .bool false, .slice none 0 0, .slice none 0 0]
def exP (n : Nat) : Array Value := #[.string ⟨#[112]⟩, .string ⟨#[104]⟩, .slice (some ⟨n, 0, none⟩) 1 1]
def exM (a b c : Nat) : Array Value := #[.string ⟨#[109]⟩, .string ⟨#[103]⟩, .slice (some ⟨a, 0, none⟩) 3 3, .slice none 0 0, .slice (some ⟨b, 0, none⟩) 1 1, .slice (some ⟨c, 0, none⟩) 1 1, .slice none 0 0, .slice none 0 0]

structure ExW (w w' : World) : Prop where
 ext : Ext w w'
 size : w'.heap.size = w.heap.size + 7
 ev : w'.heap[w.heap.size + 1]? = some (.cells exEv 77)
 i0 : w'.heap[w.heap.size + 2]? = some (.cells exI0 9)
 g0 : w'.heap[w.heap.size + 3]? = some (.cells (exG0 (w.heap.size + 2)) 73)
 i1 : w'.heap[w.heap.size + 4]? = some (.cells exI1 9)
 g1 : w'.heap[w.heap.size + 5]? = some (.cells (exG1 (w.heap.size + 4)) 73)
 pg : w'.heap[w.heap.size + 6]? = some (.cells (exP (w.heap.size + 5)) 81)

theorem raw_Ex (w : World) (R : Ending → World → Prop) (hR : ∀ w', ExW w w' → R (.returned (.agg (exM (w.heap.size + 1) (w.heap.size + 3) (w.heap.size + 6)))) w') : Calls Try.prog 51 #[] w R := by
 obtain ⟨iM, hTM, hiM⟩ : ∃ i, TIOk Try.prog 65 i ∧ flat i.zero = 8 ∧ isAg i.zero = true := Lay.getC_ok lay (k := fun i => flat i.zero = 8 ∧ isAg i.zero = true) (by (conv => whnf); exact ⟨rfl, rfl⟩)
 refine calls_of_wp Try.func51 rfl ?_
 refine wp_seq (wp_region_list ?_)
 refine wpl_alloc (.pointer (some ⟨w.heap.size, 0, none⟩)) (.cells #[.string ⟨#[]⟩, .string ⟨#[]⟩, .slice none 0 0, .slice none 0 0, .slice none 0 0, .slice none 0 0, .slice none 0 0, .slice none 0 0] 65) rfl (by kernel_rfl) fun w1 x1 s1 n1 => ?_
 refine wp_seq (wp_region_list ?_)
 refine wpl_val (.agg #[.string ⟨#[97]⟩, .bool false, .slice none 0 0, .slice none 0 0, .bool false, .slice none 0 0, .slice none 0 0, .bool false, .slice none 0 0, .slice none 0 0, .int .i64 0]) w1 rfl (by kernel_rfl) ?_
 refine wpl_val (.agg #[.string ⟨#[98]⟩, .bool false, .slice none 0 0, .slice none 0 0, .bool false, .slice none 0 0, .slice none 0 0, .bool false, .slice none 0 0, .slice none 0 0, .int .i64 0]) w1 rfl (by kernel_rfl) ?_
 refine wpl_val (.agg #[.string ⟨#[99]⟩, .bool false, .slice none 0 0, .slice none 0 0, .bool false, .slice none 0 0, .slice none 0 0, .bool false, .slice none 0 0, .slice none 0 0, .int .i64 0]) w1 rfl (by kernel_rfl) ?_
 refine wpl_alloc (.slice (some ⟨w1.heap.size, 0, none⟩) 3 3) (.cells exEv 77) rfl (by kernel_rfl) fun w2 x2 s2 n2 => ?_
 refine wpl_alloc (.slice (some ⟨w2.heap.size, 0, none⟩) 2 2) (.cells exI0 9) rfl (by kernel_rfl) fun w3 x3 s3 n3 => ?_
 refine wpl_val (.agg #[.string ⟨#[103]⟩, .int .i64 0, .int .i64 0, .slice (some ⟨w2.heap.size, 0, none⟩) 2 2, .bool false, .slice none 0 0, .slice none 0 0]) w3 rfl (by kernel_rfl) ?_
 refine wpl_alloc (.slice (some ⟨w3.heap.size, 0, none⟩) 1 1) (.cells #[.string ⟨#[103]⟩, .int .i64 0, .int .i64 0, .slice (some ⟨w2.heap.size, 0, none⟩) 2 2, .bool false, .slice none 0 0, .slice none 0 0] 73) rfl (by kernel_rfl) fun w4 x4 s4 n4 => ?_
 refine wpl_alloc (.slice (some ⟨w4.heap.size, 0, none⟩) 2 2) (.cells exI1 9) rfl (by kernel_rfl) fun w5 x5 s5 n5 => ?_
 refine wpl_val (.agg #[.string ⟨#[104]⟩, .int .i64 1, .int .i64 0, .slice (some ⟨w4.heap.size, 0, none⟩) 2 2, .bool false, .slice none 0 0, .slice none 0 0]) w5 rfl (by kernel_rfl) ?_
 refine wpl_alloc (.slice (some ⟨w5.heap.size, 0, none⟩) 1 1) (.cells #[.string ⟨#[104]⟩, .int .i64 1, .int .i64 0, .slice (some ⟨w4.heap.size, 0, none⟩) 2 2, .bool false, .slice none 0 0, .slice none 0 0] 73) rfl (by kernel_rfl) fun w6 x6 s6 n6 => ?_
 refine wpl_val (.agg #[.string ⟨#[112]⟩, .string ⟨#[104]⟩, .slice (some ⟨w5.heap.size, 0, none⟩) 1 1]) w6 rfl (by kernel_rfl) ?_
 refine wpl_alloc (.slice (some ⟨w6.heap.size, 0, none⟩) 1 1) (.cells #[.string ⟨#[112]⟩, .string ⟨#[104]⟩, .slice (some ⟨w5.heap.size, 0, none⟩) 1 1] 81) rfl (by kernel_rfl) fun w7 x7 s7 n7 => ?_
 refine wpl_val (.agg #[.string ⟨#[109]⟩, .string ⟨#[103]⟩, .slice (some ⟨w1.heap.size, 0, none⟩) 3 3, .slice none 0 0, .slice (some ⟨w3.heap.size, 0, none⟩) 1 1, .slice (some ⟨w6.heap.size, 0, none⟩) 1 1, .slice none 0 0, .slice none 0 0]) w7 rfl (by kernel_rfl) ?_
 have e17 : Ext w1 w7 := x2.trans (x3.trans (x4.trans (x5.trans (x6.trans x7))))
 have hbx : w7.heap[w.heap.size]? = some (.cells #[.string ⟨#[]⟩, .string ⟨#[]⟩, .slice none 0 0, .slice none 0 0, .slice none 0 0, .slice none 0 0, .slice none 0 0, .slice none 0 0] 65) := by
  rw [e17.old _ (by omega)]; exact n1
 have hst := run_storeVar (v := .agg (exM w1.heap.size w3.heap.size w6.heap.size)) (off := 0) hTM (by rw [hiM.1]; kernel_rfl) hbx (by show 0 + 8 ≤ 8; omega) (by
  intro u hu
  simp only [Value.cells, exM] at hu
  simp only [List.mem_cons, List.not_mem_nil, or_false] at hu
  rcases hu with rfl | rfl | rfl | rfl | rfl | rfl | rfl | rfl <;> rfl)
 have hrow : w7.setRow w.heap.size ((#[.string ⟨#[]⟩, .string ⟨#[]⟩, .slice none 0 0, .slice none 0 0, .slice none 0 0, .slice none 0 0, .slice none 0 0, .slice none 0 0] : Array Value).toList.take 0 ++ (Value.agg (exM w1.heap.size w3.heap.size w6.heap.size)).cells.toList ++ (#[.string ⟨#[]⟩, .string ⟨#[]⟩, .slice none 0 0, .slice none 0 0, .slice none 0 0, .slice none 0 0, .slice none 0 0, .slice none 0 0] : Array Value).toList.drop (0 + (Value.agg (exM w1.heap.size w3.heap.size w6.heap.size)).cells.size)).toArray = w7.setRow w.heap.size (exM w1.heap.size w3.heap.size w6.heap.size) := rfl
 rw [hrow] at hst
 have hw : ExW w (w7.setRow w.heap.size (exM w1.heap.size w3.heap.size w6.heap.size)) := by
  have o2 : ∀ b, b ≠ w.heap.size → (w7.setRow w.heap.size (exM w1.heap.size w3.heap.size w6.heap.size)).heap[b]? = w7.heap[b]? := fun b hb => setRow_other _ _ _ _ hb
  refine ⟨setRow_ext (x1.trans e17) (Nat.le_refl _), by rw [setRow_size]; omega, ?_, ?_, ?_, ?_, ?_, ?_⟩
  ·rw [o2 _ (by omega), ← s1, (x3.trans (x4.trans (x5.trans (x6.trans x7)))).old _ (by omega)]; exact n2
  ·rw [o2 _ (by omega), show w.heap.size + 2 = w2.heap.size by omega, (x4.trans (x5.trans (x6.trans x7))).old _ (by omega)]; exact n3
  ·rw [o2 _ (by omega), show w.heap.size + 3 = w3.heap.size by omega, show w.heap.size + 2 = w2.heap.size by omega, (x5.trans (x6.trans x7)).old _ (by omega)]; exact n4
  ·rw [o2 _ (by omega), show w.heap.size + 4 = w4.heap.size by omega, (x6.trans x7).old _ (by omega)]; exact n5
  ·rw [o2 _ (by omega), show w.heap.size + 5 = w5.heap.size by omega, show w.heap.size + 4 = w4.heap.size by omega, x7.old _ (by omega)]; exact n6
  ·rw [o2 _ (by omega), show w.heap.size + 6 = w6.heap.size by omega, show w.heap.size + 5 = w5.heap.size by omega]; exact n7
 have hld := load_agg (w := w7.setRow w.heap.size (exM w1.heap.size w3.heap.size w6.heap.size)) (b := w.heap.size) (off := 0) (cs := (exM w1.heap.size w3.heap.size w6.heap.size).toList) hTM hiM.2 (by rw [hiM.1]; rfl) (by
  intro j v hj
  rw [Nat.zero_add, cell_of_heap (setRow_heap w7 _ _ _ _ _ hbx), ← Array.getElem?_toList]; exact hj)
 rw [Array.toArray_toList] at hld
 have hR := hR _ hw
 rw [show w.heap.size + 1 = w1.heap.size by omega, show w.heap.size + 3 = w3.heap.size by omega, show w.heap.size + 6 = w6.heap.size by omega] at hR
 refine wpl_skip _ rfl (run_store' (v := .agg (exM w1.heap.size w3.heap.size w6.heap.size)) rfl (by kernel_rfl) (by kernel_rfl) hst) ?_
 refine wp_ret ⟨by kernel_rfl, _, results_cell rfl (by kernel_rfl) hld, hR⟩
end S

open Go Go.AL Go.Proofs
namespace Go.AL
section
variable {P : Program} {L : Lay} {ops : Array Oper} {Q : Exit → Act → World → Prop} {a : Act} {w : World} {o : Oper} {l : List Oper}

theorem wpl_call (f : Nat) (args : Array Value) (hg : o.guard = none) (hrun : (execOp a.eval o).run P w = .ok (.enter f args) w)
  (h : Calls P f args w fun e w' => ∃ v, e = .returned v ∧ wpList P ops Q l (a.put o.dst v) w') : wpList P ops Q (o :: l) a w := by
 simp only [wpList]
 rw [if_pos (wanted_none hg)]
 refine .inl ?_
 unfold Oper.wp
 rw [hrun, Oper.upon_enter]
 refine Calls.mono h ?_
 rintro _ w' ⟨v, rfl, h⟩
 exact h

theorem put_size {d : Option Nat} {v : Value} : (a.put d v).tmps.size = a.tmps.size := by
 cases d <;> simp [Act.put]

theorem put_defers {d : Option Nat} {v : Value} : (a.put d v).defers = a.defers := by
 cases d <;> rfl

theorem eval_put {d : Nat} {v : Value} (h : d < a.tmps.size) : (a.put (some d) v).eval (.tmp d) = v := by
 simp [Act.put, Act.eval, h]

theorem eval_put_ne {d t : Nat} {v : Value} (h : d ≠ t) : (a.put (some d) v).eval (.tmp t) = a.eval (.tmp t) := by
 simp [Act.put, Act.eval, Array.getElem?_setIfInBounds_ne h]

structure PutA (a a' : Act) (d : Nat) (v : Value) : Prop where
 size : a'.tmps.size = a.tmps.size
 defers : a'.defers = a.defers
 new : a'.eval (.tmp d) = v
 old : ∀ t : Nat, t ≠ d → a'.eval (.tmp t) = a.eval (.tmp t)

theorem wpl_valA (d : Nat) (v : Value) (w' : World) (hg : o.guard = none) (hd : o.dst = some d) (hlt : d < a.tmps.size) (hrun : (execOp a.eval o).run P w = .ok (.value v) w') (h : ∀ a', PutA a a' d v → wpList P ops Q l a' w') : wpList P ops Q (o :: l) a w := by
 refine wpl_val v w' hg hrun (h _ ?_)
 rw [hd]
 exact ⟨put_size, put_defers, eval_put hlt, fun t ht => eval_put_ne (Ne.symm ht)⟩

theorem exec_field {t f n : Nat} {x : Operand} {i : TI} {zs : List AV} {z : AV} {b off off' : Nat} (hoff : off' = off + flatL (zs.take f)) (ho : o.op = .fieldAddr t x f) (hT : TIOk P t i) (hd : ∃ fs, i.desc = .struct fs) (hz : i.zero = .ag zs) (hf : zs[f]? = some z) (hn : flat z = n + 1)
  (hp : a.eval x = .pointer (some ⟨b, off, none⟩)) : (execOp a.eval o).run P w = .ok (.value (.pointer (some ⟨b, off', none⟩))) w := by
 subst hoff
 obtain ⟨gs, fd, h1, h2, h3, h4⟩ := hT.field hd hz hf
 unfold execOp; rw [ho]
 simp only [Instr.fieldAt, hp, Instr.sureAddr, Sem.run_bind, run_underlying h1, Result.andThen_ok, h2, Sem.run_pure, fieldPlace, run_sizeOf_cells (h4.trans hn)]
 simp [addr_add, h3]

theorem exec_index {t el : Nat} {x y : Operand} {ei : TI} {b off off' : Nat} {n : Int} (hoff : off' = off + n.toNat * flat ei.zero) (ho : o.op = .indexAddr t x y) (ht : P.underlying t = some (.slice el)) (hE : TIOk P el ei) {len cap : Nat} {kd : IntKind}
  (hx : a.eval x = .slice (some ⟨b, off, none⟩) len cap) (hy : a.eval y = .int kd n) (h0 : 0 ≤ n) (h1 : n < (len : Int)) :
  (execOp a.eval o).run P w = .ok (.value (.pointer (some ⟨b, off', none⟩))) w := by
 subst hoff
 have := run_indexAddr_slice (P := P) (c := cx0 w) ho ht hE hx hy h0 h1
 rw [addr_add] at this
 exact this

theorem exec_load {t : Nat} {x : Operand} {i : TI} {b off : Nat} {v : Value} (ho : o.op = .load t x) (hT : TIOk P t i) (hz : isAg i.zero = false) (hx : a.eval x = .pointer (some ⟨b, off, none⟩)) (hc : w.cell? ⟨b, off, none⟩ = some v) :
  (execOp a.eval o).run P w = .ok (.value v) w := run_load_op (c := cx0 w) ho hx (load_one hT hz hc)

theorem fin_of (hL : LayOk P L) {fn : Func} {c c1 : Cx} {H H1 H' : Heap} {R : AV} {e : Env} {a : Act} (hr : HR c H) (htr : Tr c H c1 H1) (ha1 : AOk fn.ntmps c1 e a) (h : FinSpec L fn.results.toList H R H' e H1) :
  a.defers = [] ∧ ∃ v, (results fn a.tmps).run P c1.w = .ok v c1.w ∧ (∃ v' d, Ending.returned v = .returned v' ∧ d.w = c1.w ∧ Tr c H d H' ∧ EV d R v') := by
 obtain ⟨e1, H2, hcv, hres⟩ := h
 obtain ⟨d, hw, htr', ha'⟩ := Cv_sound hcv htr.hr ha1
 obtain ⟨A, v, hrun, hA, hle, hbnd, hnx, hwk⟩ := results_sound hL htr'.hr ha' hres
 rw [hw] at hrun
 have hwk := hwk.to0 htr'.hr
 refine ⟨ha1.defers, v, hrun, v, d.cut H', rfl, hw, ?_, ?_⟩
 ·exact (htr.trans htr').cut hwk (by rw [hr.nx]; exact hnx)
 ·exact EV_cut (fun k n hn => by rw [htr'.hr.tp]; exact hwk.tp k n hn) hbnd (le_EV hle hA)

theorem seq_step (hL : LayOk P L) (hm : P.follows .mixedOrders = true) {n : Nat} {x y : Code} {Q : Exit → Act → World → Prop} {c : Cx} {H : Heap} {e : Env} {a : Act} (hc : codeB n x = true) (hr : HR c H) (ha : AOk n c e a)
  (h : awp (FnH P) Ok L x (fun x e1 H1 => x = .normal ∧ ∀ c' a', Tr c H c' H1 → AOk n c' e1 a' → y.wp P Q a' c'.w) e H) : (Code.seq x y).wp P Q a c.w := by
 refine wp_seq (wp_mono (awp_sound hL hm (fun _ _ _ _ _ h => h) x _ e H c a hc hr ha h) ?_)
 rintro ex a' w' ⟨x', e1, H1, c', rfl, ⟨rfl, k⟩, rfl, htr, ha', _⟩
 exact k c' a' htr ha'

theorem sl_rd {Im : Nat → Nat → Prop} {sz b ty : Nat} {fr : Nat × Nat} {l : List AV} {arr : Array Value} (hrow : w.heap[b]? = some (.cells arr ty fr)) (hf : RdF w Im sz l arr.toList) (hIm : ∀ o, Im b o) (hl : l.length ≤ maxL) :
  Rd w Im (.sl sz l .no) [.slice (some ⟨b, 0, none⟩) l.length l.length] := by
 simp only [Rd]
 refine ⟨hl, .inr ⟨⟨b, 0, none⟩, l.length, rfl, Nat.le_refl _, hl, fun _ => rfl, RdE_of_RdF hf fun j v hj => ⟨?_, hIm _⟩⟩⟩
 rw [Nat.zero_add, cell_of_heap hrow, ← Array.getElem?_toList]
 exact hj
end
end Go.AL

namespace S
set_option maxRecDepth 100000

abbrev zq : Rat := ⟨false, [], []⟩
def exA (c : UInt8) : Ev := ⟨[c], zq, zq, zq, 0⟩
def mdE (s : Str) : Md := ⟨[109], [103], [exA 97, exA 98, exA 99], [], [⟨[103], 0, 0, [[97], [64, 112]], zq⟩], [⟨[112], [104], [⟨[104], 1, 0, [[98], s], zq⟩]⟩], [], []⟩

theorem c_Example22 : FnH Try.prog 51 [] [] (mdE [99]).av [] := by
 refine FnH.intro lay mixed Try.func51 (by kernel_rfl) rfl (by kernel_rfl) rfl fun hok => ?_
 ((try dsimp only[argC,succC]);(try dsimp only[awp]);(conv=>whnf))
 (refine fM ?_;(conv=>whnf);refine ⟨?_,rfl⟩;(conv=>whnf))
 (repeat' first|exact rfl|exact trivial|exact wR|exact lR _|apply aI)

theorem ex_check : checkM (mdE [99]) = 0 := by decide +kernel
theorem ex_input : inputR (mdE [99]) (-1) [64, 112] = ((2, 0, 0), 0) := by decide +kernel
theorem ex_used : usedR (mdE [99]) = 7 := by decide +kernel
theorem ex_cycle : checkM (mdE [64, 112]) = 14 := by decide +kernel
theorem ex_light (s : Str) : lightM (mdE s) = true := by
 simp [lightM, mdE, fewR, fewG, evS, exA, shortR]
end S

open Go Go.AL Go.Proofs
namespace S
set_option maxRecDepth 100000
section
variable {w : World} {Im : Nat → Nat → Prop}

theorem rd_str (s : Str) (h : s.length ≤ maxL) : Rd w Im (.str s) [.string ⟨s.toArray⟩] := by simp only [Rd]; exact ⟨trivial, h⟩
theorem rd_int {n : Int} (h : InR .i64 n) : Rd w Im (.int .i64 n) [.int .i64 n] := by simp only [Rd]; exact ⟨trivial, h⟩
theorem rd_nil (sz : Nat) : Rd w Im (.sl sz [] .no) [.slice none 0 0] := by simp only [Rd]; refine ⟨by simp [maxL], .inl ⟨?_, ?_⟩⟩ <;> first | rfl | trivial
theorem rdL_nil : RdL w Im [] [] := by simp only [RdL]
theorem rdL_cons {x : AV} {l : List AV} {c d : List Value} (h : Rd w Im x c) (g : RdL w Im l d) : RdL w Im (x :: l) (c ++ d) := by simp only [RdL]; exact ⟨c, d, rfl, h, g⟩
theorem rd_ag {l : List AV} {c : List Value} (h : RdL w Im l c) : Rd w Im (.ag l) c := by simp only [Rd]; exact h
theorem rdF_nil (sz : Nat) : RdF w Im sz [] [] := rfl
theorem rdF_cons {sz : Nat} {x : AV} {l : List AV} {c d : List Value} (h : Rd w Im x c) (hl : c.length = sz) (g : RdF w Im sz l d) : RdF w Im sz (x :: l) (c ++ d) := ⟨c, d, rfl, hl, h, g⟩

theorem rd_zq : Rd w Im zq.av [.bool false, .slice none 0 0, .slice none 0 0] :=
 rd_ag (rdL_cons (c := [_]) (by simp only [Rd]) (rdL_cons (c := [_]) (rd_nil 1) (rdL_cons (c := [_]) (rd_nil 1) rdL_nil)))

theorem rd_exA (c : UInt8) : Rd w Im (exA c).av [.string ⟨#[c]⟩, .bool false, .slice none 0 0, .slice none 0 0, .bool false, .slice none 0 0, .slice none 0 0, .bool false, .slice none 0 0, .slice none 0 0, .int .i64 0] :=
 rd_ag (rdL_cons (c := [_]) (rd_str [c] (by simp [maxL])) (rdL_cons (c := [_, _, _]) rd_zq (rdL_cons (c := [_, _, _]) rd_zq (rdL_cons (c := [_, _, _]) rd_zq (rdL_cons (c := [_]) (rd_int (n := 0) (inr64 (by decide) (by decide))) rdL_nil)))))

theorem rd_gate {name : Str} {kind : Int} {ins : List Str} {v : Value} (hn : name.length ≤ maxL) (hk : InR .i64 kind) (h : Rd w Im (sL ins) [v]) : Rd w Im (Mg.av ⟨name, kind, 0, ins, zq⟩) [.string ⟨name.toArray⟩, .int .i64 kind, .int .i64 0, v, .bool false, .slice none 0 0, .slice none 0 0] :=
 rd_ag (rdL_cons (c := [_]) (rd_str name hn) (rdL_cons (c := [_]) (rd_int hk) (rdL_cons (c := [_]) (rd_int (n := 0) (inr64 (by decide) (by decide))) (rdL_cons (c := [_]) h (rdL_cons (c := [_, _, _]) rd_zq rdL_nil)))))

theorem rd_ex {n te ts tg tp : Nat} (E1 : w.heap[n + 1]? = some (.cells exEv te)) (E2 : w.heap[n + 2]? = some (.cells exI0 ts)) (E3 : w.heap[n + 3]? = some (.cells (exG0 (n + 2)) tg))
  (E4 : w.heap[n + 4]? = some (.cells #[.string ⟨#[98]⟩, .string ⟨#[64, 112]⟩] ts)) (E5 : w.heap[n + 5]? = some (.cells (exG1 (n + 4)) tg)) (E6 : w.heap[n + 6]? = some (.cells (exP (n + 5)) tp))
  (hIm : ∀ b o, n < b → b < n + 7 → Im b o) : Rd w Im (mdE [64, 112]).av (exM (n + 1) (n + 3) (n + 6)).toList := by
 have m2 : ∀ (l : List AV), l.length ≤ 3 → l.length ≤ maxL := fun l h => by simp [maxL]; omega
 have hi0 : Rd w Im (sL [[97], [64, 112]]) [.slice (some ⟨n + 2, 0, none⟩) 2 2] := sl_rd E2 (rdF_cons (c := [_]) (rd_str [97] (by simp [maxL])) rfl (rdF_cons (c := [_]) (rd_str [64, 112] (by simp [maxL])) rfl (rdF_nil 1))) (fun o => hIm _ o (by omega) (by omega)) (m2 _ (by simp))
 have hi1 : Rd w Im (sL [[98], [64, 112]]) [.slice (some ⟨n + 4, 0, none⟩) 2 2] := sl_rd E4 (rdF_cons (c := [_]) (rd_str [98] (by simp [maxL])) rfl (rdF_cons (c := [_]) (rd_str [64, 112] (by simp [maxL])) rfl (rdF_nil 1))) (fun o => hIm _ o (by omega) (by omega)) (m2 _ (by simp))
 have hg0 : Rd w Im (gL [⟨[103], 0, 0, [[97], [64, 112]], zq⟩]) [.slice (some ⟨n + 3, 0, none⟩) 1 1] := sl_rd E3 (rdF_cons (c := [_, _, _, _, _, _, _]) (rd_gate (kind := 0) (by simp [maxL]) (inr64 (by decide) (by decide)) hi0) rfl (rdF_nil 7)) (fun o => hIm _ o (by omega) (by omega)) (m2 _ (by simp))
 have hg1 : Rd w Im (gL [⟨[104], 1, 0, [[98], [64, 112]], zq⟩]) [.slice (some ⟨n + 5, 0, none⟩) 1 1] := sl_rd E5 (rdF_cons (c := [_, _, _, _, _, _, _]) (rd_gate (kind := 1) (by simp [maxL]) (inr64 (by decide) (by decide)) hi1) rfl (rdF_nil 7)) (fun o => hIm _ o (by omega) (by omega)) (m2 _ (by simp))
 have hp : Rd w Im (.sl 3 [Pg.av ⟨[112], [104], [⟨[104], 1, 0, [[98], [64, 112]], zq⟩]⟩] .no) [.slice (some ⟨n + 6, 0, none⟩) 1 1] :=
  sl_rd E6 (rdF_cons (c := [_, _, _]) (rd_ag (rdL_cons (c := [_]) (rd_str [112] (by simp [maxL])) (rdL_cons (c := [_]) (rd_str [104] (by simp [maxL])) (rdL_cons (c := [_]) hg1 rdL_nil)))) rfl (rdF_nil 3)) (fun o => hIm _ o (by omega) (by omega)) (m2 _ (by simp))
 have he : Rd w Im (.sl 11 [(exA 97).av, (exA 98).av, (exA 99).av] .no) [.slice (some ⟨n + 1, 0, none⟩) 3 3] :=
  sl_rd E1 (rdF_cons (c := [_, _, _, _, _, _, _, _, _, _, _]) (rd_exA 97) rfl (rdF_cons (c := [_, _, _, _, _, _, _, _, _, _, _]) (rd_exA 98) rfl (rdF_cons (c := [_, _, _, _, _, _, _, _, _, _, _]) (rd_exA 99) rfl (rdF_nil 11)))) (fun o => hIm _ o (by omega) (by omega)) (m2 _ (by simp))
 exact rd_ag (rdL_cons (c := [_]) (rd_str [109] (by simp [maxL])) (rdL_cons (c := [_]) (rd_str [103] (by simp [maxL])) (rdL_cons (c := [_]) he (rdL_cons (c := [_]) (rd_nil 2) (rdL_cons (c := [_]) hg0 (rdL_cons (c := [_]) hp (rdL_cons (c := [_]) (rd_nil 4) (rdL_cons (c := [_]) (rd_nil 3) rdL_nil))))))))
end
end S

open Go Go.AL Go.Proofs
namespace S
set_option maxRecDepth 100000

theorem c_awake22 : FnH Try.prog 22 [] [] (.bool true) [] := by
 obtain ⟨hB, hC⟩ := lightM_B (ex_light [99])
 obtain ⟨hB2, hC2⟩ := lightM_B (ex_light [64, 112])
 have ci := c_Input (mdE [99]) (-1) [64, 112] hC hB _ rfl
 rw [ex_input, errAV_zero] at ci
 have cu := c_Used (mdE [99]) hC hB _ rfl
 rw [if_pos ex_check, ex_used] at cu
 have cc := c_mCheck (mdE [64, 112]) hC2 hB2 _ rfl
 rw [ex_cycle, errAV_ne (by decide)] at cc
 have cis := (c_Is 14 14).weak (R' := .tt) (by show decide _ = true; decide)
 rw [errAV_ne (by decide)] at cis
 refine ⟨⟨Try.f22, Try.func22, by kernel_rfl, by kernel_rfl⟩, fun c vs hr hv => ?_⟩
 obtain rfl : vs = [] := hv
 refine calls_of_wp Try.func22 rfl ?_
 have ha0 : AOk 57 c [] { tmps := [].toArray ++ Array.replicate (57 - 0) undef, defers := [] } := ⟨fun t A h => by simp [eget] at h, rfl, by simp⟩
 refine seq_step (n := 57) lay mixed (by kernel_rfl) hr ha0 ?_
 (conv=>whnf)
 refine ⟨rfl, fun c1 a1 tr1 ha1 => ?_⟩
 refine seq_step (n := 57) lay mixed (by kernel_rfl) tr1.hr ha1 ?_
 (conv=>whnf)
 refine .pure _ _ ?_ ⟨rfl, rfl⟩ c_Example22 fun _ => ?_
 ·exact leL_refl _
 (conv=>whnf)
 refine .pure _ _ ?_ ⟨rfl, rfl⟩ ci fun _ => ?_
 ·exact leL_refl _
 (conv=>whnf)
 refine ⟨rfl, fun c2 a2 tr2 ha2 => ?_⟩
 refine seq_step (n := 57) lay mixed (by kernel_rfl) tr2.hr ha2 ?_
 (conv=>whnf)
 refine .pure _ _ ?_ ⟨rfl, rfl⟩ c_Example22 fun _ => ?_
 ·exact leL_refl _
 (conv=>whnf)
 refine .pure _ _ ?_ ⟨rfl, rfl⟩ cu fun _ => ?_
 ·exact leL_refl _
 (conv=>whnf)
 refine ⟨rfl, fun c3 a3 tr3 ha3 => ?_⟩
 have hsz := ha3.size
 have v1 := (EV_int (ha3.env 1 _ rfl)).1
 have v2 := (EV_int (ha3.env 2 _ rfl)).1
 have v3 := (EV_int (ha3.env 3 _ rfl)).1
 have v5 := (EV_int (ha3.env 5 _ rfl)).1
 have v4 := EV_nilI (ha3.env 4 _ rfl)
 have v6 := EV_nilI (ha3.env 6 _ rfl)
 have hdf := ha3.defers
 have tr := tr1.trans (tr2.trans tr3)
 clear ha0 ha1 ha2 ha3 tr1 tr2 tr3
 obtain ⟨iM, tM, dM, zM⟩ : ∃ i, TIOk Try.prog 65 i ∧ (∃ fs, i.desc = .struct fs) ∧ i.zero = .ag [.str [], .str [], .nils, .nils, .nils, .nils, .nils, .nils] := Lay.getC_ok lay (k := fun i => (∃ fs, i.desc = .struct fs) ∧ i.zero = .ag [.str [], .str [], .nils, .nils, .nils, .nils, .nils, .nils]) (by (conv => whnf); exact ⟨⟨_, rfl⟩, rfl⟩)
 obtain ⟨iP, tP, dP, zP⟩ : ∃ i, TIOk Try.prog 81 i ∧ (∃ fs, i.desc = .struct fs) ∧ i.zero = .ag [.str [], .str [], .nils] := Lay.getC_ok lay (k := fun i => (∃ fs, i.desc = .struct fs) ∧ i.zero = .ag [.str [], .str [], .nils]) (by (conv => whnf); exact ⟨⟨_, rfl⟩, rfl⟩)
 obtain ⟨iG, tG, dG, zG⟩ : ∃ i, TIOk Try.prog 73 i ∧ (∃ fs, i.desc = .struct fs) ∧ i.zero = .ag [.str [], .int .i64 0, .int .i64 0, .nils, .ag [.ff, .nils, .nils]] := Lay.getC_ok lay (k := fun i => (∃ fs, i.desc = .struct fs) ∧ i.zero = .ag [.str [], .int .i64 0, .int .i64 0, .nils, .ag [.ff, .nils, .nils]]) (by (conv => whnf); exact ⟨⟨_, rfl⟩, rfl⟩)
 obtain ⟨iS, tS, zS⟩ : ∃ i, TIOk Try.prog 9 i ∧ i.zero = .str [] := Lay.getC_ok lay (k := fun i => i.zero = .str []) (by (conv => whnf))
 obtain ⟨iLP, tLP, zLP⟩ : ∃ i, TIOk Try.prog 61 i ∧ i.zero = .nils := Lay.getC_ok lay (k := fun i => i.zero = .nils) (by (conv => whnf))
 obtain ⟨iLG, tLG, zLG⟩ : ∃ i, TIOk Try.prog 60 i ∧ i.zero = .nils := Lay.getC_ok lay (k := fun i => i.zero = .nils) (by (conv => whnf))
 obtain ⟨iLS, tLS, zLS⟩ : ∃ i, TIOk Try.prog 71 i ∧ i.zero = .nils := Lay.getC_ok lay (k := fun i => i.zero = .nils) (by (conv => whnf))
 refine wp_seq (wp_region_list ?_)
 refine wpl_call 51 #[] rfl (by kernel_rfl) (raw_Ex c3.w _ fun wE hE => ⟨_, rfl, ?_⟩)
 refine wpl_alloc (.pointer (some ⟨wE.heap.size, 0, none⟩)) (.cells #[.string ⟨#[]⟩, .string ⟨#[]⟩, .slice none 0 0, .slice none 0 0, .slice none 0 0, .slice none 0 0, .slice none 0 0, .slice none 0 0] 65) rfl (by kernel_rfl) fun w9 x9 s9 n9 => ?_
 generalize hn : c3.w.heap.size = n at *
 have hst := run_storeVar (v := .agg (exM (n + 1) (n + 3) (n + 6))) (off := 0) tM (by rw [zM]; kernel_rfl) n9 (by show 0 + 8 ≤ 8; omega) (by
  intro u hu
  simp only [Value.cells, exM] at hu
  simp only [List.mem_cons, List.not_mem_nil, or_false] at hu
  rcases hu with rfl | rfl | rfl | rfl | rfl | rfl | rfl | rfl <;> rfl)
 refine wpl_skip _ rfl (run_store' rfl (eval_put (by rw [put_size, hsz]; omega)) (by rw [eval_put_ne (by decide), eval_put (by rw [hsz]; omega)]) hst) ?_
 have hrow : (w9.setRow wE.heap.size ((#[.string ⟨#[]⟩, .string ⟨#[]⟩, .slice none 0 0, .slice none 0 0, .slice none 0 0, .slice none 0 0, .slice none 0 0, .slice none 0 0] : Array Value).toList.take 0 ++ (Value.agg (exM (n + 1) (n + 3) (n + 6))).cells.toList ++ (#[.string ⟨#[]⟩, .string ⟨#[]⟩, .slice none 0 0, .slice none 0 0, .slice none 0 0, .slice none 0 0, .slice none 0 0, .slice none 0 0] : Array Value).toList.drop (0 + (Value.agg (exM (n + 1) (n + 3) (n + 6))).cells.size)).toArray) = w9.setRow wE.heap.size (exM (n + 1) (n + 3) (n + 6)) := rfl
 rw [hrow]
 clear hrow hst
 have hb := setRow_heap w9 wE.heap.size _ (exM (n + 1) (n + 3) (n + 6)) _ _ n9
 have ho : ∀ b, b ≠ wE.heap.size → (w9.setRow wE.heap.size (exM (n + 1) (n + 3) (n + 6))).heap[b]? = w9.heap[b]? := fun b hb => setRow_other _ _ _ _ hb
 have hx := setRow_ext (cs := exM (n + 1) (n + 3) (n + 6)) x9 (Nat.le_refl wE.heap.size)
 have hsz10 : (w9.setRow wE.heap.size (exM (n + 1) (n + 3) (n + 6))).heap.size = w9.heap.size := setRow_size _ _ _
 generalize w9.setRow wE.heap.size (exM (n + 1) (n + 3) (n + 6)) = w10 at *
 obtain ⟨xE, sE, E1, E2, E3, E4, E5, E6⟩ := hE
 rw [hn] at sE E1 E2 E3 E4 E5 E6
 have F : ∀ b ob, b < n + 7 → wE.heap[b]? = some ob → w10.heap[b]? = some ob := fun b ob h1 h2 => by rw [hx.old b (by omega)]; exact h2
 have E1 := F _ _ (by omega) E1
 have E2 := F _ _ (by omega) E2
 have E3 := F _ _ (by omega) E3
 have E4 := F _ _ (by omega) E4
 have E5 := F _ _ (by omega) E5
 have E6 := F _ _ (by omega) E6
 have X10 : Ext c3.w w10 := xE.trans hx
 rw [sE] at hb
 generalize hA : ((a3.put (some 20) (.agg (exM (n + 1) (n + 3) (n + 6)))).put (some 7) (.pointer (some ⟨wE.heap.size, 0, none⟩))).put none undef = a10
 have z10 : a10.tmps.size = 57 := by rw [← hA, put_size, put_size, put_size, hsz]
 have f10 : a10.defers = [] := by rw [← hA, put_defers, put_defers, put_defers, hdf]
 have e7 : a10.eval (.tmp 7) = .pointer (some ⟨n + 7, 0, none⟩) := by rw [← hA, ← sE]; exact eval_put (by rw [put_size, hsz]; omega)
 have ek : ∀ t : Nat, t < 7 → a10.eval (.tmp t) = a3.tmps.getD t undef := fun t ht => by
  rw [← hA]
  show ((a3.put (some 20) _).put (some 7) _).eval (.tmp t) = _
  rw [eval_put_ne (show 7 ≠ t by omega), eval_put_ne (show 20 ≠ t by omega)]; rfl
 have ek1 := (ek 1 (by decide)).trans v1
 have ek2 := (ek 2 (by decide)).trans v2
 have ek3 := (ek 3 (by decide)).trans v3
 have ek4 := (ek 4 (by decide)).trans v4
 have ek5 := (ek 5 (by decide)).trans v5
 have ek6 := (ek 6 (by decide)).trans v6
 have hsz10 : w10.heap.size = n + 8 := by omega
 clear hA ek v1 v2 v3 v4 v5 v6 F xE hx x9 n9 ho
 refine (wp_seq (wp_region_list ?_) : Code.wp _ _ _ _ _)
 refine wpl_valA 21 _ _ rfl rfl (by rw [z10]; omega) (exec_field (off' := 5) rfl rfl tM dM zM rfl rfl e7) fun b1 p1 => ?_
 have q1 := p1.size.trans z10
 refine wpl_valA 22 _ _ rfl rfl (by rw [q1]; omega) (exec_load rfl tLP (by rw [zLP]; rfl) p1.new (v := .slice (some ⟨n + 6, 0, none⟩) 1 1) (by rw [cell_of_heap hb]; rfl)) fun b2 p2 => ?_
 have q2 := p2.size.trans q1
 refine wpl_valA 23 _ _ rfl rfl (by rw [q2]; omega) (exec_index (off' := 0) (by rw [zP]; rfl) rfl (by kernel_rfl) tP p2.new (kd := .i64) (n := 0) rfl (by omega) (by decide)) fun b3 p3 => ?_
 have q3 := p3.size.trans q2
 refine wpl_valA 24 _ _ rfl rfl (by rw [q3]; omega) (exec_field (off' := 2) rfl rfl tP dP zP rfl rfl p3.new) fun b4 p4 => ?_
 have q4 := p4.size.trans q3
 refine wpl_valA 25 _ _ rfl rfl (by rw [q4]; omega) (exec_load rfl tLG (by rw [zLG]; rfl) p4.new (v := .slice (some ⟨n + 5, 0, none⟩) 1 1) (by rw [cell_of_heap E6]; rfl)) fun b5 p5 => ?_
 have q5 := p5.size.trans q4
 refine wpl_valA 26 _ _ rfl rfl (by rw [q5]; omega) (exec_index (off' := 0) (by rw [zG]; rfl) rfl (by kernel_rfl) tG p5.new (kd := .i64) (n := 0) rfl (by omega) (by decide)) fun b6 p6 => ?_
 have q6 := p6.size.trans q5
 refine wpl_valA 27 _ _ rfl rfl (by rw [q6]; omega) (exec_field (off' := 3) rfl rfl tG dG zG rfl rfl p6.new) fun b7 p7 => ?_
 have q7 := p7.size.trans q6
 refine wpl_valA 28 _ _ rfl rfl (by rw [q7]; omega) (exec_load rfl tLS (by rw [zLS]; rfl) p7.new (v := .slice (some ⟨n + 4, 0, none⟩) 2 2) (by rw [cell_of_heap E5]; rfl)) fun b8 p8 => ?_
 have q8 := p8.size.trans q7
 refine wpl_valA 29 _ _ rfl rfl (by rw [q8]; omega) (exec_index (off' := 1) (by rw [zS]; rfl) rfl (by kernel_rfl) tS p8.new (kd := .i64) (n := 1) rfl (by omega) (by decide)) fun a11 p9 => ?_
 have z11 := p9.size.trans q8
 have hst := run_storeVar (P := Try.prog) (w := w10) (v := .string ⟨#[64, 112]⟩) (off := 1) tS (by rw [zS]; rfl) E4 (by show 1 + 1 ≤ 2; omega) (by
  intro u hu
  simp only [Value.cells, List.mem_cons, List.not_mem_nil, or_false] at hu
  subst hu; rfl)
 refine wpl_skip _ rfl (run_store' rfl p9.new rfl hst) ?_
 have hrow : (w10.setRow (n + 4) (exI1.toList.take 1 ++ (Value.string ⟨#[64, 112]⟩).cells.toList ++ exI1.toList.drop (1 + (Value.string ⟨#[64, 112]⟩).cells.size)).toArray) = w10.setRow (n + 4) #[.string ⟨#[98]⟩, .string ⟨#[64, 112]⟩] := rfl
 rw [hrow]
 clear hrow hst
 have hb4 := setRow_heap w10 (n + 4) _ #[.string ⟨#[98]⟩, .string ⟨#[64, 112]⟩] _ _ E4
 have ho : ∀ b, b ≠ n + 4 → (w10.setRow (n + 4) #[.string ⟨#[98]⟩, .string ⟨#[64, 112]⟩]).heap[b]? = w10.heap[b]? := fun b hb => setRow_other _ _ _ _ hb
 have hx := setRow_ext (cs := #[.string ⟨#[98]⟩, .string ⟨#[64, 112]⟩]) X10 (show c3.w.heap.size ≤ n + 4 by omega)
 have hsz11 : (w10.setRow (n + 4) #[.string ⟨#[98]⟩, .string ⟨#[64, 112]⟩]).heap.size = w10.heap.size := setRow_size _ _ _
 generalize w10.setRow (n + 4) #[.string ⟨#[98]⟩, .string ⟨#[64, 112]⟩] = w11 at *
 have hb := (ho (n + 7) (by omega)).trans hb
 have E1 := (ho (n + 1) (by omega)).trans E1
 have E2 := (ho (n + 2) (by omega)).trans E2
 have E3 := (ho (n + 3) (by omega)).trans E3
 have E5 := (ho (n + 5) (by omega)).trans E5
 have E6 := (ho (n + 6) (by omega)).trans E6
 have f11 : a11.defers = [] := p9.defers.trans (p8.defers.trans (p7.defers.trans (p6.defers.trans (p5.defers.trans (p4.defers.trans (p3.defers.trans (p2.defers.trans (p1.defers.trans f10))))))))
 have ek : ∀ t : Nat, t < 20 → a11.eval (.tmp t) = a10.eval (.tmp t) := fun t ht => by
  rw [p9.old t (by omega), p8.old t (by omega), p7.old t (by omega), p6.old t (by omega), p5.old t (by omega), p4.old t (by omega), p3.old t (by omega), p2.old t (by omega), p1.old t (by omega)]
 have ek1 := (ek 1 (by decide)).trans ek1
 have ek2 := (ek 2 (by decide)).trans ek2
 have ek3 := (ek 3 (by decide)).trans ek3
 have ek4 := (ek 4 (by decide)).trans ek4
 have ek5 := (ek 5 (by decide)).trans ek5
 have ek6 := (ek 6 (by decide)).trans ek6
 have e7 := (ek 7 (by decide)).trans e7
 have hsz12 : w11.heap.size = n + 8 := by omega
 clear p1 p2 p3 p4 p5 p6 p7 p8 p9 q1 q2 q3 q4 q5 q6 q7 q8 ek hsz11 hsz10 hsz z10 f10 E4 ho tM dM zM tP dP zP tG dG zG tS zS tLP zLP tLG zLG tLS zLS
 have hnx : c3.nx = 0 := tr.hr.nx
 have htp3 : c3.tp = tpOf [] := tr.hr.tp
 let d : Cx := { c3 with w := w11, Im := fun b o => c3.Im b o ∨ (n < b ∧ b < n + 7), ρ := fun k => if k = 0 then n + 7 else c3.ρ k, nx := 1, tp := tpOf [(0, .box (mdE [64, 112]).av)] }
 have hRd : Rd w11 d.Im (mdE [64, 112]).av (exM (n + 1) (n + 3) (n + 6)).toList := rd_ex E1 E2 E3 hb4 E5 E6 fun b o h1 h2 => .inr ⟨h1, h2⟩
 have hcell : ∀ b o, c3.Im b o → w11.cell? ⟨b, o, none⟩ = c3.w.cell? ⟨b, o, none⟩ := fun b o h => cell_same (hx.old b (tr.hr.im b o h))
 have hle : c3.Le d := ⟨fun b o h => ⟨.inl h, hcell b o h⟩, by rw [hnx]; exact Nat.zero_le _, fun k hk => by rw [hnx] at hk; omega, fun k m hk _ => by rw [hnx] at hk; omega⟩
 have TR : Tr c3 [] d [(0, .box (mdE [64, 112]).av)] := by
  refine ⟨⟨rfl, rfl, ⟨by simp, trivial⟩, ?_, ?_, by simp⟩, hle, hx.os, hx.tape, hx.output, hx.size, fun b hb _ => hx.old b hb, ?_, ?_⟩
  ·rintro b o (h | h)
   ·have := tr.hr.im b o h
    show b < w11.heap.size
    omega
   ·show b < w11.heap.size
    omega
  ·intro x hx
   obtain rfl : x = (0, .box (mdE [64, 112]).av) := by simpa using hx
   refine ⟨(exM (n + 1) (n + 3) (n + 6)).toList, 65, ?_, VR_of_Rd (c := d) _ _ hRd, ?_⟩
   ·show w11.heap[n + 7]? = _
    rw [Array.toArray_toList]
    exact hb
   ·rintro o (h | h)
    ·have := tr.hr.im _ o h
     have : n + 7 < c3.w.heap.size := this
     omega
    ·have h2 : n + 7 < n + 7 := h.2
     omega
  ·intro y hy b hb
   obtain rfl : y = (0, .box (mdE [64, 112]).av) := by simpa using hy
   have hb : n + 7 = b := by simpa [blkOf, d] using hb
   exact .inl (by omega)
  ·rintro b o (h | h)
   ·exact .inl h
   ·exact .inr (.inl (by omega))
 have AOK : AOk 57 d [(7, .ptr 0 [] 0), (1, .int .i64 2), (2, .int .i64 0), (3, .int .i64 0), (4, .nilI), (5, .int .i64 7), (6, .nilI)] a11 := by
  refine ⟨fun t A hA => ?_, f11, z11⟩
  have hm := eget_mem hA
  simp only [List.mem_cons, List.not_mem_nil, or_false, Prod.mk.injEq] at hm
  rcases hm with ⟨rfl, rfl⟩ | ⟨rfl, rfl⟩ | ⟨rfl, rfl⟩ | ⟨rfl, rfl⟩ | ⟨rfl, rfl⟩ | ⟨rfl, rfl⟩ | ⟨rfl, rfl⟩
  ·show EV d _ (a11.eval (.tmp 7))
   rw [e7]; exact EV_VV (VV_ptr_mk (c := d) (i := 0) (by show 0 < 1; omega))
  ·show EV d _ (a11.eval (.tmp 1))
   rw [ek1]; exact EV_VV (VV_int_mk (inr64 (by decide) (by decide)))
  ·show EV d _ (a11.eval (.tmp 2))
   rw [ek2]; exact EV_VV (VV_int_mk (inr64 (by decide) (by decide)))
  ·show EV d _ (a11.eval (.tmp 3))
   rw [ek3]; exact EV_VV (VV_int_mk (inr64 (by decide) (by decide)))
  ·show EV d _ (a11.eval (.tmp 4))
   rw [ek4]; exact EV_VV (VV_mk rfl rfl (by simp only [VR, Rd]))
  ·show EV d _ (a11.eval (.tmp 5))
   rw [ek5]; exact EV_VV (VV_int_mk (inr64 (by decide) (by decide)))
  ·show EV d _ (a11.eval (.tmp 6))
   rw [ek6]; exact EV_VV (VV_mk rfl rfl (by simp only [VR, Rd]))
 refine (wp_mono (awp_sound lay mixed (fun _ _ _ _ _ h => h) (n := 57) _ (Fin L (Try.f22).results.toList [] (.bool true) []) _ _ d _ (by kernel_rfl) TR.hr AOK ?_) ?_ : Code.wp _ _ _ _ _)
 ·((try dsimp only[awp]);(conv=>whnf))
  refine And.intro (fun _ => ?_) (fun h => absurd rfl h)
  ((try dsimp only[awp]);(conv=>whnf))
  refine And.intro (fun _ => ?_) (fun h => absurd rfl h)
  ((try dsimp only[awp]);(conv=>whnf))
  refine And.intro (fun _ => ?_) (fun h => absurd rfl h)
  ((try dsimp only[awp]);(conv=>whnf))
  refine And.intro (fun _ => ?_) (fun h => absurd rfl h)
  ((try dsimp only[awp]);(conv=>whnf))
  refine .pure _ _ ?_ ⟨rfl, rfl⟩ cc fun _ => ?_
  ·exact leL_refl _
  ((try dsimp only[awp]);(conv=>whnf))
  refine .pure _ _ ?_ ⟨rfl, rfl⟩ cis fun _ => ?_
  ·exact leL_refl _
  ((try dsimp only[awp]);(conv=>whnf))
  (refine fM ?_;(conv=>whnf);refine ⟨?_,rfl⟩;(conv=>whnf))
  (repeat' first|exact rfl|exact trivial|exact wR|exact lR _|apply aI)
 ·rintro ex a w ⟨x, e, H1, c1, rfl, hq, rfl, htr, ha1, _⟩
  have TR2 := (tr.trans TR).trans htr
  cases x with
  | normal => exact fin_of (fn := Try.f22) lay hr TR2 ha1 hq
  | ret => exact fin_of (fn := Try.f22) lay hr TR2 ha1 hq
  | exit i => exact hq.elim
end S

open Go Go.AL Go.Proofs
namespace S

theorem list_of {α : Type} {f : α → AV} : ∀ {l : List AV}, (∀ x ∈ l, ∃ y, x = f y) → ∃ m : List α, l = m.map f
 | [], _ => ⟨[], rfl⟩
 | x :: l, h => by
   obtain ⟨y, rfl⟩ := h x (by simp)
   obtain ⟨m, rfl⟩ := list_of (l := l) fun z hz => h z (by simp [hz])
   exact ⟨y :: m, rfl⟩

theorem ints_of {sz : Nat} {k : IntKind} {A : AV} (h : (Sh.sl sz (.int k)).In A) : ∃ l : List Int, A = .sl sz (l.map (.int k)) .no := by
 simp only [Sh.In] at h
 obtain ⟨l, rfl, hl⟩ := h
 obtain ⟨m, rfl⟩ := list_of hl
 exact ⟨m, rfl⟩

abbrev shRat : Sh := .st [.bool, .sl 1 (.int .u32), .sl 1 (.int .u32)]
theorem Rat.of {A : AV} (h : shRat.In A) : ∃ r : Rat, A = r.av := by
 simp only [Sh.In, InL] at h
 obtain ⟨_, rfl, _, _, rfl, ⟨b, rfl⟩, _, _, rfl, h1, _, _, rfl, h2, rfl⟩ := h
 obtain ⟨n, rfl⟩ := ints_of (sz := 1) (k := .u32) (by simp only [Sh.In]; exact h1)
 obtain ⟨d, rfl⟩ := ints_of (sz := 1) (k := .u32) (by simp only [Sh.In]; exact h2)
 exact ⟨⟨b, n, d⟩, rfl⟩

theorem rats_of {A : AV} (h : (Sh.sl 3 shRat).In A) : ∃ l : List Rat, A = .sl 3 (l.map Rat.av) .no := by
 unfold Sh.In at h
 obtain ⟨l, rfl, hl⟩ := h
 obtain ⟨m, rfl⟩ := list_of fun x hx => Rat.of (hl x hx)
 exact ⟨m, rfl⟩

theorem int_of {k : IntKind} {A : AV} (h : (Sh.int k).In A) : ∃ n : Int, A = .int k n := by
 simpa only [Sh.In] using h

theorem str_of {A : AV} (h : Sh.str.In A) : ∃ s : List UInt8, A = .str s := by
 simpa only [Sh.In] using h
end S

open Go Go.AL Go.Proofs
namespace S
set_option maxRecDepth 100000

theorem sl_of {α : Type} {f : α → AV} {sh : Sh} {sz : Nat} {A : AV} (hf : ∀ x, sh.In x → ∃ y, x = f y) (h : (Sh.sl sz sh).In A) : ∃ l : List α, A = .sl sz (l.map f) .no := by
 unfold Sh.In at h
 obtain ⟨l, rfl, hl⟩ := h
 obtain ⟨m, rfl⟩ := list_of fun x hx => hf x (hl x hx)
 exact ⟨m, rfl⟩

abbrev shEv : Sh := .st [.str, shRat, shRat, shRat, .int .i64]
abbrev shHs : Sh := .st [.str, .bool]
abbrev shMg : Sh := .st [.str, .int .i64, .int .i64, .sl 1 .str, shRat]
abbrev shPg : Sh := .st [.str, .str, .sl 7 shMg]
abbrev shGr : Sh := .st [.str, .int .i64, .sl 1 .str, .sl 3 shRat]
abbrev shPv : Sh := .st [.str, shRat]
abbrev shPh : Sh := .st [.str, .str, .sl 4 shPv]
abbrev shMd : Sh := .st [.str, .str, .sl 11 shEv, .sl 2 shHs, .sl 7 shMg, .sl 3 shPg, .sl 4 shGr, .sl 3 shPh]

theorem strs_of {A : AV} (h : (Sh.sl 1 .str).In A) : ∃ l : List Str, A = sL l := sl_of (f := AV.str) (fun _ hx => str_of hx) h

theorem Ev.of {A : AV} (h : shEv.In A) : ∃ x : Ev, A = x.av := by
 unfold Sh.In at h
 simp only [InL] at h
 obtain ⟨_, rfl, _, _, rfl, h0, _, _, rfl, h1, _, _, rfl, h2, _, _, rfl, h3, _, _, rfl, h4, rfl⟩ := h
 obtain ⟨a, rfl⟩ := str_of h0
 obtain ⟨b, rfl⟩ := Rat.of h1
 obtain ⟨c, rfl⟩ := Rat.of h2
 obtain ⟨d, rfl⟩ := Rat.of h3
 obtain ⟨e, rfl⟩ := int_of h4
 exact ⟨⟨a, b, c, d, e⟩, rfl⟩

theorem Hs.of {A : AV} (h : shHs.In A) : ∃ x : Hs, A = x.av := by
 unfold Sh.In at h
 simp only [InL] at h
 obtain ⟨_, rfl, _, _, rfl, h0, _, _, rfl, h1, rfl⟩ := h
 obtain ⟨a, rfl⟩ := str_of h0
 simp only [Sh.In] at h1
 obtain ⟨b, rfl⟩ := h1
 exact ⟨⟨a, b⟩, rfl⟩

theorem Mg.of {A : AV} (h : shMg.In A) : ∃ x : Mg, A = x.av := by
 unfold Sh.In at h
 simp only [InL] at h
 obtain ⟨_, rfl, _, _, rfl, h0, _, _, rfl, h1, _, _, rfl, h2, _, _, rfl, h3, _, _, rfl, h4, rfl⟩ := h
 obtain ⟨a, rfl⟩ := str_of h0
 obtain ⟨b, rfl⟩ := int_of h1
 obtain ⟨c, rfl⟩ := int_of h2
 obtain ⟨d, rfl⟩ := strs_of h3
 obtain ⟨e, rfl⟩ := Rat.of h4
 exact ⟨⟨a, b, c, d, e⟩, rfl⟩

theorem Pg.of {A : AV} (h : shPg.In A) : ∃ x : Pg, A = x.av := by
 unfold Sh.In at h
 simp only [InL] at h
 obtain ⟨_, rfl, _, _, rfl, h0, _, _, rfl, h1, _, _, rfl, h2, rfl⟩ := h
 obtain ⟨a, rfl⟩ := str_of h0
 obtain ⟨b, rfl⟩ := str_of h1
 obtain ⟨c, rfl⟩ := sl_of (f := Mg.av) (fun _ hx => Mg.of hx) h2
 exact ⟨⟨a, b, c⟩, rfl⟩

theorem Gr.of {A : AV} (h : shGr.In A) : ∃ x : Gr, A = x.av := by
 unfold Sh.In at h
 simp only [InL] at h
 obtain ⟨_, rfl, _, _, rfl, h0, _, _, rfl, h1, _, _, rfl, h2, _, _, rfl, h3, rfl⟩ := h
 obtain ⟨a, rfl⟩ := str_of h0
 obtain ⟨b, rfl⟩ := int_of h1
 obtain ⟨c, rfl⟩ := strs_of h2
 obtain ⟨d, rfl⟩ := rats_of h3
 exact ⟨⟨a, b, c, d⟩, rfl⟩

theorem Pv.of {A : AV} (h : shPv.In A) : ∃ x : Pv, A = x.av := by
 unfold Sh.In at h
 simp only [InL] at h
 obtain ⟨_, rfl, _, _, rfl, h0, _, _, rfl, h1, rfl⟩ := h
 obtain ⟨a, rfl⟩ := str_of h0
 obtain ⟨b, rfl⟩ := Rat.of h1
 exact ⟨⟨a, b⟩, rfl⟩

theorem Ph.of {A : AV} (h : shPh.In A) : ∃ x : Ph, A = x.av := by
 unfold Sh.In at h
 simp only [InL] at h
 obtain ⟨_, rfl, _, _, rfl, h0, _, _, rfl, h1, _, _, rfl, h2, rfl⟩ := h
 obtain ⟨a, rfl⟩ := str_of h0
 obtain ⟨b, rfl⟩ := str_of h1
 obtain ⟨c, rfl⟩ := sl_of (f := Pv.av) (fun _ hx => Pv.of hx) h2
 exact ⟨⟨a, b, c⟩, rfl⟩

theorem Md.of {A : AV} (h : shMd.In A) : ∃ x : Md, A = x.av := by
 unfold Sh.In at h
 simp only [InL] at h
 obtain ⟨_, rfl, _, _, rfl, h0, _, _, rfl, h1, _, _, rfl, h2, _, _, rfl, h3, _, _, rfl, h4, _, _, rfl, h5, _, _, rfl, h6, _, _, rfl, h7, rfl⟩ := h
 obtain ⟨a, rfl⟩ := str_of h0
 obtain ⟨b, rfl⟩ := str_of h1
 obtain ⟨c, rfl⟩ := sl_of (f := Ev.av) (fun _ hx => Ev.of hx) h2
 obtain ⟨d, rfl⟩ := sl_of (f := Hs.av) (fun _ hx => Hs.of hx) h3
 obtain ⟨e, rfl⟩ := sl_of (f := Mg.av) (fun _ hx => Mg.of hx) h4
 obtain ⟨f, rfl⟩ := sl_of (f := Pg.av) (fun _ hx => Pg.of hx) h5
 obtain ⟨g, rfl⟩ := sl_of (f := Gr.av) (fun _ hx => Gr.of hx) h6
 obtain ⟨i, rfl⟩ := sl_of (f := Ph.av) (fun _ hx => Ph.of hx) h7
 exact ⟨⟨a, b, c, d, e, f, g, i⟩, rfl⟩

structure Ak where
 page : Int
 inp : Str
 old : Str
 new : Str

abbrev Ak.av (x : Ak) : AV := .ag [.int .i64 x.page, .str x.inp, .str x.old, .str x.new]
abbrev shAk : Sh := .st [.int .i64, .str, .str, .str]

theorem Ak.of {A : AV} (h : shAk.In A) : ∃ x : Ak, A = x.av := by
 unfold Sh.In at h
 simp only [InL] at h
 obtain ⟨_, rfl, _, _, rfl, h0, _, _, rfl, h1, _, _, rfl, h2, _, _, rfl, h3, rfl⟩ := h
 obtain ⟨a, rfl⟩ := int_of h0
 obtain ⟨b, rfl⟩ := str_of h1
 obtain ⟨c, rfl⟩ := str_of h2
 obtain ⟨d, rfl⟩ := str_of h3
 exact ⟨⟨a, b, c, d⟩, rfl⟩
end S

open Go Go.AL Go.Proofs
namespace S
set_option maxRecDepth 100000

theorem c_ModelBack (m : Md) (q : Ak) : FnH Try.prog 8 [m.av, q.av] [] (.bool true) [] := by
 obtain ⟨a, s, old, new⟩ := q
 have c0 := c_awake22.weak (R' := .tt) rfl
 have cl := c_LightM m _ rfl
 cases hL : lightM m with
 | false =>
   rw [hL] at cl
   have cl := cl.weak (R' := .ff) rfl
   refine FnH.intro lay mixed Try.func8 (by kernel_rfl) rfl (by kernel_rfl) rfl fun hok => ?_
   ((try dsimp only[argC,succC]);(try dsimp only[awp]);(conv=>whnf))
   refine .pure _ _ ?_ ⟨rfl, rfl⟩ c0 fun _ => ?_
   ·exact leL_refl _
   ((try dsimp only[awp]);(conv=>whnf))
   refine .pure _ _ ?_ ⟨rfl, rfl⟩ cl fun _ => ?_
   ·exact leL_refl _
   ((try dsimp only[awp]);(conv=>whnf))
   refine .pure _ _ ?_ ⟨rfl, rfl⟩ c0 fun _ => ?_
   ·exact leL_refl _
   ((try dsimp only[awp]);(conv=>whnf))
   (refine fM ?_;(conv=>whnf);refine ⟨?_,rfl⟩;(conv=>whnf))
   (repeat' first|exact rfl|exact trivial|exact wR|exact lR _|apply aI)
 | true =>
 rw [hL] at cl
 have cl := cl.weak (R' := .tt) rfl
 obtain ⟨hB, hC⟩ := lightM_B hL
 have hX := lightM_X hL
 have cc := c_mCheck m hC hB _ rfl
 by_cases hc : checkM m ≠ 0
 ·rw [errAV_ne hc] at cc
  refine FnH.intro lay mixed Try.func8 (by kernel_rfl) rfl (by kernel_rfl) rfl fun hok => ?_
  ((try dsimp only[argC,succC]);(try dsimp only[awp]);(conv=>whnf))
  refine .pure _ _ ?_ ⟨rfl, rfl⟩ c0 fun _ => ?_
  ·exact leL_refl _
  ((try dsimp only[awp]);(conv=>whnf))
  refine .pure _ _ ?_ ⟨rfl, rfl⟩ cl fun _ => ?_
  ·exact leL_refl _
  ((try dsimp only[awp]);(conv=>whnf))
  refine .pure _ _ ?_ ⟨rfl, rfl⟩ cc fun _ => ?_
  ·exact leL_refl _
  ((try dsimp only[awp]);(conv=>whnf))
  refine .pure _ _ ?_ ⟨rfl, rfl⟩ c0 fun _ => ?_
  ·exact leL_refl _
  ((try dsimp only[awp]);(conv=>whnf))
  (refine fM ?_;(conv=>whnf);refine ⟨?_,rfl⟩;(conv=>whnf))
  (repeat' first|exact rfl|exact trivial|exact wR|exact lR _|apply aI)
 have hc : checkM m = 0 := by simpa using hc
 have hM := checkM_ok hc
 rw [hc, errAV_zero] at cc
 have c1 := c_Rename m old new hC hB hX hc _ rfl
 by_cases g : renameE m old new = 0
 ·rw [if_pos g] at c1
  have g0 : 0 ≤ i_event m.evs old ∧ checkM (rnM m old new) = 0 := by
   unfold renameE at g
   split at g
   ·cases g
   ·exact ⟨by omega, g⟩
  have hN := checkM_ok g0.2
  have hF := fresh_of hM g0.1 hN
  have c2 := c_Rename (rnM m old new) new old (rn_C hC) (rn_B hB) (rn_X hX) g0.2 _ rfl
  have g2 : renameE (rnM m old new) new old = 0 := by
   unfold renameE
   rw [rn_back hF, hc, if_neg]
   have := rn_event hF (s := old) (fun e => e.symm)
   rw [rnS_new] at this
   rw [this]
   omega
  rw [if_pos g2, rn_back hF] at c2
  have cu := c_Used m hC hB _ rfl
  have cd := c_Dynamic m hC hB _ rfl
  have cc2 := c_mCheck (rnM m old new) (rn_C hC) (rn_B hB) _ rfl
  have cu2 := c_Used (rnM m old new) (rn_C hC) (rn_B hB) _ rfl
  have cd2 := c_Dynamic (rnM m old new) (rn_C hC) (rn_B hB) _ rfl
  rw [if_pos hc] at cu cd
  rw [if_pos g0.2, rn_used hF] at cu2
  rw [if_pos g0.2, rn_dyn hF] at cd2
  rw [g0.2, errAV_zero] at cc2
  have cS := c_Same1 m (fun p hp => by have := hB.vals p hp; omega)
  clear hN hF g2 g0 hM
  generalize usedR m = u at *
  generalize dynR m = dy at *
  refine FnH.intro lay mixed Try.func8 (by kernel_rfl) rfl (by kernel_rfl) rfl fun hok => ?_
  ((try dsimp only[argC,succC]);(try dsimp only[awp]);(conv=>whnf))
  refine .pure _ _ ?_ ⟨rfl, rfl⟩ c0 fun _ => ?_
  ·exact leL_refl _
  ((try dsimp only[awp]);(conv=>whnf))
  refine .pure _ _ ?_ ⟨rfl, rfl⟩ cl fun _ => ?_
  ·exact leL_refl _
  ((try dsimp only[awp]);(conv=>whnf))
  refine .pure _ _ ?_ ⟨rfl, rfl⟩ cc fun _ => ?_
  ·exact leL_refl _
  ((try dsimp only[awp]);(conv=>whnf))
  refine .pure _ _ ?_ ⟨rfl, rfl⟩ c1 fun _ => ?_
  ·exact leL_refl _
  ((try dsimp only[awp]);(conv=>whnf))
  refine .pure _ _ ?_ ⟨rfl, rfl⟩ c2 fun _ => ?_
  ·exact leL_refl _
  ((try dsimp only[awp]);(conv=>whnf))
  refine .pure _ _ ?_ ⟨rfl, rfl⟩ cu fun _ => ?_
  ·exact leL_refl _
  ((try dsimp only[awp]);(conv=>whnf))
  refine .pure _ _ ?_ ⟨rfl, rfl⟩ cu2 fun _ => ?_
  ·exact leL_refl _
  ((try dsimp only[awp]);(conv=>whnf))
  refine .pure _ _ ?_ ⟨rfl, rfl⟩ cd fun _ => ?_
  ·exact leL_refl _
  ((try dsimp only[awp]);(conv=>whnf))
  refine .pure _ _ ?_ ⟨rfl, rfl⟩ cd2 fun _ => ?_
  ·exact leL_refl _
  ((try dsimp only[awp]);(conv=>whnf))
  refine .pure _ _ ?_ ⟨rfl, rfl⟩ cc2 fun _ => ?_
  ·exact leL_refl _
  ((try dsimp only[awp]);(conv=>whnf))
  refine And.intro (fun _ => ?_) (fun h => absurd rfl h)
  ((try dsimp only[awp]);(conv=>whnf))
  refine And.intro (fun _ => ?_) (fun h => absurd rfl h)
  ((try dsimp only[awp]);(conv=>whnf))
  refine .pure _ _ ?_ ⟨rfl, rfl⟩ cS fun _ => ?_
  ·exact leL_refl _
  ((try dsimp only[awp]);(conv=>whnf))
  (refine fM ?_;(conv=>whnf);refine ⟨?_,rfl⟩;(conv=>whnf))
  (repeat' first|exact rfl|exact trivial|exact wR|exact lR _|apply aI)
 ·rw [if_neg g] at c1
  have cS := c_Same0
  refine FnH.intro lay mixed Try.func8 (by kernel_rfl) rfl (by kernel_rfl) rfl fun hok => ?_
  ((try dsimp only[argC,succC]);(try dsimp only[awp]);(conv=>whnf))
  refine .pure _ _ ?_ ⟨rfl, rfl⟩ c0 fun _ => ?_
  ·exact leL_refl _
  ((try dsimp only[awp]);(conv=>whnf))
  refine .pure _ _ ?_ ⟨rfl, rfl⟩ cl fun _ => ?_
  ·exact leL_refl _
  ((try dsimp only[awp]);(conv=>whnf))
  refine .pure _ _ ?_ ⟨rfl, rfl⟩ cc fun _ => ?_
  ·exact leL_refl _
  ((try dsimp only[awp]);(conv=>whnf))
  refine .pure _ _ ?_ ⟨rfl, rfl⟩ c1 fun _ => ?_
  ·exact leL_refl _
  ((try dsimp only[awp]);(conv=>whnf))
  refine .pure _ _ ?_ ⟨rfl, rfl⟩ cS fun _ => ?_
  ·exact leL_refl _
  ((try dsimp only[awp]);(conv=>whnf))
  (refine fM ?_;(conv=>whnf);refine ⟨?_,rfl⟩;(conv=>whnf))
  (repeat' first|exact rfl|exact trivial|exact wR|exact lR _|apply aI)
end S
