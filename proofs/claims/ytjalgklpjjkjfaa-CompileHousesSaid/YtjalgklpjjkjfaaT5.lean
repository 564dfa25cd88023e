/-
  Contracts of functions of the program, over the logic of the texts before. Nothing is assumed.
-/
import Derived.Test.YtjalgklpjjkjfaaT4

open Go Go.AL Go.Proofs
namespace S
set_option maxRecDepth 100000

def fewG (x : Mg) : Bool := decide (x.ins.length ≤ 40) && shortR x.dorm
def fewR (l : List Mg) : Bool := l.all fewG && decide (l.length ≤ 100)
def evS (x : Ev) : Bool := shortR x.p && shortR x.fail && shortR x.repair
def grS (x : Gr) : Bool := decide (x.mem.length ≤ 60) && decide (x.fac.length ≤ 60) && x.fac.all shortR
def phS (x : Ph) : Bool := decide (x.vals.length ≤ 60) && x.vals.all fun v => shortR v.p

def lightM (m : Md) : Bool := decide (m.evs.length ≤ 60) && decide (m.hs.length ≤ 60) && decide (m.pages.length ≤ 30) && decide (m.grs.length ≤ 30) && decide (m.phs.length ≤ 30) && fewR m.gates &&
 m.evs.all evS && (m.pages.all fun p => fewR p.gates) && m.grs.all grS && m.phs.all phS

theorem c_few (l : List Mg) (R : AV) (hR : R = .bool (fewR l)) : FnH Try.prog 26 [gL l] [] R [] := by
 refine FnH.intro lay mixed Try.func26 (by kernel_rfl) rfl (by kernel_rfl) rfl fun hok => ?_
 have lg : l.length ≤ 9223372036854775807 := by have := hok.1.1; simpa [maxL] using this
 ((try dsimp only[argC,succC]);(try dsimp only[awp]);(conv=>whnf))
 refine LoopE.of <| LoopSpec.inv (.refl _ _) (fun (i : Nat) => i ≤ l.length ∧ (l.take i).all fewG = true) (fun (i : Nat) => [(7, .int .i64 i)]) (fun _ => _) (fun (i : Nat) => l.length - i) 0 ?_ (fun _ => rfl) ?_ ?_
 ·exact ⟨Nat.zero_le _, by simp⟩
 ·(repeat' first|exact rfl|exact trivial|exact wR|exact lR _|apply aI)
 rintro i ⟨hi, hn⟩ _
 ((try dsimp only[awp]);(conv=>whnf))
 refine And.intro (fun h => ?_) (fun h => ?_)
 ·have hlt : i < l.length := by simpa using h
  have hall := all_take (p := fewG) hlt
  have hmem := List.getElem_mem hlt
  ((try dsimp only[awp]);(conv=>whnf))
  refine aidx hlt ?_
  generalize l[i] = g at *
  have no : fewG g = false → R = .bool false := fun h => by rw [hR]; unfold fewR; rw [all_false hmem h]; rfl
  ((try dsimp only[awp]);(conv=>whnf))
  refine And.intro (fun h1 => ?_) (fun h1 => ?_)
  ·have h1 : ¬ g.ins.length ≤ 40 := by simp only [List.length_map] at h1; omega
   obtain rfl := no (by simp [fewG, h1])
   ((try dsimp only[awp]);(conv=>whnf))
   (refine fM ?_;(conv=>whnf);refine ⟨?_,rfl⟩;(conv=>whnf))
   (repeat' first|exact rfl|exact trivial|exact wR|exact lR _|apply aI)
  have h1 : g.ins.length ≤ 40 := by simp only [List.length_map] at h1; omega
  ((try dsimp only[awp]);(conv=>whnf))
  refine .pure _ _ ?_ ⟨rfl, rfl⟩ (c_Short g.dorm) fun _ => ?_
  ·exact leL_refl _
  ((try dsimp only[awp]);(conv=>whnf))
  refine And.intro (fun h2 => ?_) (fun h2 => ?_)
  ·have h2 : shortR g.dorm = false := by simpa using h2
   obtain rfl := no (by simp [fewG, h2])
   ((try dsimp only[awp]);(conv=>whnf))
   (refine fM ?_;(conv=>whnf);refine ⟨?_,rfl⟩;(conv=>whnf))
   (repeat' first|exact rfl|exact trivial|exact wR|exact lR _|apply aI)
  have h2 : shortR g.dorm = true := by simpa using h2
  ((try dsimp only[awp]);(conv=>whnf))
  (refine ⟨inr64 (by omega) (by omega),?_⟩;(conv=>whnf))
  refine ⟨i + 1, ?_, ?_, ?_⟩
  ·exact ⟨hlt, by rw [hall, hn]; simp [fewG, h1, h2]⟩
  ·refine ⟨?_, .mk ?_ trivial⟩
   ·(repeat' first|exact rfl|exact trivial|exact wR|exact lR _|apply aI)
   ·(repeat' first|exact rfl|exact trivial|exact wR|exact lR _|apply aI)
  ·omega
 have hil : i = l.length := by have : ¬ i < l.length := by simpa using h
                               omega
 subst hil
 rw [List.take_length] at hn
 subst hR
 ((try dsimp only[awp]);(conv=>whnf))
 (refine fM ?_;(conv=>whnf);refine ⟨?_,rfl⟩;(conv=>whnf))
 show _ ↔ _
 simp [fewR, hn]
 omega

theorem c_LightM (m : Md) (R : AV) (hR : R = .bool (lightM m)) : FnH Try.prog 8 [m.av] [] R [] := by
 refine FnH.intro lay mixed Try.func8 (by kernel_rfl) rfl (by kernel_rfl) rfl fun hok => ?_
 ((try dsimp only[argC,succC]);(try dsimp only[awp]);(conv=>whnf))
 refine And.intro (fun h1 => ?_) (fun h1 => ?_)
 ·have h1 : ¬ m.evs.length ≤ 60 := by simp only [List.length_map] at h1; omega
  obtain rfl : R = .bool false := by rw [hR]; congr 1; unfold lightM; rw [decide_eq_false h1]; simp
  ((try dsimp only[awp]);(conv=>whnf))
  (refine fM ?_;(conv=>whnf);refine ⟨?_,rfl⟩;(conv=>whnf))
  (repeat' first|exact rfl|exact trivial|exact wR|exact lR _|apply aI)
 have h1 : m.evs.length ≤ 60 := by simp only [List.length_map] at h1; omega
 ((try dsimp only[awp]);(conv=>whnf))
 refine And.intro (fun h2 => ?_) (fun h2 => ?_)
 ·have h2 : ¬ m.hs.length ≤ 60 := by simp only [List.length_map] at h2; omega
  obtain rfl : R = .bool false := by rw [hR]; congr 1; unfold lightM; rw [decide_eq_false h2]; simp
  ((try dsimp only[awp]);(conv=>whnf))
  (refine fM ?_;(conv=>whnf);refine ⟨?_,rfl⟩;(conv=>whnf))
  (repeat' first|exact rfl|exact trivial|exact wR|exact lR _|apply aI)
 have h2 : m.hs.length ≤ 60 := by simp only [List.length_map] at h2; omega
 ((try dsimp only[awp]);(conv=>whnf))
 refine And.intro (fun h3 => ?_) (fun h3 => ?_)
 ·have h3 : ¬ m.pages.length ≤ 30 := by simp only [List.length_map] at h3; omega
  obtain rfl : R = .bool false := by rw [hR]; congr 1; unfold lightM; rw [decide_eq_false h3]; simp
  ((try dsimp only[awp]);(conv=>whnf))
  (refine fM ?_;(conv=>whnf);refine ⟨?_,rfl⟩;(conv=>whnf))
  (repeat' first|exact rfl|exact trivial|exact wR|exact lR _|apply aI)
 have h3 : m.pages.length ≤ 30 := by simp only [List.length_map] at h3; omega
 ((try dsimp only[awp]);(conv=>whnf))
 refine And.intro (fun h4 => ?_) (fun h4 => ?_)
 ·have h4 : ¬ m.grs.length ≤ 30 := by simp only [List.length_map] at h4; omega
  obtain rfl : R = .bool false := by rw [hR]; congr 1; unfold lightM; rw [decide_eq_false h4]; simp
  ((try dsimp only[awp]);(conv=>whnf))
  (refine fM ?_;(conv=>whnf);refine ⟨?_,rfl⟩;(conv=>whnf))
  (repeat' first|exact rfl|exact trivial|exact wR|exact lR _|apply aI)
 have h4 : m.grs.length ≤ 30 := by simp only [List.length_map] at h4; omega
 ((try dsimp only[awp]);(conv=>whnf))
 refine And.intro (fun h5 => ?_) (fun h5 => ?_)
 ·have h5 : ¬ m.phs.length ≤ 30 := by simp only [List.length_map] at h5; omega
  obtain rfl : R = .bool false := by rw [hR]; congr 1; unfold lightM; rw [decide_eq_false h5]; simp
  ((try dsimp only[awp]);(conv=>whnf))
  (refine fM ?_;(conv=>whnf);refine ⟨?_,rfl⟩;(conv=>whnf))
  (repeat' first|exact rfl|exact trivial|exact wR|exact lR _|apply aI)
 have h5 : m.phs.length ≤ 30 := by simp only [List.length_map] at h5; omega
 ((try dsimp only[awp]);(conv=>whnf))
 refine .pure _ _ ?_ ⟨rfl, rfl⟩ (c_few m.gates _ rfl) fun _ => ?_
 ·exact leL_refl _
 ((try dsimp only[awp]);(conv=>whnf))
 refine And.intro (fun h6 => ?_) (fun h6 => ?_)
 ·have h6 : fewR m.gates = false := by simpa using h6
  obtain rfl : R = .bool false := by rw [hR]; congr 1; unfold lightM; rw [h6]; simp
  ((try dsimp only[awp]);(conv=>whnf))
  (refine fM ?_;(conv=>whnf);refine ⟨?_,rfl⟩;(conv=>whnf))
  (repeat' first|exact rfl|exact trivial|exact wR|exact lR _|apply aI)
 have h6 : fewR m.gates = true := by simpa using h6
 ((try dsimp only[awp]);(conv=>whnf))
 refine LoopE.of <| LoopSpec.inv (.refl _ _) (fun (i : Nat) => i ≤ m.evs.length ∧ (m.evs.take i).all evS = true) (fun (i : Nat) => [(52, .int .i64 i)]) (fun _ => _) (fun (i : Nat) => m.evs.length - i) 0 ?_ (fun _ => rfl) ?_ ?_
 ·exact ⟨Nat.zero_le _, by simp⟩
 ·(repeat' first|exact rfl|exact trivial|exact wR|exact lR _|apply aI)
 rintro i ⟨hi, hn⟩ _
 ((try dsimp only[awp]);(conv=>whnf))
 refine And.intro (fun h => ?_) (fun h => ?_)
 ·have hlt : i < m.evs.length := by simpa using h
  have hall := all_take (p := evS) hlt
  have hmem := List.getElem_mem hlt
  ((try dsimp only[awp]);(conv=>whnf))
  refine aidx hlt ?_
  generalize m.evs[i] = g at *
  ((try dsimp only[awp]);(conv=>whnf))
  refine .pure _ _ ?_ ⟨rfl, rfl⟩ (c_Short g.p) fun _ => ?_
  ·exact leL_refl _
  ((try dsimp only[awp]);(conv=>whnf))
  refine And.intro (fun q1 => ?_) (fun q1 => ?_)
  ·have q1 : shortR g.p = false := by simpa using q1
   obtain rfl : R = .bool false := by rw [hR]; congr 1; unfold lightM; rw [all_false hmem (show evS g = false by simp [evS, q1])]; simp
   ((try dsimp only[awp]);(conv=>whnf))
   (refine fM ?_;(conv=>whnf);refine ⟨?_,rfl⟩;(conv=>whnf))
   (repeat' first|exact rfl|exact trivial|exact wR|exact lR _|apply aI)
  have q1 : shortR g.p = true := by simpa using q1
  ((try dsimp only[awp]);(conv=>whnf))
  refine .pure _ _ ?_ ⟨rfl, rfl⟩ (c_Short g.fail) fun _ => ?_
  ·exact leL_refl _
  ((try dsimp only[awp]);(conv=>whnf))
  refine And.intro (fun q2 => ?_) (fun q2 => ?_)
  ·have q2 : shortR g.fail = false := by simpa using q2
   obtain rfl : R = .bool false := by rw [hR]; congr 1; unfold lightM; rw [all_false hmem (show evS g = false by simp [evS, q2])]; simp
   ((try dsimp only[awp]);(conv=>whnf))
   (refine fM ?_;(conv=>whnf);refine ⟨?_,rfl⟩;(conv=>whnf))
   (repeat' first|exact rfl|exact trivial|exact wR|exact lR _|apply aI)
  have q2 : shortR g.fail = true := by simpa using q2
  ((try dsimp only[awp]);(conv=>whnf))
  refine .pure _ _ ?_ ⟨rfl, rfl⟩ (c_Short g.repair) fun _ => ?_
  ·exact leL_refl _
  ((try dsimp only[awp]);(conv=>whnf))
  refine And.intro (fun q3 => ?_) (fun q3 => ?_)
  ·have q3 : shortR g.repair = false := by simpa using q3
   obtain rfl : R = .bool false := by rw [hR]; congr 1; unfold lightM; rw [all_false hmem (show evS g = false by simp [evS, q3])]; simp
   ((try dsimp only[awp]);(conv=>whnf))
   (refine fM ?_;(conv=>whnf);refine ⟨?_,rfl⟩;(conv=>whnf))
   (repeat' first|exact rfl|exact trivial|exact wR|exact lR _|apply aI)
  have q3 : shortR g.repair = true := by simpa using q3
  ((try dsimp only[awp]);(conv=>whnf))
  (refine ⟨inr64 (by omega) (by omega),?_⟩;(conv=>whnf))
  refine ⟨i + 1, ?_, ?_, ?_⟩
  ·exact ⟨hlt, by rw [hall, hn]; simp [evS, q1, q2, q3]⟩
  ·refine ⟨?_, .mk ?_ ⟨by simp, trivial⟩⟩
   ·(repeat' first|exact rfl|exact trivial|exact wR|exact lR _|apply aI)
   ·(repeat' first|exact rfl|exact trivial|exact wR|exact lR _|apply aI)
  ·omega
 have hil : i = m.evs.length := by have : ¬ i < m.evs.length := by simpa using h
                                   omega
 subst hil
 rw [List.take_length] at hn
 have a1 := hn
 clear h hi hn
 ((try dsimp only[awp]);(conv=>whnf))
 refine LoopE.of <| LoopSpec.inv (.refl _ _) (fun (i : Nat) => i ≤ m.pages.length ∧ (m.pages.take i).all (fun p => fewR p.gates) = true) (fun (i : Nat) => [(76, .int .i64 i)]) (fun _ => _) (fun (i : Nat) => m.pages.length - i) 0 ?_ (fun _ => rfl) ?_ ?_
 ·exact ⟨Nat.zero_le _, by simp⟩
 ·(repeat' first|exact rfl|exact trivial|exact wR|exact lR _|apply aI)
 rintro i ⟨hi, hn⟩ _
 ((try dsimp only[awp]);(conv=>whnf))
 refine And.intro (fun h => ?_) (fun h => ?_)
 ·have hlt : i < m.pages.length := by simpa using h
  have hall := all_take (p := fun p : Pg => fewR p.gates) hlt
  have hmem := List.getElem_mem hlt
  ((try dsimp only[awp]);(conv=>whnf))
  refine aidx hlt ?_
  generalize m.pages[i] = g at *
  ((try dsimp only[awp]);(conv=>whnf))
  refine .pure _ _ ?_ ⟨rfl, rfl⟩ (c_few g.gates _ rfl) fun _ => ?_
  ·exact leL_refl _
  ((try dsimp only[awp]);(conv=>whnf))
  refine And.intro (fun q1 => ?_) (fun q1 => ?_)
  ·have q1 : fewR g.gates = false := by simpa using q1
   obtain rfl : R = .bool false := by rw [hR]; congr 1; unfold lightM; rw [all_false (p := fun p : Pg => fewR p.gates) hmem q1]; simp
   ((try dsimp only[awp]);(conv=>whnf))
   (refine fM ?_;(conv=>whnf);refine ⟨?_,rfl⟩;(conv=>whnf))
   (repeat' first|exact rfl|exact trivial|exact wR|exact lR _|apply aI)
  have q1 : fewR g.gates = true := by simpa using q1
  ((try dsimp only[awp]);(conv=>whnf))
  (refine ⟨inr64 (by omega) (by omega),?_⟩;(conv=>whnf))
  refine ⟨i + 1, ?_, ?_, ?_⟩
  ·exact ⟨hlt, by rw [hall, hn]; simp [q1]⟩
  ·refine ⟨?_, .mk ?_ ⟨by simp, trivial⟩⟩
   ·(repeat' first|exact rfl|exact trivial|exact wR|exact lR _|apply aI)
   ·(repeat' first|exact rfl|exact trivial|exact wR|exact lR _|apply aI)
  ·omega
 have hil : i = m.pages.length := by have : ¬ i < m.pages.length := by simpa using h
                                     omega
 subst hil
 rw [List.take_length] at hn
 have a2 := hn
 clear h hi hn
 ((try dsimp only[awp]);(conv=>whnf))
 refine LoopE.of <| LoopSpec.inv (.refl _ _) (fun (i : Nat) => i ≤ m.grs.length ∧ (m.grs.take i).all grS = true) (fun (i : Nat) => [(88, .int .i64 i)]) (fun _ => _) (fun (i : Nat) => m.grs.length - i) 0 ?_ (fun _ => rfl) ?_ ?_
 ·exact ⟨Nat.zero_le _, by simp⟩
 ·(repeat' first|exact rfl|exact trivial|exact wR|exact lR _|apply aI)
 rintro i ⟨hi, hn⟩ _
 ((try dsimp only[awp]);(conv=>whnf))
 refine And.intro (fun h => ?_) (fun h => ?_)
 ·have hlt : i < m.grs.length := by simpa using h
  have hall := all_take (p := grS) hlt
  have hmem := List.getElem_mem hlt
  ((try dsimp only[awp]);(conv=>whnf))
  refine aidx hlt ?_
  generalize m.grs[i] = g at *
  ((try dsimp only[awp]);(conv=>whnf))
  refine And.intro (fun q1 => ?_) (fun q1 => ?_)
  ·have q1 : ¬ g.mem.length ≤ 60 := by simp only [List.length_map] at q1; omega
   obtain rfl : R = .bool false := by rw [hR]; congr 1; unfold lightM; rw [all_false hmem (show grS g = false by simp [grS, q1])]; simp
   ((try dsimp only[awp]);(conv=>whnf))
   (refine fM ?_;(conv=>whnf);refine ⟨?_,rfl⟩;(conv=>whnf))
   (repeat' first|exact rfl|exact trivial|exact wR|exact lR _|apply aI)
  have q1 : g.mem.length ≤ 60 := by simp only [List.length_map] at q1; omega
  ((try dsimp only[awp]);(conv=>whnf))
  refine And.intro (fun q2 => ?_) (fun q2 => ?_)
  ·have q2 : ¬ g.fac.length ≤ 60 := by simp only [List.length_map] at q2; omega
   obtain rfl : R = .bool false := by rw [hR]; congr 1; unfold lightM; rw [all_false hmem (show grS g = false by simp [grS, q2])]; simp
   ((try dsimp only[awp]);(conv=>whnf))
   (refine fM ?_;(conv=>whnf);refine ⟨?_,rfl⟩;(conv=>whnf))
   (repeat' first|exact rfl|exact trivial|exact wR|exact lR _|apply aI)
  have q2 : g.fac.length ≤ 60 := by simp only [List.length_map] at q2; omega
  ((try dsimp only[awp]);(conv=>whnf))
  refine LoopE.of <| LoopSpec.inv (.refl _ _) (fun (j : Nat) => j ≤ g.fac.length ∧ (g.fac.take j).all shortR = true) (fun (j : Nat) => [(105, .int .i64 j)]) (fun _ => _) (fun (j : Nat) => g.fac.length - j) 0 ?_ (fun _ => rfl) ?_ ?_
  ·exact ⟨Nat.zero_le _, by simp⟩
  ·(repeat' first|exact rfl|exact trivial|exact wR|exact lR _|apply aI)
  rintro j ⟨hj, hnj⟩ _
  ((try dsimp only[awp]);(conv=>whnf))
  refine And.intro (fun hh => ?_) (fun hh => ?_)
  ·have hjl : j < g.fac.length := by simpa using hh
   have hallj := all_take (p := shortR) hjl
   have hmj := List.getElem_mem hjl
   ((try dsimp only[awp]);(conv=>whnf))
   refine aidx hjl ?_
   generalize g.fac[j] = r at *
   ((try dsimp only[awp]);(conv=>whnf))
   refine .pure _ _ ?_ ⟨rfl, rfl⟩ (c_Short r) fun _ => ?_
   ·exact leL_refl _
   ((try dsimp only[awp]);(conv=>whnf))
   refine And.intro (fun q3 => ?_) (fun q3 => ?_)
   ·have q3 : shortR r = false := by simpa using q3
    obtain rfl : R = .bool false := by rw [hR]; congr 1; unfold lightM; rw [all_false hmem (show grS g = false by simp [grS, all_false hmj q3])]; simp
    ((try dsimp only[awp]);(conv=>whnf))
    (refine fM ?_;(conv=>whnf);refine ⟨?_,rfl⟩;(conv=>whnf))
    (repeat' first|exact rfl|exact trivial|exact wR|exact lR _|apply aI)
   have q3 : shortR r = true := by simpa using q3
   ((try dsimp only[awp]);(conv=>whnf))
   (refine ⟨inr64 (by omega) (by omega),?_⟩;(conv=>whnf))
   refine ⟨j + 1, ?_, ?_, ?_⟩
   ·exact ⟨hjl, by rw [hallj, hnj, q3]; rfl⟩
   ·refine ⟨?_, .mk ?_ ⟨by simp, by simp, trivial⟩⟩
    ·(repeat' first|exact rfl|exact trivial|exact wR|exact lR _|apply aI)
    ·(repeat' first|exact rfl|exact trivial|exact wR|exact lR _|apply aI)
   ·omega
  have hjl : j = g.fac.length := by have : ¬ j < g.fac.length := by simpa using hh
                                    omega
  subst hjl
  rw [List.take_length] at hnj
  ((try dsimp only[awp]);(conv=>whnf))
  (refine ⟨inr64 (by omega) (by omega),?_⟩;(conv=>whnf))
  refine ⟨i + 1, ?_, ?_, ?_⟩
  ·exact ⟨hlt, by rw [hall, hn]; simp [grS, q1, q2, hnj]⟩
  ·refine ⟨?_, .mk ?_ ⟨by simp, trivial⟩⟩
   ·(repeat' first|exact rfl|exact trivial|exact wR|exact lR _|apply aI)
   ·(repeat' first|exact rfl|exact trivial|exact wR|exact lR _|apply aI)
  ·omega
 have hil : i = m.grs.length := by have : ¬ i < m.grs.length := by simpa using h
                                   omega
 subst hil
 rw [List.take_length] at hn
 have a3 := hn
 clear h hi hn
 ((try dsimp only[awp]);(conv=>whnf))
 refine LoopE.of <| LoopSpec.inv (.refl _ _) (fun (i : Nat) => i ≤ m.phs.length ∧ (m.phs.take i).all phS = true) (fun (i : Nat) => [(117, .int .i64 i)]) (fun _ => _) (fun (i : Nat) => m.phs.length - i) 0 ?_ (fun _ => rfl) ?_ ?_
 ·exact ⟨Nat.zero_le _, by simp⟩
 ·(repeat' first|exact rfl|exact trivial|exact wR|exact lR _|apply aI)
 rintro i ⟨hi, hn⟩ _
 ((try dsimp only[awp]);(conv=>whnf))
 refine And.intro (fun h => ?_) (fun h => ?_)
 ·have hlt : i < m.phs.length := by simpa using h
  have hall := all_take (p := phS) hlt
  have hmem := List.getElem_mem hlt
  ((try dsimp only[awp]);(conv=>whnf))
  refine aidx hlt ?_
  generalize m.phs[i] = g at *
  ((try dsimp only[awp]);(conv=>whnf))
  refine And.intro (fun q1 => ?_) (fun q1 => ?_)
  ·have q1 : ¬ g.vals.length ≤ 60 := by simp only [List.length_map] at q1; omega
   obtain rfl : R = .bool false := by rw [hR]; congr 1; unfold lightM; rw [all_false hmem (show phS g = false by simp [phS, q1])]; simp
   ((try dsimp only[awp]);(conv=>whnf))
   (refine fM ?_;(conv=>whnf);refine ⟨?_,rfl⟩;(conv=>whnf))
   (repeat' first|exact rfl|exact trivial|exact wR|exact lR _|apply aI)
  have q1 : g.vals.length ≤ 60 := by simp only [List.length_map] at q1; omega
  ((try dsimp only[awp]);(conv=>whnf))
  refine LoopE.of <| LoopSpec.inv (.refl _ _) (fun (j : Nat) => j ≤ g.vals.length ∧ (g.vals.take j).all (fun v => shortR v.p) = true) (fun (j : Nat) => [(128, .int .i64 j)]) (fun _ => _) (fun (j : Nat) => g.vals.length - j) 0 ?_ (fun _ => rfl) ?_ ?_
  ·exact ⟨Nat.zero_le _, by simp⟩
  ·(repeat' first|exact rfl|exact trivial|exact wR|exact lR _|apply aI)
  rintro j ⟨hj, hnj⟩ _
  ((try dsimp only[awp]);(conv=>whnf))
  refine And.intro (fun hh => ?_) (fun hh => ?_)
  ·have hjl : j < g.vals.length := by simpa using hh
   have hallj := all_take (p := fun v : Pv => shortR v.p) hjl
   have hmj := List.getElem_mem hjl
   ((try dsimp only[awp]);(conv=>whnf))
   refine aidx hjl ?_
   generalize g.vals[j] = r at *
   ((try dsimp only[awp]);(conv=>whnf))
   refine .pure _ _ ?_ ⟨rfl, rfl⟩ (c_Short r.p) fun _ => ?_
   ·exact leL_refl _
   ((try dsimp only[awp]);(conv=>whnf))
   refine And.intro (fun q3 => ?_) (fun q3 => ?_)
   ·have q3 : shortR r.p = false := by simpa using q3
    have q4 := all_false (p := fun v : Pv => shortR v.p) hmj q3
    obtain rfl : R = .bool false := by rw [hR]; congr 1; unfold lightM; rw [all_false hmem (show phS g = false by unfold phS; rw [q4]; simp)]; simp
    ((try dsimp only[awp]);(conv=>whnf))
    (refine fM ?_;(conv=>whnf);refine ⟨?_,rfl⟩;(conv=>whnf))
    (repeat' first|exact rfl|exact trivial|exact wR|exact lR _|apply aI)
   have q3 : shortR r.p = true := by simpa using q3
   ((try dsimp only[awp]);(conv=>whnf))
   (refine ⟨inr64 (by omega) (by omega),?_⟩;(conv=>whnf))
   refine ⟨j + 1, ?_, ?_, ?_⟩
   ·exact ⟨hjl, by rw [hallj, hnj, q3]; rfl⟩
   ·refine ⟨?_, .mk ?_ ⟨by simp, by simp, trivial⟩⟩
    ·(repeat' first|exact rfl|exact trivial|exact wR|exact lR _|apply aI)
    ·(repeat' first|exact rfl|exact trivial|exact wR|exact lR _|apply aI)
   ·omega
  have hjl : j = g.vals.length := by have : ¬ j < g.vals.length := by simpa using hh
                                     omega
  subst hjl
  rw [List.take_length] at hnj
  ((try dsimp only[awp]);(conv=>whnf))
  (refine ⟨inr64 (by omega) (by omega),?_⟩;(conv=>whnf))
  refine ⟨i + 1, ?_, ?_, ?_⟩
  ·exact ⟨hlt, by rw [hall, hn]; unfold phS; rw [hnj]; simp [q1]⟩
  ·refine ⟨?_, .mk ?_ ⟨by simp, trivial⟩⟩
   ·(repeat' first|exact rfl|exact trivial|exact wR|exact lR _|apply aI)
   ·(repeat' first|exact rfl|exact trivial|exact wR|exact lR _|apply aI)
  ·omega
 have hil : i = m.phs.length := by have : ¬ i < m.phs.length := by simpa using h
                                   omega
 subst hil
 rw [List.take_length] at hn
 obtain rfl : R = .bool true := by rw [hR]; congr 1; unfold lightM; rw [a1, a2, a3, hn, h6]; simp [h1, h2, h3, h4, h5]
 ((try dsimp only[awp]);(conv=>whnf))
 (refine fM ?_;(conv=>whnf);refine ⟨?_,rfl⟩;(conv=>whnf))
 (repeat' first|exact rfl|exact trivial|exact wR|exact lR _|apply aI)

theorem few_B {l : List Mg} (h : fewR l = true) : l.length ≤ 100 ∧ (∀ x ∈ l, x.ins.length ≤ 40) ∧ mgC l := by
 unfold fewR at h
 simp only [Bool.and_eq_true, decide_eq_true_eq] at h
 refine ⟨h.2, fun x hx => ?_, fun x hx => ?_⟩
 ·have := List.all_eq_true.1 h.1 x hx
  simp only [fewG, Bool.and_eq_true, decide_eq_true_eq] at this
  exact this.1
 ·have := List.all_eq_true.1 h.1 x hx
  simp only [fewG, Bool.and_eq_true, decide_eq_true_eq] at this
  exact shortR_C this.2

theorem lightM_B {m : Md} (h : lightM m = true) : MdB m ∧ MdC m := by
 unfold lightM at h
 simp only [Bool.and_eq_true, decide_eq_true_eq] at h
 obtain ⟨⟨⟨⟨⟨⟨⟨⟨⟨h1, h2⟩, h3⟩, h4⟩, h5⟩, h6⟩, h7⟩, h8⟩, h9⟩, h10⟩ := h
 have f6 := few_B h6
 refine ⟨⟨h1, h2, ⟨f6.1, f6.2.1⟩, h3, fun p hp => ?_, h4, fun g hg => ?_, h5, fun p hp => ?_⟩, ⟨fun x hx => ?_, f6.2.2, fun p hp => ?_, fun g hg f hf => ?_, fun p hp v hv => ?_⟩⟩
 ·have := few_B (List.all_eq_true.1 h8 p hp)
  exact ⟨this.1, this.2.1⟩
 ·have := List.all_eq_true.1 h9 g hg
  simp only [grS, Bool.and_eq_true, decide_eq_true_eq] at this
  exact this.1
 ·have := List.all_eq_true.1 h10 p hp
  simp only [phS, Bool.and_eq_true, decide_eq_true_eq] at this
  exact this.1
 ·have := List.all_eq_true.1 h7 x hx
  simp only [evS, Bool.and_eq_true] at this
  exact ⟨shortR_C this.1.1, shortR_C this.1.2, shortR_C this.2⟩
 ·exact (few_B (List.all_eq_true.1 h8 p hp)).2.2
 ·have := List.all_eq_true.1 h9 g hg
  simp only [grS, Bool.and_eq_true, decide_eq_true_eq] at this
  exact shortR_C (List.all_eq_true.1 this.2 f hf)
 ·have := List.all_eq_true.1 h10 p hp
  simp only [phS, Bool.and_eq_true, decide_eq_true_eq] at this
  exact shortR_C (List.all_eq_true.1 this.2 v hv)
end S

open Go Go.AL Go.Proofs
namespace Go.AL
section
variable {P : Program} {ops : Array Oper} {Q : Exit → Act → World → Prop} {a : Act} {w : World} {o : Oper} {l : List Oper}

structure Ext (w w' : World) : Prop where
 size : w.heap.size ≤ w'.heap.size
 old : ∀ b, b < w.heap.size → w'.heap[b]? = w.heap[b]?
 os : w'.os = w.os
 tape : w'.tape = w.tape
 output : w'.output = w.output

end
end Go.AL

namespace S
set_option maxRecDepth 100000

def exEv : Array Value := #[.string ⟨#[97]⟩, .bool false, .slice none 0 0, .slice none 0 0, .bool false, .slice none 0 0, .slice none 0 0, .bool false, .slice none 0 0, .slice none 0 0, .int .i64 0, .string ⟨#[98]⟩, .bool false, .slice none 0 0, .slice none 0 0, .bool false, .slice none 0 0, .slice none 0 0, .bool false, .slice none 0 0, .slice none 0 0, .int .i64 0, .string ⟨#[99]⟩, .bool false, .slice none 0 0, .slice none 0 0, .bool false, .slice none 0 0, .slice none 0 0, .bool false, .slice none 0 0, .slice none 0 0, .int .i64 0]
def exI0 : Array Value := #[.string ⟨#[97]⟩, .string ⟨#[64, 112]⟩]
def exG0 (n : Nat) : Array Value := #[.string ⟨#[103]⟩, .int .i64 0, .int .i64 0, .slice (some ⟨n, 0, none⟩) 2 2, .bool false, .slice none 0 0, .slice none 0 0]
def exI1 : Array Value := #[.string ⟨#[98]⟩, .string ⟨#[99]⟩]
def exG1 (n : Nat) : Array Value := #[.string ⟨#[104]⟩, .int .i64 1, .int .i64 0, .slice (some ⟨n, 0, none⟩) 2 2, .bool false, .slice none 0 0, .slice none 0 0]
def exP (n : Nat) : Array Value := #[.string ⟨#[112]⟩, .string ⟨#[104]⟩, .slice (some ⟨n, 0, none⟩) 1 1]
structure ExW (w w' : World) : Prop where
 ext : Ext w w'
 size : w'.heap.size = w.heap.size + 7
 ev : w'.heap[w.heap.size + 1]? = some (.cells exEv 78)
 i0 : w'.heap[w.heap.size + 2]? = some (.cells exI0 9)
 g0 : w'.heap[w.heap.size + 3]? = some (.cells (exG0 (w.heap.size + 2)) 55)
 i1 : w'.heap[w.heap.size + 4]? = some (.cells exI1 9)
 g1 : w'.heap[w.heap.size + 5]? = some (.cells (exG1 (w.heap.size + 4)) 55)
 pg : w'.heap[w.heap.size + 6]? = some (.cells (exP (w.heap.size + 5)) 81)

end S

open Go Go.AL Go.Proofs
namespace Go.AL
section
variable {P : Program} {L : Lay} {ops : Array Oper} {Q : Exit → Act → World → Prop} {a : Act} {w : World} {o : Oper} {l : List Oper}

structure PutA (a a' : Act) (d : Nat) (v : Value) : Prop where
 size : a'.tmps.size = a.tmps.size
 defers : a'.defers = a.defers
 new : a'.eval (.tmp d) = v
 old : ∀ t : Nat, t ≠ d → a'.eval (.tmp t) = a.eval (.tmp t)

end
end Go.AL

namespace S
set_option maxRecDepth 100000

end S

open Go Go.AL Go.Proofs
namespace S
set_option maxRecDepth 100000
section
variable {w : World} {Im : Nat → Nat → Prop}

end
end S

open Go Go.AL Go.Proofs
namespace S
set_option maxRecDepth 100000

end S

open Go Go.AL Go.Proofs
namespace S
set_option maxRecDepth 100000

structure CInv (m : Md) (st : CS) : Prop where
 len : st.nodes.length = st.es.length
 nd : (st.es.map (·.1)).Nodup
 ok : ∀ e ∈ st.es, okN m e.1 ∧ e.1.1 ≠ 0

def univ (m : Md) : List Node := (List.range m.hs.length).map (fun (i : Nat) => ((1, 0, (i : Int)) : Node)) ++ allNodes m

theorem univ_mem {m : Md} {x : Node} (h : okN m x) (h0 : x.1 ≠ 0) : x ∈ univ m := by
 unfold univ
 rw [List.mem_append]
 rcases h with h | h | h
 ·omega
 ·left
  obtain ⟨x1, x2, x3⟩ := x
  obtain ⟨rfl, rfl, h3, h4⟩ := h
  rw [List.mem_map]
  dsimp only at h3 h4
  exact ⟨x3.toNat, by rw [List.mem_range]; omega, by rw [Int.toNat_of_nonneg h3]⟩
 ·exact .inr h

theorem nodup_sub {α : Type} [DecidableEq α] : ∀ {l u : List α}, l.Nodup → (∀ x ∈ l, x ∈ u) → l.length ≤ u.length
 | [], _, _, _ => Nat.zero_le _
 | x :: l, u, hn, hs => by
   rw [List.nodup_cons] at hn
   have hx := hs x (by simp)
   have := nodup_sub (u := u.erase x) hn.2 fun y hy => (List.mem_erase_of_ne (fun e => hn.1 (by rw [← e]; exact hy))).2 (hs y (by simp [hy]))
   rw [List.length_erase_of_mem hx] at this
   have := List.length_pos_of_mem hx
   simp only [List.length_cons]; omega

theorem all_len {m : Md} (hB : MdB m) : (allNodes m).length ≤ 10000 := by
 have key : ∀ (l : List Int), (∀ a ∈ l, (gatesM m a).length ≤ 100) → (l.flatMap (nodesAt m)).length ≤ 100 * l.length := by
  intro l
  induction l with
  | nil => intro _; simp
  | cons a l ih =>
    intro h
    simp only [List.flatMap_cons, List.length_append, List.length_cons]
    have h1 := ih fun b hb => h b (by simp [hb])
    have h2 := h a (by simp)
    have h3 : (nodesAt m a).length = (gatesM m a).length := by simp [nodesAt]
    omega
 have h1 := key (atsM m) fun a _ => by
  unfold gatesM
  split
  ·exact hB.gates.1
  ·rw [List.getD_eq_getElem?_getD]
   cases hp : m.pages[a.toNat]? with
   | none => exact Nat.zero_le _
   | some p => exact (hB.pgates p (List.mem_of_getElem? hp)).1
 rw [ats_len] at h1
 have := hB.pages
 unfold allNodes
 omega

theorem CInv.short {m : Md} (hB : MdB m) {st : CS} (h : CInv m st) : st.nodes.length ≤ 20000 := by
 have := nodup_sub h.nd (u := univ m) fun x hx => by
  obtain ⟨e, he, rfl⟩ := List.mem_map.1 hx
  exact univ_mem (h.ok e he).1 (h.ok e he).2
 rw [List.length_map] at this
 have h1 := all_len hB
 have h2 := hB.hs
 have : (univ m).length = m.hs.length + (allNodes m).length := by simp [univ]
 rw [h.len]
 omega

theorem mark_new {x : Node} {v : Int} : ∀ {es : Marks}, lookO es x = none → mark es x v = es ++ [(x, v)] ∧ x ∉ es.map (·.1)
 | [], _ => ⟨rfl, by simp⟩
 | (y, u) :: es, h => by
   simp only [lookO] at h
   split at h
   ·cases h
   rename_i hy
   obtain ⟨h1, h2⟩ := mark_new h
   refine ⟨?_, ?_⟩
   ·simp only [mark, if_neg hy]; rw [h1]; rfl
   ·simp only [List.map_cons, List.mem_cons, not_or]
    exact ⟨fun e => hy e.symm, h2⟩

theorem CInv.push {m : Md} {st : CS} (h : CInv m st) {x : Node} (hx : okN m x) (h0 : x.1 ≠ 0) (hn : lookO st.es x = none) (vars : Int) (nd : Nd) : CInv m (pushN vars st x nd).2 := by
 obtain ⟨h1, h2⟩ := mark_new (v := vars + st.nodes.length) hn
 refine ⟨?_, ?_, ?_⟩
 ·show (st.nodes ++ [nd]).length = (mark _ _ _).length
  rw [h1, List.length_append, List.length_append, h.len]; rfl
 ·show ((mark _ _ _).map (·.1)).Nodup
  rw [h1, List.map_append, List.nodup_append]
  refine ⟨h.nd, by simp, ?_⟩
  intro a ha b hb
  simp at hb
  subst hb
  exact fun e => h2 (e ▸ ha)
 ·show ∀ e ∈ mark _ _ _, _
  rw [h1]
  intro e he
  rcases List.mem_append.1 he with he | he
  ·exact h.ok e he
  ·simp at he; subst he; exact ⟨hx, h0⟩

theorem comp_inv {m : Md} (hc : ClosedM m) {rank : Node → Nat} (hr : RankM m rank) (vars : Int) : ∀ (n : Nat) (x : Node) (st : CS), okN m x → CInv m st →
  CInv m (compN m vars n x st).2 ∧ ∀ z : Node, z.1 = 2 → (x.1 = 2 → rank x < rank z) → lookO st.es z = none → lookO (compN m vars n x st).2.es z = none
 | 0, _, _, _, h => ⟨h, fun _ _ _ h => h⟩
 | n + 1, x, st, hx, h => by
   have push : ∀ {s : CS} (nd : Nd), CInv m s → x.1 ≠ 0 → lookO s.es x = none → (∀ z : Node, z.1 = 2 → (x.1 = 2 → rank x < rank z) → lookO st.es z = none → lookO s.es z = none) →
     CInv m (pushN vars s x nd).2 ∧ ∀ z : Node, z.1 = 2 → (x.1 = 2 → rank x < rank z) → lookO st.es z = none → lookO (pushN vars s x nd).2.es z = none := by
    intro s nd h1 h2 h3 h4
    refine ⟨h1.push hx h2 h3 vars nd, fun z hz hxz hs => ?_⟩
    show lookO (mark s.es x _) z = none
    rw [lookO_mark, if_neg]
    ·exact h4 z hz hxz hs
    ·rintro rfl; have := hxz hz; omega
   unfold compN
   split
   ·exact ⟨h, fun _ _ _ h => h⟩
   rename_i h0
   split
   ·exact ⟨h, fun _ _ _ h => h⟩
   rename_i hn
   split
   ·exact push _ h h0 hn fun _ _ _ h => h
   rename_i h1
   split
   ·exact ⟨h, fun _ _ _ h => h⟩
   have h2 : x.1 = 2 := by
    rcases hx with h | h | h
    ·omega
    ·omega
    ·exact (mem_all.1 h).1
   have hk := (okN_kids hc hx h2).2
   have key : ∀ (l : List Node) (s : CS) (acc : List Int), (∀ y ∈ l, okN m y ∧ (y.1 = 2 → rank y < rank x)) → CInv m s → CInv m (compL (compN m vars n) l s acc).2 ∧
     ∀ z : Node, z.1 = 2 → rank x ≤ rank z → lookO s.es z = none → lookO (compL (compN m vars n) l s acc).2.es z = none := by
    intro l
    induction l with
    | nil => intro s acc _ h; exact ⟨h, fun _ _ _ h => h⟩
    | cons y l ih =>
      intro s acc hl h
      unfold compL
      obtain ⟨hy, hyr⟩ := hl y (by simp)
      obtain ⟨h', g'⟩ := comp_inv hc hr vars n y s hy h
      have g2 : ∀ z : Node, z.1 = 2 → rank x ≤ rank z → lookO s.es z = none → lookO (compN m vars n y s).2.es z = none := fun z hz hxz hs => g' z hz (fun e => by have := hyr e; omega) hs
      split
      ·exact ⟨h', g2⟩
      ·obtain ⟨i1, i2⟩ := ih (compN m vars n y s).2 (acc ++ [(compN m vars n y s).1.2]) (fun z hz => hl z (by simp [hz])) h'
       exact ⟨i1, fun z hz hxz hs => i2 z hz hxz (g2 z hz hxz hs)⟩
   obtain ⟨k1, k2⟩ := key (kidsM m x) st [] (fun y hy => ⟨hk y hy, hr x hx h2 y hy⟩) h
   split
   ·exact ⟨k1, fun z hz hxz hs => k2 z hz (by have := hxz h2; omega) hs⟩
   ·exact push _ k1 h0 (k2 x h2 (Nat.le_refl _) hn) fun z hz hxz hs => k2 z hz (by have := hxz h2; omega) hs
end S

open Go Go.AL Go.Proofs
namespace S
set_option maxRecDepth 100000

theorem c_nodeKind (k : Int) : FnH Try.prog 111 [.int .i64 k] [] (.tup [.int .i64 (kindN k), .bool (statK k)]) [] := by
 obtain ⟨a, ha⟩ : ∃ a, kindN k = a := ⟨_, rfl⟩
 obtain ⟨b, hb⟩ : ∃ b, statK k = b := ⟨_, rfl⟩
 rw [ha, hb]
 refine FnH.intro lay mixed Try.func111 (by kernel_rfl) rfl (by kernel_rfl) rfl fun hok => ?_
 ((try dsimp only[argC,succC]);(try dsimp only[awp]);(conv=>whnf))
 repeat' (first | (refine And.intro (fun _ => ?_) (fun _ => ?_) <;> ((try dsimp only[awp]);(conv=>whnf))))
 all_goals
  (refine fM ?_;(conv=>whnf);refine ⟨?_,rfl⟩;(conv=>whnf))
 all_goals
  rw [← ha, ← hb]
  (repeat' first|exact rfl|exact trivial|exact wR|exact lR _|apply aI)
 all_goals
  unfold kindN statK at *
  first | (simp_all [le0]; done) | (show le0 _ _; simp_all [le0]; done) | skip

abbrev xC (vars : Int) (st : CS) : AV := .ag [.int .i64 vars, .sl 3 (st.nodes.map Nd.av) (.own 2), .int .i64 0]
abbrev hpC (m : Md) (vars : Int) (st : CS) : Heap := hpF m (xC vars st) (.tok 3 st.nodes.length) (.amap shN (encM st.es))
abbrev compAV (r : (Bool × Int) × CS) : AV := .tup [.int .i64 r.1.2, errAV (if r.1.1 = true then 7 else 0)]

theorem xC_wk (vars : Int) (st : CS) : WkA (xC vars st) := ⟨le0_refl _, rfl⟩
theorem tC_wk (n : Nat) : WkO (.tok 3 n) := ⟨⟨rfl, rfl⟩, rfl⟩
theorem mC_wk (es : Marks) : WkO (.amap shN (encM es)) := ⟨⟨rfl, leM_refl _⟩, encM_bnd _ _⟩

theorem aupd_eq {es : Marks} {x : Node} {v w : Int} {k : List (AV × AV) → Prop} (e : w = v) (h : k (encM (mark es x v))) : AUpd (encM es) (nAV x) (.int .i64 w) k := by subst e; exact aupd_es h

def lvl (rank : Node → Nat) (x : Node) : Nat := if x.1 = 2 then rank x + 1 else 0

theorem c_cinput (m : Md) (hM : MOk m) (hB : MdB m) (rank : Node → Nat) (hr : RankM m rank) : ∀ (n : Nat) (a : Int) (s : Str) (st : CS), (a = -1 ∨ (0 ≤ a ∧ a < (m.pages.length : Int))) → InOk m a s → lvl rank (resR m a s) < n → CInv m st →
  FnH Try.prog 79 [.ptr 1 [] 0, .int .i64 a, .str s] (hpC m m.evs.length st) (compAV (compN m m.evs.length n (resR m a s) st)) (hpC m m.evs.length (compN m m.evs.length n (resR m a s) st).2) := by
 intro n
 induction n with
 | zero => intro a s st _ _ h; omega
 | succ n ih =>
   intro a s st ha hin hn hI
   have hev := hM.lens.1
   have cf := c_cfind m (xC m.evs.length st) (.tok 3 st.nodes.length) (.amap shN (encM st.es)) (xC_wk _ _) (tC_wk _) (mC_wk _) a s hin.pos ha hin.pg
   have hxo := hin.ok
   have hshort := hI.short hB
   have hcl := hM.closed
   have hkk := fun h2 => okN_kids hcl hxo h2
   have hrk := hr _ hxo
   have hInv := comp_inv hcl hr m.evs.length n
   generalize hx : resR m a s = x at *
   generalize hve : (m.evs.length : Int) = ve at *
   refine FnH.intro lay mixed Try.func79 (by kernel_rfl) rfl (by kernel_rfl) rfl fun hok => ?_
   ((try dsimp only[argC,succC]);(try dsimp only[awp]);(conv=>whnf))
   refine .gen _ _ cf fun _ => ?_
   ((try dsimp only[awp]);(conv=>whnf))
   refine And.intro (fun h0 => ?_) (fun h0 => ?_)
   ·rw [show compN m ve (n + 1) x st = ((false, x.2.2), st) from if_pos h0]
    ((try dsimp only[awp]);(conv=>whnf))
    refine ⟨⟨_, _, .refl _ _, ?_⟩⟩
    (conv=>whnf)
    refine ⟨?_, rfl, by simp [nextId], .mk ?_ (by simp [idsOk])⟩
    ·(repeat' first|exact rfl|exact trivial|exact wR|exact lR _|apply aI)
    ·(repeat' first|exact rfl|exact trivial|exact wR|exact lR _|apply aI)
     all_goals first | exact leM_refl _ | exact leM_nr _ _ | exact encM_bnd _ _ | (show leRL _ (List.map _ (_ ++ [_])); rw [List.map_append]; refine leRL_snoc ?_ (lR _); (repeat' first|exact rfl|exact trivial|exact wR|exact lR _|apply aI); done) | (simp [pushN]; done) | (simp [pushN]; omega)
   ((try dsimp only[awp]);(conv=>whnf))
   (refine ADraw.auto (by kernel_rfl) ?_;(conv=>whnf))
   refine alook_opt (fun v hv => ?_) (fun hv => ?_)
   ·rw [show compN m ve (n + 1) x st = ((false, v), st) from by unfold compN; rw [if_neg h0, hv]]
    ((try dsimp only[awp]);(conv=>whnf))
    refine ⟨⟨_, _, .refl _ _, ?_⟩⟩
    (conv=>whnf)
    refine ⟨?_, rfl, by simp [nextId], .mk ?_ (by simp [idsOk])⟩
    ·(repeat' first|exact rfl|exact trivial|exact wR|exact lR _|apply aI)
    ·(repeat' first|exact rfl|exact trivial|exact wR|exact lR _|apply aI)
     all_goals first | exact leM_refl _ | exact leM_nr _ _ | exact encM_bnd _ _ | (show leRL _ (List.map _ (_ ++ [_])); rw [List.map_append]; refine leRL_snoc ?_ (lR _); (repeat' first|exact rfl|exact trivial|exact wR|exact lR _|apply aI); done) | (simp [pushN]; done) | (simp [pushN]; omega)
   ((try dsimp only[awp]);(conv=>whnf))
   refine And.intro (fun h1 => ?_) (fun h1 => ?_)
   ·have hh : 0 ≤ x.2.2 ∧ x.2.2 < (m.hs.length : Int) := by
     rcases hxo with h | h | h
     ·omega
     ·exact ⟨h.2.2.1, h.2.2.2⟩
     ·have := (mem_all.1 h).1; omega
    have hR : compN m ve (n + 1) x st = pushN ve st x ⟨0, if (houseAt m x).on = true then 1 else 0, []⟩ := by unfold compN; rw [if_neg h0, hv]; exact if_pos h1
    rw [hR]
    ((try dsimp only[awp]);(conv=>whnf))
    (refine ADraw.auto (by kernel_rfl) ?_;(conv=>whnf))
    refine aidxD default hh ?_
    rw [show m.hs.getD x.2.2.toNat default = houseAt m x from rfl]
    generalize houseAt m x = hs at *
    ((try dsimp only[awp]);(conv=>whnf))
    refine And.intro (fun g => ?_) (fun g => ?_)
    ·rw [if_pos g]
     ((try dsimp only[awp]);(conv=>whnf))
     ((try dsimp only[awp]);(conv=>whnf))
     (refine ADraw.auto (by kernel_rfl) ?_;(conv=>whnf))
     refine ⟨by rw [List.length_map], .mk (by simp [maxL]; omega) (by simp; omega) ?_⟩
     ((try dsimp only[awp]);(conv=>whnf))
     (refine ADraw.auto (by kernel_rfl) ?_;(conv=>whnf))
     refine ⟨inr64 (by simp; omega) (by simp; omega), ?_⟩
     ((try dsimp only[awp]);(conv=>whnf))
     refine ⟨inr64 (by simp; omega) (by simp; omega), ?_⟩
     ((try dsimp only[awp]);(conv=>whnf))
     refine aupd_eq (v := ve + st.nodes.length) (by simp; omega) ?_
     ((try dsimp only[awp]);(conv=>whnf))
     (refine ADraw.auto (by kernel_rfl) ?_;(conv=>whnf))
     refine alook_put ?_
     ((try dsimp only[awp]);(conv=>whnf))
     refine ⟨⟨_, _, .refl _ _, ?_⟩⟩
     (conv=>whnf)
     refine ⟨?_, rfl, by simp [nextId], .mk ?_ (by simp [idsOk])⟩
     ·(repeat' first|exact rfl|exact trivial|exact wR|exact lR _|apply aI)
     ·(repeat' first|exact rfl|exact trivial|exact wR|exact lR _|apply aI)
      all_goals first | exact leM_refl _ | exact leM_nr _ _ | exact encM_bnd _ _ | (show leRL _ (List.map _ (_ ++ [_])); rw [List.map_append]; refine leRL_snoc ?_ (lR _); (repeat' first|exact rfl|exact trivial|exact wR|exact lR _|apply aI); done) | (simp [pushN]; done) | (simp [pushN]; omega)
    ·rw [if_neg (by rw [g]; simp)]
     ((try dsimp only[awp]);(conv=>whnf))
     (refine ADraw.auto (by kernel_rfl) ?_;(conv=>whnf))
     refine ⟨by rw [List.length_map], .mk (by simp [maxL]; omega) (by simp; omega) ?_⟩
     ((try dsimp only[awp]);(conv=>whnf))
     (refine ADraw.auto (by kernel_rfl) ?_;(conv=>whnf))
     refine ⟨inr64 (by simp; omega) (by simp; omega), ?_⟩
     ((try dsimp only[awp]);(conv=>whnf))
     refine ⟨inr64 (by simp; omega) (by simp; omega), ?_⟩
     ((try dsimp only[awp]);(conv=>whnf))
     refine aupd_eq (v := ve + st.nodes.length) (by simp; omega) ?_
     ((try dsimp only[awp]);(conv=>whnf))
     (refine ADraw.auto (by kernel_rfl) ?_;(conv=>whnf))
     refine alook_put ?_
     ((try dsimp only[awp]);(conv=>whnf))
     refine ⟨⟨_, _, .refl _ _, ?_⟩⟩
     (conv=>whnf)
     refine ⟨?_, rfl, by simp [nextId], .mk ?_ (by simp [idsOk])⟩
     ·(repeat' first|exact rfl|exact trivial|exact wR|exact lR _|apply aI)
     ·(repeat' first|exact rfl|exact trivial|exact wR|exact lR _|apply aI)
      all_goals first | exact leM_refl _ | exact leM_nr _ _ | exact encM_bnd _ _ | (show leRL _ (List.map _ (_ ++ [_])); rw [List.map_append]; refine leRL_snoc ?_ (lR _); (repeat' first|exact rfl|exact trivial|exact wR|exact lR _|apply aI); done) | (simp [pushN]; done) | (simp [pushN]; omega)
   have h2 : x.1 = 2 := by
    rcases hxo with h | h | h
    ·omega
    ·omega
    ·exact (mem_all.1 h).1
   obtain ⟨hxa, hkk⟩ := hkk h2
   obtain ⟨_, hpg, hix⟩ := mem_all.1 hxa
   have hrk := hrk h2
   have hlv : rank x < n := by unfold lvl at hn; rw [if_pos h2] at hn; omega
   have hil : (gateAt m x).ins.length ≤ 40 := by
    have : gateAt m x ∈ gatesM m x.2.1 := by
     unfold gateAt
     rw [List.getD_eq_getElem?_getD, List.getElem?_eq_getElem (by omega)]
     exact List.getElem_mem _
    unfold gatesM at this
    split at this
    ·exact hB.gates.2 _ this
    ·rw [List.getD_eq_getElem?_getD] at this
     cases hp : m.pages[x.2.1.toNat]? with
     | none => rw [hp] at this; exact absurd this (by show ¬ gateAt m x ∈ ([] : List Mg); simp)
     | some p => rw [hp] at this; exact (hB.pgates p (List.mem_of_getElem? hp)).2 _ this
   have hins : ∀ (j : Nat) (h : j < (gateAt m x).ins.length), InOk m x.2.1 (gateAt m x).ins[j] ∧ (kidsM m x)[j]? = some (resR m x.2.1 (gateAt m x).ins[j]) := fun j h => by
    have hg : gateAt m x ∈ gatesM m x.2.1 := by
     unfold gateAt
     rw [List.getD_eq_getElem?_getD, List.getElem?_eq_getElem (by omega)]
     exact List.getElem_mem _
    exact ⟨hM.inOk hpg (hM.ins_in hpg hg (List.getElem_mem h)), by simp [kidsM, h]⟩
   have hlen : (kidsM m x).length = (gateAt m x).ins.length := by simp [kidsM]
   have hmem : ∀ y ∈ kidsM m x, lvl rank y < n := fun y hy => by
    unfold lvl
    split
    ·rename_i e; have := hrk y hy e; omega
    ·omega
   have hR : compN m ve (n + 1) x st = if statK (gateAt m x).kind = false then ((true, 0), st)
    else if (compL (compN m ve n) (kidsM m x) st []).1.1 = true then ((true, 0), (compL (compN m ve n) (kidsM m x) st []).2)
    else pushN ve (compL (compN m ve n) (kidsM m x) st []).2 x ⟨kindN (gateAt m x).kind, (gateAt m x).k, (compL (compN m ve n) (kidsM m x) st []).1.2⟩ := by
    conv => lhs; unfold compN
    rw [if_neg h0, hv]
    exact if_neg h1
   have cK := c_nodeKind (gateAt m x).kind
   ((try dsimp only[awp]);(conv=>whnf))
   refine ADraw.frz [3] ?_
   (conv=>whnf)
   refine And.intro ⟨rfl, rfl⟩ ?_
   (conv=>whnf)
   refine ⟨[true, true, true, false, true, true, true, true, false, false], by kernel_rfl, ?_⟩
   (conv=>whnf)
   refine .gen _ _ (c_cgates m _ _ _ _ _ x.2.1 hpg) fun _ => ?_
   ((try dsimp only[awp]);(conv=>whnf))
   refine aidxD default hix ?_
   have hga : (gatesM m x.2.1).getD x.2.2.toNat default = gateAt m x := rfl
   rw [hga]
   generalize gateAt m x = g at *
   generalize kidsM m x = K at *
   ((try dsimp only[awp]);(conv=>whnf))
   refine .pure _ _ ?_ ⟨rfl, rfl⟩ cK fun _ => ?_
   ·exact leL_refl _
   ((try dsimp only[awp]);(conv=>whnf))
   refine And.intro (fun g1 => ?_) (fun g1 => ?_)
   ·rw [hR, if_pos (by simpa using g1)]
    ((try dsimp only[awp]);(conv=>whnf))
    refine ⟨⟨_, _, .refl _ _, ?_⟩⟩
    (conv=>whnf)
    refine ⟨?_, rfl, by simp [nextId], .mk ?_ (by simp [idsOk])⟩
    ·(repeat' first|exact rfl|exact trivial|exact wR|exact lR _|apply aI)
    ·(repeat' first|exact rfl|exact trivial|exact wR|exact lR _|apply aI)
     all_goals first | exact leM_refl _ | exact leM_nr _ _ | exact encM_bnd _ _ | (show leRL _ (List.map _ (_ ++ [_])); rw [List.map_append]; refine leRL_snoc ?_ (lR _); (repeat' first|exact rfl|exact trivial|exact wR|exact lR _|apply aI); done) | (simp [pushN]; done) | (simp [pushN]; omega)
   have g1 : statK g.kind = true := by simpa using g1
   rw [if_neg (by rw [g1]; simp)] at hR
   generalize hW : compN m ve n = W at *
   generalize hS : compL W K st [] = Rz at *
   ((try dsimp only[awp]);(conv=>whnf))
   refine LoopE.of <| LoopSpec.inv (.growF 4 [2] 1 [] (.ag [.int .i64 (kindN g.kind), .int .i64 g.k, .nils]) .nils _ rfl rfl (.inl ⟨rfl, rfl⟩) rfl (.refl _ _))
    (fun (q : Nat × CS × List Int) => q.1 ≤ g.ins.length ∧ compL W (K.drop q.1) q.2.1 q.2.2 = Rz ∧ q.2.2.length = q.1 ∧ CInv m q.2.1 ∧ (∀ z : Node, z.1 = 2 → rank x ≤ rank z → lookO st.es z = none → lookO q.2.1.es z = none))
    (fun q => [(78, .int .i64 q.1)]) (fun q => (6, .tok 1 q.1) :: (5, .gone) :: (4, .box (.ag [.int .i64 (kindN g.kind), .int .i64 g.k, .sl 1 (q.2.2.map (.int .i64)) (.own 6)])) :: (3, .gone) :: hpC m ve q.2.1) (fun q => g.ins.length - q.1) (0, st, []) ?_ (fun _ => rfl) ?_ ?_
   ·exact ⟨Nat.zero_le _, hS, rfl, hI, fun _ _ _ h => h⟩
   ·refine ⟨?_, .mk ?_ (by simp [idsOk])⟩
    ·(repeat' first|exact rfl|exact trivial|exact wR|exact lR _|apply aI)
    ·(repeat' first|exact rfl|exact trivial|exact wR|exact lR _|apply aI)
     all_goals first | exact leM_refl _ | exact encM_bnd _ _
   rintro ⟨j, sj, acc⟩ ⟨hj, hnj, hacc, hIj, hzj⟩ _
   dsimp only at hj hnj hacc hIj hzj
   ((try dsimp only[awp]);(conv=>whnf))
   refine And.intro (fun hh => ?_) (fun hh => ?_)
   ·have hjl : j < g.ins.length := by simpa using hh
    obtain ⟨hij, hKj⟩ := hins j hjl
    rw [drop_of_get? hKj] at hnj
    unfold compL at hnj
    have hyK := List.mem_of_getElem? hKj
    have hlj := hmem _ hyK
    have cw := ih x.2.1 g.ins[j] sj hpg hij hlj hIj
    have hIr := hInv (resR m x.2.1 g.ins[j]) sj hij.ok hIj
    have hyr := hrk _ hyK
    ((try dsimp only[awp]);(conv=>whnf))
    refine aidx hjl ?_
    generalize g.ins[j] = s2 at *
    generalize resR m x.2.1 s2 = y at *
    generalize hr0 : W y sj = r at *
    obtain ⟨⟨rb, ra⟩, rs⟩ := r
    dsimp only at hnj hIr cw
    cases rb with
    | true =>
      rw [if_pos rfl] at hnj
      rw [show compAV ((true, ra), rs) = .tup [.int .i64 ra, .ifc 45 (.int .i64 7)] from rfl] at cw
      ((try dsimp only[awp]);(conv=>whnf))
      refine .gen _ _ (FnH.frame [0, 1, 2] cw ⟨rfl, rfl, rfl, rfl⟩ ?_ ?_) fun _ => ?_
      ·(repeat' first|exact rfl|exact trivial|exact wR|exact lR _|apply aI)
       all_goals first | exact leM_rn _ _ | exact encM_bnd _ _
      ·(repeat' first|exact rfl|exact trivial|exact wR|exact lR _|apply aI)
      rw [hR, ← hnj, if_pos rfl]
      ((try dsimp only[awp]);(conv=>whnf))
      refine ⟨⟨_, _, .refl _ _, ?_⟩⟩
      (conv=>whnf)
      refine ⟨?_, rfl, by simp [nextId], .mk ?_ (by simp [idsOk])⟩
      ·(repeat' first|exact rfl|exact trivial|exact wR|exact lR _|apply aI)
      ·(repeat' first|exact rfl|exact trivial|exact wR|exact lR _|apply aI)
       all_goals first | exact leM_refl _ | exact leM_nr _ _ | exact encM_bnd _ _ | (show leRL _ (List.map _ (_ ++ [_])); rw [List.map_append]; refine leRL_snoc ?_ (lR _); (repeat' first|exact rfl|exact trivial|exact wR|exact lR _|apply aI); done) | (simp [pushN]; done) | (simp [pushN]; omega)
    | false =>
      rw [if_neg (by simp)] at hnj
      rw [show compAV ((false, ra), rs) = .tup [.int .i64 ra, .nilI] from rfl] at cw
      ((try dsimp only[awp]);(conv=>whnf))
      refine .gen _ _ (FnH.frame [0, 1, 2] cw ⟨rfl, rfl, rfl, rfl⟩ ?_ ?_) fun _ => ?_
      ·(repeat' first|exact rfl|exact trivial|exact wR|exact lR _|apply aI)
       all_goals first | exact leM_rn _ _ | exact encM_bnd _ _
      ·(repeat' first|exact rfl|exact trivial|exact wR|exact lR _|apply aI)
      ((try dsimp only[awp]);(conv=>whnf))
      refine ⟨by rw [List.length_map, hacc], .mk (by simp [maxL]; omega) (by simp; omega) ?_⟩
      ((try dsimp only[awp]);(conv=>whnf))
      (refine ⟨inr64 (by omega) (by omega),?_⟩;(conv=>whnf))
      refine ⟨(j + 1, rs, acc ++ [ra]), ?_, ?_, ?_⟩
      ·exact ⟨hjl, hnj, by simp [hacc], hIr.1, fun z hz hxz hs => hIr.2 z hz (fun e => by have := hyr e; omega) (hzj z hz hxz hs)⟩
      ·refine ⟨?_, .mk ?_ (by simp [idsOk])⟩
       ·(repeat' first|exact rfl|exact trivial|exact wR|exact lR _|apply aI)
       ·(repeat' first|exact rfl|exact trivial|exact wR|exact lR _|apply aI)
        all_goals first | exact leM_nr _ _ | exact encM_bnd _ _ | (show leRL _ (List.map _ (_ ++ [_])); rw [List.map_append]; exact lR _) | (simp [hacc]; done) | (simp; omega)
      ·show g.ins.length - (j + 1) < g.ins.length - j
       omega
   have hjl : K.length ≤ j := by (have : ¬ j < g.ins.length := by simpa using hh); omega
   rw [List.drop_eq_nil_of_le hjl] at hnj
   unfold compL at hnj
   rw [← hnj, if_neg (by simp)] at hR
   rw [hR]
   have hshort := hIj.short hB
   ((try dsimp only[awp]);(conv=>whnf))
   ((try dsimp only[awp]);(conv=>whnf))
   (refine ADraw.auto (by kernel_rfl) ?_;(conv=>whnf))
   refine ⟨by rw [List.length_map], .mk (by simp [maxL]; omega) (by simp; omega) ?_⟩
   ((try dsimp only[awp]);(conv=>whnf))
   (refine ADraw.auto (by kernel_rfl) ?_;(conv=>whnf))
   refine ⟨inr64 (by simp; omega) (by simp; omega), ?_⟩
   ((try dsimp only[awp]);(conv=>whnf))
   refine ⟨inr64 (by simp; omega) (by simp; omega), ?_⟩
   ((try dsimp only[awp]);(conv=>whnf))
   refine aupd_eq (v := ve + sj.nodes.length) (by simp; omega) ?_
   ((try dsimp only[awp]);(conv=>whnf))
   (refine ADraw.auto (by kernel_rfl) ?_;(conv=>whnf))
   refine alook_put ?_
   ((try dsimp only[awp]);(conv=>whnf))
   refine ⟨⟨_, _, .refl _ _, ?_⟩⟩
   (conv=>whnf)
   refine ⟨?_, rfl, by simp [nextId], .mk ?_ (by simp [idsOk])⟩
   ·(repeat' first|exact rfl|exact trivial|exact wR|exact lR _|apply aI)
   ·(repeat' first|exact rfl|exact trivial|exact wR|exact lR _|apply aI)
    all_goals first | exact leM_refl _ | exact leM_nr _ _ | exact encM_bnd _ _ | (show leRL _ (List.map _ (_ ++ [_])); rw [List.map_append]; refine leRL_snoc ?_ (lR _); (repeat' first|exact rfl|exact trivial|exact wR|exact lR _|apply aI); done) | (simp [pushN]; done) | (simp [pushN]; omega)
end S

open Go Go.AL Go.Proofs
namespace S
set_option maxRecDepth 100000

theorem countP_lt {α : Type} {p q : α → Bool} : ∀ {l : List α}, (∀ x ∈ l, p x = true → q x = true) → (∃ y ∈ l, q y = true ∧ p y = false) → l.countP p < l.countP q
 | [], _, h => by obtain ⟨y, hy, _⟩ := h; simp at hy
 | x :: l, h1, h2 => by
   simp only [List.countP_cons]
   have hle : l.countP p ≤ l.countP q := List.countP_mono_left fun y hy => h1 y (by simp [hy])
   obtain ⟨y, hy, hq, hp⟩ := h2
   rcases List.mem_cons.1 hy with rfl | hy
   ·rw [if_pos hq, if_neg (by rw [hp]; simp)]; omega
   ·have ih := countP_lt (l := l) (fun z hz => h1 z (by simp [hz])) ⟨y, hy, hq, hp⟩
    have := h1 x (by simp)
    split
    ·rename_i hpx; rw [if_pos (this hpx)]; omega
    ·omega

theorem ok_gateC {m : Md} {x : Node} (h : okN m x) (h2 : x.1 = 2) : x ∈ allNodes m := by
 rcases h with h | h | h
 ·omega
 ·omega
 ·exact h

theorem rank_bd {m : Md} (hc : ClosedM m) {rank : Node → Nat} (hr : RankM m rank) : ∃ rank', RankM m rank' ∧ ∀ x, rank' x ≤ (allNodes m).length := by
 refine ⟨fun x => (allNodes m).countP fun z => decide (rank z < rank x), ?_, fun x => List.countP_le_length⟩
 intro x hx h2 y hy hy2
 have hxa := (okN_kids hc hx h2)
 have hlt := hr x hx h2 y hy hy2
 refine countP_lt (fun z _ h => ?_) ⟨y, ?_, ?_, ?_⟩
 ·have := of_decide_eq_true h
  exact decide_eq_true (by omega)
 ·exact ok_gateC (hxa.2 y hy) hy2
 ·exact decide_eq_true hlt
 ·exact decide_eq_false (by omega)
def fuelC (m : Md) : Nat := (allNodes m).length + 2

theorem MOk.rank {m : Md} (hM : MOk m) : ∃ rank, RankM m rank ∧ ∀ x, lvl rank x < fuelC m := by
 obtain ⟨rank, hr⟩ := cyc_rank hM.closed hM.cyc
 obtain ⟨rank', hr', hb⟩ := rank_bd hM.closed hr
 refine ⟨rank', hr', fun x => ?_⟩
 have := hb x
 unfold lvl fuelC
 split <;> omega

def compTop (m : Md) (s : Str) : (Bool × Int) × CS := compN m m.evs.length (fuelC m) (resR m (-1) s) ⟨[], []⟩

def atR (m : Md) (s : Str) : Fo × Int :=
 if (inputR m (-1) s).2 ≠ 0 then (⟨0, [], 0⟩, (inputR m (-1) s).2) else if (compTop m s).1.1 = true then (⟨0, [], 0⟩, 7)
 else (⟨m.evs.length, (compTop m s).2.nodes, (compTop m s).1.2⟩, 0)

abbrev atAV (r : Fo × Int) : AV := .tup [r.1.av, errAV r.2]

theorem CInv.nil (m : Md) : CInv m ⟨[], []⟩ := ⟨rfl, by simp, by simp⟩

theorem c_at (m : Md) (s : Str) (hC : MdC m) (hB : MdB m) (R : AV) (hR : R = atAV (atR m s)) : FnH Try.prog 37 [m.av, .str s] [] R [] := by
 have ci := c_Input m (-1) s hC hB _ rfl
 have bE := errAV_bnd (inputR m (-1) s).2
 by_cases hi : (inputR m (-1) s).2 ≠ 0
 ·rw [show atR m s = (⟨0, [], 0⟩, (inputR m (-1) s).2) from if_pos hi] at hR
  subst hR
  rw [errAV_ne hi] at ci
  rw [show atAV (⟨0, [], 0⟩, (inputR m (-1) s).2) = .tup [(⟨0, [], 0⟩ : Fo).av, .ifc 45 (.int .i64 (inputR m (-1) s).2)] from by unfold atAV; rw [errAV_ne hi]]
  generalize inputR m (-1) s = q at *
  obtain ⟨⟨q1, q2, q3⟩, e⟩ := q
  refine FnH.intro lay mixed Try.func37 (by kernel_rfl) rfl (by kernel_rfl) rfl fun hok => ?_
  ((try dsimp only[argC,succC]);(try dsimp only[awp]);(conv=>whnf))
  refine .pure _ _ ?_ ⟨rfl, rfl⟩ ci fun _ => ?_
  ·exact leL_refl _
  ((try dsimp only[awp]);(conv=>whnf))
  refine ⟨⟨_, _, .refl _ _, ?_⟩⟩
  (conv=>whnf)
  refine ⟨?_, rfl, by simp [nextId], .mk ?_ (by simp [idsOk])⟩
  ·(repeat' first|exact rfl|exact trivial|exact wR|exact lR _|apply aI)
  ·(repeat' first|exact rfl|exact trivial|exact wR|exact lR _|apply aI)
 have hi : (inputR m (-1) s).2 = 0 := by simpa using hi
 have hin0 : checkM m = 0 ∧ isInR m (-1) s = true := by
  unfold inputR at hi
  split at hi
  ·rename_i h; exact absurd hi h
  rename_i h0
  rw [if_neg (by omega), if_neg (by omega)] at hi
  split at hi
  ·cases hi
  ·rename_i h; exact ⟨by simpa using h0, by simpa using h⟩
 have hM := checkM_ok hin0.1
 have hin := hM.inOk (.inl rfl) hin0.2
 obtain ⟨rank, hr, hb⟩ := hM.rank
 have cw := c_cinput m hM hB rank hr (fuelC m) (-1) s ⟨[], []⟩ (.inl rfl) hin (hb _) (.nil m)
 rw [show compN m m.evs.length (fuelC m) (resR m (-1) s) ⟨[], []⟩ = compTop m s from rfl] at cw
 rw [hi, errAV_zero] at ci
 have hR2 : atR m s = if (compTop m s).1.1 = true then (⟨0, [], 0⟩, 7) else (⟨m.evs.length, (compTop m s).2.nodes, (compTop m s).1.2⟩, 0) := if_neg (by rw [hi]; simp)
 rw [hR2] at hR
 clear hR2 hi
 generalize inputR m (-1) s = q at *
 obtain ⟨⟨q1, q2, q3⟩, e⟩ := q
 generalize compTop m s = r at *
 obtain ⟨⟨rb, ra⟩, rn, re⟩ := r
 dsimp only at hR
 have cv : Cv [] [(3, .box (.ag [m.av, .ag [.int .i64 m.evs.length, .nils, .int .i64 0], .mp 2])), (2, .amap shN []), (1, .box (.ag [.int .i64 0, .nils, .int .i64 0])), (0, .box m.av)] [] [(4, .tok 3 0), (3, .box (.ag [m.av, .ag [.int .i64 m.evs.length, .sl 3 [] (.own 4), .int .i64 0], .mp 2])), (2, .amap shN []), (1, .box (.ag [.int .i64 0, .nils, .int .i64 0])), (0, .box m.av)] :=
  .growF 3 [1, 1] 3 [] (.ag [m.av, .ag [.int .i64 m.evs.length, .nils, .int .i64 0], .mp 2]) .nils _ rfl rfl (.inl ⟨rfl, rfl⟩) rfl (.refl _ _)
 cases rb with
 | true =>
   rw [if_pos rfl] at hR
   subst hR
   rw [show compAV ((true, ra), ⟨rn, re⟩) = .tup [.int .i64 ra, .ifc 45 (.int .i64 7)] from rfl] at cw
   refine FnH.intro lay mixed Try.func37 (by kernel_rfl) rfl (by kernel_rfl) rfl fun hok => ?_
   ((try dsimp only[argC,succC]);(try dsimp only[awp]);(conv=>whnf))
   refine .pure _ _ ?_ ⟨rfl, rfl⟩ ci fun _ => ?_
   ·exact leL_refl _
   ((try dsimp only[awp]);(conv=>whnf))
   rw [show (((m.evs.map Ev.av).length : Nat) : Int) = (m.evs.length : Int) by simp]
   refine .gen _ _ (FnH.pre cv (FnH.frame [2, 3, 4] cw ⟨rfl, rfl, rfl, rfl⟩ ?_ ?_)) fun _ => ?_
   ·(repeat' first|exact rfl|exact trivial|exact wR|exact lR _|apply aI)
   ·(repeat' first|exact rfl|exact trivial|exact wR|exact lR _|apply aI)
   ((try dsimp only[awp]);(conv=>whnf))
   refine ⟨⟨_, _, .refl _ _, ?_⟩⟩
   (conv=>whnf)
   refine ⟨?_, rfl, by simp [nextId], .mk ?_ (by simp [idsOk])⟩
   ·(repeat' first|exact rfl|exact trivial|exact wR|exact lR _|apply aI)
   ·(repeat' first|exact rfl|exact trivial|exact wR|exact lR _|apply aI)
 | false =>
   rw [if_neg (by simp)] at hR
   subst hR
   rw [show compAV ((false, ra), ⟨rn, re⟩) = .tup [.int .i64 ra, .nilI] from rfl] at cw
   refine FnH.intro lay mixed Try.func37 (by kernel_rfl) rfl (by kernel_rfl) rfl fun hok => ?_
   ((try dsimp only[argC,succC]);(try dsimp only[awp]);(conv=>whnf))
   refine .pure _ _ ?_ ⟨rfl, rfl⟩ ci fun _ => ?_
   ·exact leL_refl _
   ((try dsimp only[awp]);(conv=>whnf))
   rw [show (((m.evs.map Ev.av).length : Nat) : Int) = (m.evs.length : Int) by simp]
   refine .gen _ _ (FnH.pre cv (FnH.frame [2, 3, 4] cw ⟨rfl, rfl, rfl, rfl⟩ ?_ ?_)) fun _ => ?_
   ·(repeat' first|exact rfl|exact trivial|exact wR|exact lR _|apply aI)
   ·(repeat' first|exact rfl|exact trivial|exact wR|exact lR _|apply aI)
   ((try dsimp only[awp]);(conv=>whnf))
   refine ⟨⟨_, _, .refl _ _, ?_⟩⟩
   (conv=>whnf)
   refine ⟨?_, rfl, by simp [nextId], .mk ?_ (by simp [idsOk])⟩
   ·(repeat' first|exact rfl|exact trivial|exact wR|exact lR _|apply aI)
   ·(repeat' first|exact rfl|exact trivial|exact wR|exact lR _|apply aI)

theorem errAV_two (e : Int) : errAV e = .nilI ∨ ∃ c : Int, errAV e = .ifc 45 (.int .i64 c) := by
 by_cases h : e = 0
 ·left; rw [h]; rfl
 ·right; exact ⟨e, errAV_ne h⟩

theorem c_At (m : Md) (s : Str) (hC : MdC m) (hB : MdB m) (R : AV) (hR : R = atAV (atR m s)) : FnH Try.prog 17 [m.av, .str s] [] R [] := by
 have ca := c_at m s hC hB R hR
 subst hR
 unfold atAV at *
 have hE := errAV_two (atR m s).2
 generalize errAV (atR m s).2 = E at *
 generalize (atR m s).1 = f at *
 rcases hE with rfl | ⟨c, rfl⟩
 all_goals
  refine FnH.intro lay mixed Try.func17 (by kernel_rfl) rfl (by kernel_rfl) rfl fun hok => ?_
  ((try dsimp only[argC,succC]);(try dsimp only[awp]);(conv=>whnf))
  refine .pure _ _ ?_ ⟨rfl, rfl⟩ ca fun _ => ?_
  ·exact leL_refl _
  ((try dsimp only[awp]);(conv=>whnf))
  refine ⟨⟨_, _, .refl _ _, ?_⟩⟩
  (conv=>whnf)
  refine ⟨?_, rfl, by simp [nextId], .mk ?_ (by simp [idsOk])⟩
  ·(repeat' first|exact rfl|exact trivial|exact wR|exact lR _|apply aI)
  ·(repeat' first|exact rfl|exact trivial|exact wR|exact lR _|apply aI)

def staticR (m : Md) : Fo × Int := if checkM m ≠ 0 then (⟨0, [], 0⟩, checkM m) else atR m m.top

theorem c_Static (m : Md) (hC : MdC m) (hB : MdB m) (R : AV) (hR : R = atAV (staticR m)) : FnH Try.prog 10 [m.av] [] R [] := by
 have cc := c_mCheck m hC hB _ rfl
 by_cases h0 : checkM m ≠ 0
 ·rw [errAV_ne h0] at cc
  rw [show staticR m = (⟨0, [], 0⟩, checkM m) from if_pos h0] at hR
  rw [show atAV (⟨0, [], 0⟩, checkM m) = .tup [(⟨0, [], 0⟩ : Fo).av, .ifc 45 (.int .i64 (checkM m))] from by unfold atAV; rw [errAV_ne h0]] at hR
  subst hR
  refine FnH.intro lay mixed Try.func10 (by kernel_rfl) rfl (by kernel_rfl) rfl fun hok => ?_
  ((try dsimp only[argC,succC]);(try dsimp only[awp]);(conv=>whnf))
  refine .pure _ _ ?_ ⟨rfl, rfl⟩ cc fun _ => ?_
  ·exact leL_refl _
  ((try dsimp only[awp]);(conv=>whnf))
  refine ⟨⟨_, _, .refl _ _, ?_⟩⟩
  (conv=>whnf)
  refine ⟨?_, rfl, by simp [nextId], .mk ?_ (by simp [idsOk])⟩
  ·(repeat' first|exact rfl|exact trivial|exact wR|exact lR _|apply aI)
  ·(repeat' first|exact rfl|exact trivial|exact wR|exact lR _|apply aI)
 have h0 : checkM m = 0 := by simpa using h0
 rw [h0, errAV_zero] at cc
 have ca := c_at m m.top hC hB _ rfl
 rw [show staticR m = atR m m.top from if_neg (by rw [h0]; simp)] at hR
 subst hR
 unfold atAV at *
 have hE := errAV_two (atR m m.top).2
 generalize errAV (atR m m.top).2 = E at *
 generalize (atR m m.top).1 = f at *
 rcases hE with rfl | ⟨c, rfl⟩
 all_goals
  refine FnH.intro lay mixed Try.func10 (by kernel_rfl) rfl (by kernel_rfl) rfl fun hok => ?_
  ((try dsimp only[argC,succC]);(try dsimp only[awp]);(conv=>whnf))
  refine .pure _ _ ?_ ⟨rfl, rfl⟩ cc fun _ => ?_
  ·exact leL_refl _
  ((try dsimp only[awp]);(conv=>whnf))
  refine .pure _ _ ?_ ⟨rfl, rfl⟩ ca fun _ => ?_
  ·exact leL_refl _
  ((try dsimp only[awp]);(conv=>whnf))
  refine ⟨⟨_, _, .refl _ _, ?_⟩⟩
  (conv=>whnf)
  refine ⟨?_, rfl, by simp [nextId], .mk ?_ (by simp [idsOk])⟩
  ·(repeat' first|exact rfl|exact trivial|exact wR|exact lR _|apply aI)
  ·(repeat' first|exact rfl|exact trivial|exact wR|exact lR _|apply aI)
end S

open Go Go.AL Go.Proofs
namespace S
set_option maxRecDepth 100000

def shortX (x : Rat) : Prop := x.num.length ≤ 40 ∧ x.den.length ≤ 40

structure MdX (m : Md) : Prop where
 evs : ∀ x ∈ m.evs, shortX x.p ∧ shortX x.fail ∧ shortX x.repair
 gates : ∀ x ∈ m.gates, shortX x.dorm
 pages : ∀ p ∈ m.pages, ∀ x ∈ p.gates, shortX x.dorm
 grs : ∀ x ∈ m.grs, ∀ f ∈ x.fac, shortX f
 phs : ∀ x ∈ m.phs, ∀ v ∈ x.vals, shortX v.p

end S

open Go Go.AL Go.Proofs
namespace S
set_option maxRecDepth 100000

end S

open Go Go.AL Go.Proofs
namespace S
set_option maxRecDepth 100000

end S

open Go Go.AL Go.Proofs
namespace S
set_option maxRecDepth 100000

end S

open Go Go.AL Go.Proofs
namespace S
set_option maxRecDepth 100000

theorem c_Num (e : Int) : FnH Try.prog 20 [errAV e] [] (.int .i64 e) [] := by
 by_cases h0 : e = 0
 ·subst h0
  rw [errAV_zero]
  refine FnH.intro lay mixed Try.func20 (by kernel_rfl) rfl (by kernel_rfl) rfl fun hok => ?_
  ((try dsimp only[argC,succC]);(try dsimp only[awp]);(conv=>whnf))
  (refine fM ?_;(conv=>whnf);refine ⟨?_,rfl⟩;(conv=>whnf))
  (repeat' first|exact rfl|exact trivial|exact wR|exact lR _|apply aI)
 ·rw [errAV_ne h0]
  refine FnH.intro lay mixed Try.func20 (by kernel_rfl) rfl (by kernel_rfl) rfl fun hok => ?_
  ((try dsimp only[argC,succC]);(try dsimp only[awp]);(conv=>whnf))
  (refine fM ?_;(conv=>whnf);refine ⟨?_,rfl⟩;(conv=>whnf))
  (repeat' first|exact rfl|exact trivial|exact wR|exact lR _|apply aI)

end S

open Go Go.AL Go.Proofs
namespace S
set_option maxRecDepth 100000

end S

open Go Go.AL Go.Proofs
namespace S
set_option maxRecDepth 100000

end S

open Go Go.AL Go.Proofs
namespace S
set_option maxRecDepth 100000

end S

open Go Go.AL Go.Proofs
namespace S
set_option maxRecDepth 100000

end S

open Go Go.AL Go.Proofs
namespace S
set_option maxRecDepth 100000

end S

open Go Go.AL Go.Proofs
namespace S
set_option maxRecDepth 100000

end S

open Go Go.AL Go.Proofs
namespace S
set_option maxRecDepth 100000

end S

open Go Go.AL Go.Proofs
namespace S
set_option maxRecDepth 100000

end S

open Go Go.AL Go.Proofs
namespace S
set_option maxRecDepth 100000

end S

open Go Go.AL Go.Proofs
namespace S
set_option maxRecDepth 100000

end S

open Go Go.AL Go.Proofs
namespace S
set_option maxRecDepth 100000

end S

open Go Go.AL Go.Proofs
namespace S
set_option maxRecDepth 100000

end S

open Go Go.AL Go.Proofs
namespace S
set_option maxRecDepth 100000

end S

open Go Go.AL Go.Proofs
namespace S
set_option maxRecDepth 100000

end S

open Go Go.AL Go.Proofs
namespace S
set_option maxRecDepth 100000

end S

open Go Go.AL Go.Proofs
namespace S
set_option maxRecDepth 100000

end S

open Go Go.AL Go.Proofs
namespace S
set_option maxRecDepth 100000

end S

open Go Go.AL Go.Proofs
namespace S
set_option maxRecDepth 100000

end S

open Go Go.AL Go.Proofs
namespace S
set_option maxRecDepth 100000

end S

open Go Go.AL Go.Proofs
namespace S
set_option maxRecDepth 100000

end S

open Go Go.AL Go.Proofs
namespace S
set_option maxRecDepth 100000

end S

open Go Go.AL Go.Proofs
namespace S

theorem list_of {α : Type} {f : α → AV} : ∀ {l : List AV}, (∀ x ∈ l, ∃ y, x = f y) → ∃ m : List α, l = m.map f
 | [], _ => ⟨[], rfl⟩
 | x :: l, h => by
   obtain ⟨y, rfl⟩ := h x (by simp)
   obtain ⟨m, rfl⟩ := list_of (l := l) fun z hz => h z (by simp [hz])
   exact ⟨y :: m, rfl⟩

theorem ints_of {sz : Nat} {k : IntKind} {A : AV} (h : (Sh.sl sz (.int k)).In A) : ∃ l : List Int, A = .sl sz (l.map (.int k)) .no := by
 simp only [Sh.In] at h
 obtain ⟨l, rfl, hl⟩ := h
 obtain ⟨m, rfl⟩ := list_of hl
 exact ⟨m, rfl⟩

abbrev shRat : Sh := .st [.bool, .sl 1 (.int .u32), .sl 1 (.int .u32)]
theorem Rat.of {A : AV} (h : shRat.In A) : ∃ r : Rat, A = r.av := by
 simp only [Sh.In, InL] at h
 obtain ⟨_, rfl, _, _, rfl, ⟨b, rfl⟩, _, _, rfl, h1, _, _, rfl, h2, rfl⟩ := h
 obtain ⟨n, rfl⟩ := ints_of (sz := 1) (k := .u32) (by simp only [Sh.In]; exact h1)
 obtain ⟨d, rfl⟩ := ints_of (sz := 1) (k := .u32) (by simp only [Sh.In]; exact h2)
 exact ⟨⟨b, n, d⟩, rfl⟩

theorem rats_of {A : AV} (h : (Sh.sl 3 shRat).In A) : ∃ l : List Rat, A = .sl 3 (l.map Rat.av) .no := by
 unfold Sh.In at h
 obtain ⟨l, rfl, hl⟩ := h
 obtain ⟨m, rfl⟩ := list_of fun x hx => Rat.of (hl x hx)
 exact ⟨m, rfl⟩

theorem int_of {k : IntKind} {A : AV} (h : (Sh.int k).In A) : ∃ n : Int, A = .int k n := by
 simpa only [Sh.In] using h

theorem str_of {A : AV} (h : Sh.str.In A) : ∃ s : List UInt8, A = .str s := by
 simpa only [Sh.In] using h
end S

open Go Go.AL Go.Proofs
namespace S
set_option maxRecDepth 100000

theorem sl_of {α : Type} {f : α → AV} {sh : Sh} {sz : Nat} {A : AV} (hf : ∀ x, sh.In x → ∃ y, x = f y) (h : (Sh.sl sz sh).In A) : ∃ l : List α, A = .sl sz (l.map f) .no := by
 unfold Sh.In at h
 obtain ⟨l, rfl, hl⟩ := h
 obtain ⟨m, rfl⟩ := list_of fun x hx => hf x (hl x hx)
 exact ⟨m, rfl⟩

abbrev shEv : Sh := .st [.str, shRat, shRat, shRat, .int .i64]
abbrev shHs : Sh := .st [.str, .bool]
abbrev shMg : Sh := .st [.str, .int .i64, .int .i64, .sl 1 .str, shRat]
abbrev shPg : Sh := .st [.str, .str, .sl 7 shMg]
abbrev shGr : Sh := .st [.str, .int .i64, .sl 1 .str, .sl 3 shRat]
abbrev shPv : Sh := .st [.str, shRat]
abbrev shPh : Sh := .st [.str, .str, .sl 4 shPv]
abbrev shMd : Sh := .st [.str, .str, .sl 11 shEv, .sl 2 shHs, .sl 7 shMg, .sl 3 shPg, .sl 4 shGr, .sl 3 shPh]

theorem strs_of {A : AV} (h : (Sh.sl 1 .str).In A) : ∃ l : List Str, A = sL l := sl_of (f := AV.str) (fun _ hx => str_of hx) h

theorem Ev.of {A : AV} (h : shEv.In A) : ∃ x : Ev, A = x.av := by
 unfold Sh.In at h
 simp only [InL] at h
 obtain ⟨_, rfl, _, _, rfl, h0, _, _, rfl, h1, _, _, rfl, h2, _, _, rfl, h3, _, _, rfl, h4, rfl⟩ := h
 obtain ⟨a, rfl⟩ := str_of h0
 obtain ⟨b, rfl⟩ := Rat.of h1
 obtain ⟨c, rfl⟩ := Rat.of h2
 obtain ⟨d, rfl⟩ := Rat.of h3
 obtain ⟨e, rfl⟩ := int_of h4
 exact ⟨⟨a, b, c, d, e⟩, rfl⟩

theorem Hs.of {A : AV} (h : shHs.In A) : ∃ x : Hs, A = x.av := by
 unfold Sh.In at h
 simp only [InL] at h
 obtain ⟨_, rfl, _, _, rfl, h0, _, _, rfl, h1, rfl⟩ := h
 obtain ⟨a, rfl⟩ := str_of h0
 simp only [Sh.In] at h1
 obtain ⟨b, rfl⟩ := h1
 exact ⟨⟨a, b⟩, rfl⟩

theorem Mg.of {A : AV} (h : shMg.In A) : ∃ x : Mg, A = x.av := by
 unfold Sh.In at h
 simp only [InL] at h
 obtain ⟨_, rfl, _, _, rfl, h0, _, _, rfl, h1, _, _, rfl, h2, _, _, rfl, h3, _, _, rfl, h4, rfl⟩ := h
 obtain ⟨a, rfl⟩ := str_of h0
 obtain ⟨b, rfl⟩ := int_of h1
 obtain ⟨c, rfl⟩ := int_of h2
 obtain ⟨d, rfl⟩ := strs_of h3
 obtain ⟨e, rfl⟩ := Rat.of h4
 exact ⟨⟨a, b, c, d, e⟩, rfl⟩

theorem Pg.of {A : AV} (h : shPg.In A) : ∃ x : Pg, A = x.av := by
 unfold Sh.In at h
 simp only [InL] at h
 obtain ⟨_, rfl, _, _, rfl, h0, _, _, rfl, h1, _, _, rfl, h2, rfl⟩ := h
 obtain ⟨a, rfl⟩ := str_of h0
 obtain ⟨b, rfl⟩ := str_of h1
 obtain ⟨c, rfl⟩ := sl_of (f := Mg.av) (fun _ hx => Mg.of hx) h2
 exact ⟨⟨a, b, c⟩, rfl⟩

theorem Gr.of {A : AV} (h : shGr.In A) : ∃ x : Gr, A = x.av := by
 unfold Sh.In at h
 simp only [InL] at h
 obtain ⟨_, rfl, _, _, rfl, h0, _, _, rfl, h1, _, _, rfl, h2, _, _, rfl, h3, rfl⟩ := h
 obtain ⟨a, rfl⟩ := str_of h0
 obtain ⟨b, rfl⟩ := int_of h1
 obtain ⟨c, rfl⟩ := strs_of h2
 obtain ⟨d, rfl⟩ := rats_of h3
 exact ⟨⟨a, b, c, d⟩, rfl⟩

theorem Pv.of {A : AV} (h : shPv.In A) : ∃ x : Pv, A = x.av := by
 unfold Sh.In at h
 simp only [InL] at h
 obtain ⟨_, rfl, _, _, rfl, h0, _, _, rfl, h1, rfl⟩ := h
 obtain ⟨a, rfl⟩ := str_of h0
 obtain ⟨b, rfl⟩ := Rat.of h1
 exact ⟨⟨a, b⟩, rfl⟩

theorem Ph.of {A : AV} (h : shPh.In A) : ∃ x : Ph, A = x.av := by
 unfold Sh.In at h
 simp only [InL] at h
 obtain ⟨_, rfl, _, _, rfl, h0, _, _, rfl, h1, _, _, rfl, h2, rfl⟩ := h
 obtain ⟨a, rfl⟩ := str_of h0
 obtain ⟨b, rfl⟩ := str_of h1
 obtain ⟨c, rfl⟩ := sl_of (f := Pv.av) (fun _ hx => Pv.of hx) h2
 exact ⟨⟨a, b, c⟩, rfl⟩

theorem Md.of {A : AV} (h : shMd.In A) : ∃ x : Md, A = x.av := by
 unfold Sh.In at h
 simp only [InL] at h
 obtain ⟨_, rfl, _, _, rfl, h0, _, _, rfl, h1, _, _, rfl, h2, _, _, rfl, h3, _, _, rfl, h4, _, _, rfl, h5, _, _, rfl, h6, _, _, rfl, h7, rfl⟩ := h
 obtain ⟨a, rfl⟩ := str_of h0
 obtain ⟨b, rfl⟩ := str_of h1
 obtain ⟨c, rfl⟩ := sl_of (f := Ev.av) (fun _ hx => Ev.of hx) h2
 obtain ⟨d, rfl⟩ := sl_of (f := Hs.av) (fun _ hx => Hs.of hx) h3
 obtain ⟨e, rfl⟩ := sl_of (f := Mg.av) (fun _ hx => Mg.of hx) h4
 obtain ⟨f, rfl⟩ := sl_of (f := Pg.av) (fun _ hx => Pg.of hx) h5
 obtain ⟨g, rfl⟩ := sl_of (f := Gr.av) (fun _ hx => Gr.of hx) h6
 obtain ⟨i, rfl⟩ := sl_of (f := Ph.av) (fun _ hx => Ph.of hx) h7
 exact ⟨⟨a, b, c, d, e, f, g, i⟩, rfl⟩

structure Ak where
 page : Int
 inp : Str
 old : Str
 new : Str

end S

open Go Go.AL Go.Proofs
namespace S
set_option maxRecDepth 100000

end S

open Go Go.AL Go.Proofs
namespace S
set_option maxRecDepth 100000

end S

open Go Go.AL Go.Proofs
namespace S
set_option maxRecDepth 100000

end S

open Go Go.AL Go.Proofs
namespace S
set_option maxRecDepth 100000

inductive Reach (m : Md) (r : Node) : Node → Prop
 | root : Reach m r r
 | step {x y : Node} (h : Reach m r x) (h2 : x.1 = 2) (hy : y ∈ kidsM m x) : Reach m r y

inductive RI (us : List (List Int)) (f : Nat) : Nat → Prop
 | root : RI us f f
 | step {i : Nat} {k : Int} (h : RI us f i) (hk : k ∈ us.getD i []) : RI us f k.toNat

theorem set_same {d : List Bool} {k : Nat} : d.set k (d.getD k false) = d := by
 by_cases h : k < d.length
 ·rw [getD_lt' h]; exact List.set_getElem_self h
 ·exact List.set_eq_of_length_le (by omega)

end S

open Go Go.AL Go.Proofs
namespace S
set_option maxRecDepth 100000

end S

open Go Go.AL Go.Proofs
namespace S
set_option maxRecDepth 100000

end S

open Go Go.AL Go.Proofs
namespace S
set_option maxRecDepth 100000

end S

open Go Go.AL Go.Proofs
namespace S
set_option maxRecDepth 100000

abbrev zB : AV := .ag [.ag [.int .i64 0, .nils, .int .i64 0], .nils, .nils]

end S

open Go Go.AL Go.Proofs
namespace S
set_option maxRecDepth 100000

theorem intsSelf (a : List Int) : FnH Try.prog 48 [iL a, iL a] [] .tt [] := (c_ints a a).weak (R' := .tt) (by show decide _ = true; simp)

theorem c_form1 (f : Fo) : FnH Try.prog 21 [f.av, f.av] [] .tt [] := by
 refine FnH.intro lay mixed Try.func21 (by kernel_rfl) rfl (by kernel_rfl) rfl fun hok => ?_
 have ha : f.nodes.length ≤ 9223372036854775807 := by
  have := hok.1
  simp only [Ok, OkL, maxL, List.length_map] at this
  exact this.2.1.1
 ((try dsimp only[argC,succC]);(try dsimp only[awp]);(conv=>whnf))
 refine And.intro (fun h => absurd rfl h) (fun _ => ?_)
 ((try dsimp only[awp]);(conv=>whnf))
 refine And.intro (fun h => absurd rfl h) (fun _ => ?_)
 ((try dsimp only[awp]);(conv=>whnf))
 refine And.intro (fun h => absurd rfl h) (fun _ => ?_)
 ((try dsimp only[awp]);(conv=>whnf))
 refine LoopE.of <| LoopSpec.inv (.refl _ _) (fun (i : Nat) => i ≤ f.nodes.length) (fun (i : Nat) => [(30, .int .i64 i)]) (fun _ => _) (fun (i : Nat) => f.nodes.length - i) 0 ?_ (fun _ => rfl) ?_ ?_
 ·exact Nat.zero_le _
 ·(repeat' first|exact rfl|exact trivial|exact wR|exact lR _|apply aI)
 intro i hi _
 ((try dsimp only[awp]);(conv=>whnf))
 refine And.intro (fun h1 => ?_) (fun h1 => ?_)
 ·have hlt : i < f.nodes.length := by simpa using h1
  ((try dsimp only[awp]);(conv=>whnf))
  (refine ADraw.auto (by kernel_rfl) ?_;(conv=>whnf))
  refine aidx hlt ?_
  (conv=>whnf)
  refine aidx hlt ?_
  (conv=>whnf)
  refine And.intro (fun h => absurd rfl h) (fun _ => ?_)
  (conv=>whnf)
  refine aidx hlt ?_
  (conv=>whnf)
  refine aidx hlt ?_
  (conv=>whnf)
  refine And.intro (fun h => absurd rfl h) (fun _ => ?_)
  (conv=>whnf)
  refine aidx hlt ?_
  (conv=>whnf)
  refine aidx hlt ?_
  (conv=>whnf)
  refine ACallP.pure _ _ ?_ ⟨rfl, rfl⟩ (intsSelf f.nodes[i].args) ?_
  ·exact leL_refl _
  ((try dsimp only[awp]);(conv=>whnf))
  (refine ⟨inr64 (by omega) (by omega),?_⟩;(conv=>whnf))
  refine ⟨i + 1, ?_, ?_, ?_⟩
  ·exact hlt
  ·refine ⟨?_, .mk ?_ (by simp [idsOk])⟩
   ·(repeat' first|exact rfl|exact trivial|exact wR|exact lR _|apply aI)
   ·(repeat' first|exact rfl|exact trivial|exact wR|exact lR _|apply aI)
  ·omega
 ·have hl : i = f.nodes.length := by (have : ¬ i < f.nodes.length := by simpa using h1); omega
  subst hl
  clear h1
  ((try dsimp only[awp]);(conv=>whnf))
  (refine fM ?_;(conv=>whnf);refine ⟨?_,rfl⟩;(conv=>whnf))
  (repeat' first|exact rfl|exact trivial|exact wR|exact lR _|apply aI)

def zR : Rat := ⟨false, [], []⟩
def mdE26 : Md := { name := [109], top := [103], evs := [⟨[97], zR, zR, zR, 0⟩, ⟨[98], zR, zR, zR, 0⟩], hs := [⟨[104], true⟩], gates := [⟨[103], 1, 0, [[104], [107]], zR⟩, ⟨[107], 5, 0, [[97], [98]], zR⟩], pages := [], grs := [], phs := [] }

theorem c_Example26 : FnH Try.prog 25 [] [] mdE26.av [] := by
 refine FnH.intro lay mixed Try.func25 (by kernel_rfl) rfl (by kernel_rfl) rfl fun hok => ?_
 ((try dsimp only[argC,succC]);(try dsimp only[awp]);(conv=>whnf))
 (refine fM ?_;(conv=>whnf);refine ⟨?_,rfl⟩;(conv=>whnf))
 (repeat' first|exact rfl|exact trivial|exact wR|exact lR _|apply aI)

theorem ex26 : staticR mdE26 = (⟨2, [⟨0, 1, []⟩, ⟨2, 0, [0, 1]⟩, ⟨3, 0, [2, 3]⟩], 4⟩, 0) := by decide +kernel

theorem light26 : lightM mdE26 = true := by decide +kernel

theorem c_awake26 : FnH Try.prog 7 [] [] (.bool true) [] := by
 obtain ⟨hB, hC⟩ := lightM_B light26
 have cs := c_Static mdE26 hC hB _ rfl
 rw [ex26] at cs
 have cf := c_form1 ⟨2, [⟨0, 1, []⟩, ⟨2, 0, [0, 1]⟩, ⟨3, 0, [2, 3]⟩], 4⟩
 refine FnH.intro lay mixed Try.func7 (by kernel_rfl) rfl (by kernel_rfl) rfl fun hok => ?_
 ((try dsimp only[argC,succC]);(try dsimp only[awp]);(conv=>whnf))
 refine .pure _ _ ?_ ⟨rfl, rfl⟩ c_Example26 fun _ => ?_
 ·exact leL_refl _
 ((try dsimp only[awp]);(conv=>whnf))
 refine .pure _ _ ?_ ⟨rfl, rfl⟩ cs fun _ => ?_
 ·(repeat' first|exact rfl|exact trivial|exact wR|exact lR _|apply aI)
 ((try dsimp only[awp]);(conv=>whnf))
 refine .pure _ _ ?_ ⟨rfl, rfl⟩ cf fun _ => ?_
 ·(repeat' first|exact rfl|exact trivial|exact wR|exact lR _|apply aI)
 ((try dsimp only[awp]);(conv=>whnf))
 (refine fM ?_;(conv=>whnf);refine ⟨?_,rfl⟩;(conv=>whnf))
 (repeat' first|exact rfl|exact trivial|exact wR|exact lR _|apply aI)
end S

open Go Go.AL Go.Proofs
namespace S
set_option maxRecDepth 100000

def rnS (old new s : Str) : Str := if s = old then new else s
def rnG (old new : Str) (g : Mg) : Mg := { g with ins := g.ins.map (rnS old new) }
def rnE (old new : Str) (x : Ev) : Ev := { x with name := rnS old new x.name }
def rnP (old new : Str) (x : Pg) : Pg := { x with top := rnS old new x.top, gates := x.gates.map (rnG old new) }
def rnGr (old new : Str) (x : Gr) : Gr := { x with mem := x.mem.map (rnS old new) }
def rnPv (old new : Str) (x : Pv) : Pv := { x with ev := rnS old new x.ev }
def rnPh (old new : Str) (x : Ph) : Ph := { x with top := rnS old new x.top, vals := x.vals.map (rnPv old new) }
def rnM (m : Md) (old new : Str) : Md :=
 { name := m.name, top := rnS old new m.top, evs := m.evs.map (rnE old new), hs := m.hs, gates := m.gates.map (rnG old new), pages := m.pages.map (rnP old new), grs := m.grs.map (rnGr old new), phs := m.phs.map (rnPh old new) }

end S

open Go Go.AL Go.Proofs
namespace S
set_option maxRecDepth 100000

theorem idxP_mapr {α β : Type} {f : α → β} {p : β → Bool} : ∀ l : List α, idxP p (l.map f) = idxP (fun x => p (f x)) l
 | [] => rfl
 | x :: l => by simp only [List.map_cons, idxP]; rw [idxP_mapr l]

def Fr (old new s : Str) : Prop := s = new → new = old

structure FreshM (m : Md) (old new : Str) : Prop where
 ev : 0 ≤ i_event m.evs old
 evs : ∀ x ∈ m.evs, Fr old new x.name
 top : Fr old new m.top
 gates : ∀ g ∈ m.gates, ∀ s ∈ g.ins, Fr old new s
 pages : ∀ p ∈ m.pages, Fr old new p.top ∧ ∀ g ∈ p.gates, ∀ s ∈ g.ins, Fr old new s
 grs : ∀ g ∈ m.grs, ∀ s ∈ g.mem, Fr old new s
 phs : ∀ p ∈ m.phs, Fr old new p.top ∧ ∀ v ∈ p.vals, Fr old new v.ev
 nold : nameR old = true
 nnew : nameR new = true

end S

open Go Go.AL Go.Proofs
namespace S
set_option maxRecDepth 100000

structure NdOk (v : Int) (i : Nat) (x : Nd) : Prop where
 kind : 0 ≤ x.kind ∧ x.kind ≤ 5
 num : if x.kind = 0 then x.args.length = 0 else if x.kind = 1 then x.args.length = 1 else 1 ≤ x.args.length ∧ x.args.length ≤ 16
 args : ∀ a ∈ x.args, 0 ≤ a ∧ a < v + i
 k : if x.kind = 0 then x.k = 0 ∨ x.k = 1 else if x.kind = 4 then 1 ≤ x.k ∧ x.k ≤ x.args.length else x.k = 0

structure FOk (f : Fo) : Prop where
 vars : 0 ≤ f.vars ∧ f.vars ≤ 24
 len : f.nodes.length ≤ 128
 nodes : ∀ (i : Nat) (h : i < f.nodes.length), NdOk f.vars i f.nodes[i]
 top : 0 ≤ f.top ∧ f.top < f.vars + f.nodes.length

theorem c_farguments (x : Nd) (v : Int) (i : Nat) (h : NdOk v i x) : FnH Try.prog 80 [.int .i64 x.kind, .int .i64 x.args.length] [] .tt [] := by
 have h2 := h.num
 refine FnH.intro lay mixed Try.func80 (by kernel_rfl) rfl (by kernel_rfl) rfl fun hok => ?_
 ((try dsimp only[argC,succC]);(try dsimp only[awp]);(conv=>whnf))
 refine And.intro (fun g => ?_) (fun g => ?_)
 ·rw [if_pos g] at h2
  ((try dsimp only[awp]);(conv=>whnf))
  (refine fM ?_;(conv=>whnf);refine ⟨?_,rfl⟩;(conv=>whnf))
  show (x.args.length : Int) = 0
  omega
 rw [if_neg g] at h2
 ((try dsimp only[awp]);(conv=>whnf))
 refine And.intro (fun g => ?_) (fun g => ?_)
 ·rw [if_pos g] at h2
  ((try dsimp only[awp]);(conv=>whnf))
  (refine fM ?_;(conv=>whnf);refine ⟨?_,rfl⟩;(conv=>whnf))
  show (x.args.length : Int) = 1
  omega
 rw [if_neg g] at h2
 ((try dsimp only[awp]);(conv=>whnf))
 refine And.intro (fun g => ?_) (fun g => by exfalso; omega)
 ((try dsimp only[awp]);(conv=>whnf))
 (refine fM ?_;(conv=>whnf);refine ⟨?_,rfl⟩;(conv=>whnf))
 show (x.args.length : Int) ≤ 16
 omega

theorem c_fcheckNode (f : Fo) (hv : 0 ≤ f.vars ∧ f.vars ≤ 24) (i : Nat) (hi : i < f.nodes.length) (hl : f.nodes.length ≤ 128) (h : NdOk f.vars i f.nodes[i]) : FnH Try.prog 43 [f.av, .int .i64 i] [] .nilI [] := by
 have ca := c_farguments _ _ _ h
 obtain ⟨h1, h2, h3, h4⟩ := h
 have hal : f.nodes[i].args.length ≤ 16 := by
  split at h2
  ·omega
  ·split at h2 <;> omega
 refine FnH.intro lay mixed Try.func43 (by kernel_rfl) rfl (by kernel_rfl) rfl fun hok => ?_
 ((try dsimp only[argC,succC]);(try dsimp only[awp]);(conv=>whnf))
 refine aidx hi ?_
 generalize f.nodes[i] = x at *
 ((try dsimp only[awp]);(conv=>whnf))
 refine And.intro (fun g => by exfalso; omega) (fun g => ?_)
 ((try dsimp only[awp]);(conv=>whnf))
 refine And.intro (fun g => by exfalso; omega) (fun g => ?_)
 ((try dsimp only[awp]);(conv=>whnf))
 rw [show (((x.args.map (AV.int .i64)).length : Nat) : Int) = (x.args.length : Int) by simp]
 refine .pure _ _ ?_ ⟨rfl, rfl⟩ ca fun _ => ?_
 ·(repeat' first|exact rfl|exact trivial|exact wR|exact lR _|apply aI)
 ((try dsimp only[awp]);(conv=>whnf))
 refine LoopE.of <| LoopSpec.inv (.refl _ _) (fun (j : Nat) => j ≤ x.args.length) (fun (j : Nat) => [(33, .int .i64 j)]) (fun _ => _) (fun (j : Nat) => x.args.length - j) 0 ?_ (fun _ => rfl) ?_ ?_
 ·exact Nat.zero_le _
 ·(repeat' first|exact rfl|exact trivial|exact wR|exact lR _|apply aI)
 intro j hj _
 ((try dsimp only[awp]);(conv=>whnf))
 refine And.intro (fun g1 => ?_) (fun g1 => ?_)
 ·have hjl : j < x.args.length := by simpa using g1
  have ha := h3 _ (List.getElem_mem hjl)
  ((try dsimp only[awp]);(conv=>whnf))
  refine aidx hjl ?_
  generalize x.args[j] = a at *
  ((try dsimp only[awp]);(conv=>whnf))
  refine And.intro (fun g => by exfalso; omega) (fun g => ?_)
  ((try dsimp only[awp]);(conv=>whnf))
  (refine ⟨inr64 (by omega) (by omega),?_⟩;(conv=>whnf))
  refine And.intro (fun g => by exfalso; omega) (fun g => ?_)
  ((try dsimp only[awp]);(conv=>whnf))
  (refine ⟨inr64 (by omega) (by omega),?_⟩;(conv=>whnf))
  refine ⟨j + 1, ?_, ?_, ?_⟩
  ·exact hjl
  ·(repeat' first|exact rfl|exact trivial|exact wR|exact lR _|apply aI)
  ·omega
 ((try dsimp only[awp]);(conv=>whnf))
 refine And.intro (fun g => ?_) (fun g => ?_)
 ·rw [if_pos g] at h4
  ((try dsimp only[awp]);(conv=>whnf))
  refine And.intro (fun g => ?_) (fun g => ?_)
  ·((try dsimp only[awp]);(conv=>whnf))
   refine And.intro (fun g => by exfalso; omega) (fun g => ?_)
   ((try dsimp only[awp]);(conv=>whnf))
   (refine fM ?_;(conv=>whnf);refine ⟨?_,rfl⟩;(conv=>whnf))
   (repeat' first|exact rfl|exact trivial|exact wR|exact lR _|apply aI)
  ·((try dsimp only[awp]);(conv=>whnf))
   (refine fM ?_;(conv=>whnf);refine ⟨?_,rfl⟩;(conv=>whnf))
   (repeat' first|exact rfl|exact trivial|exact wR|exact lR _|apply aI)
 rw [if_neg g] at h4
 ((try dsimp only[awp]);(conv=>whnf))
 refine And.intro (fun g => ?_) (fun g => ?_)
 ·rw [if_pos g] at h4
  ((try dsimp only[awp]);(conv=>whnf))
  refine And.intro (fun g => by exfalso; omega) (fun g => ?_)
  ((try dsimp only[awp]);(conv=>whnf))
  refine And.intro (fun g => by exfalso; simp at g; omega) (fun g => ?_)
  ((try dsimp only[awp]);(conv=>whnf))
  (refine fM ?_;(conv=>whnf);refine ⟨?_,rfl⟩;(conv=>whnf))
  (repeat' first|exact rfl|exact trivial|exact wR|exact lR _|apply aI)
 rw [if_neg g] at h4
 ((try dsimp only[awp]);(conv=>whnf))
 refine And.intro (fun g => by exfalso; omega) (fun g => ?_)
 ((try dsimp only[awp]);(conv=>whnf))
 (refine fM ?_;(conv=>whnf);refine ⟨?_,rfl⟩;(conv=>whnf))
 (repeat' first|exact rfl|exact trivial|exact wR|exact lR _|apply aI)

theorem c_fValid (f : Fo) (h : FOk f) : FnH Try.prog 44 [f.av, .int .i64 f.top] [] .tt [] := by
 obtain ⟨h1, h2, _, h4⟩ := h
 refine FnH.intro lay mixed Try.func44 (by kernel_rfl) rfl (by kernel_rfl) rfl fun hok => ?_
 ((try dsimp only[argC,succC]);(try dsimp only[awp]);(conv=>whnf))
 refine And.intro (fun _ => ?_) (fun g => by exfalso; omega)
 ((try dsimp only[awp]);(conv=>whnf))
 refine And.intro (fun _ => ?_) (fun g => by exfalso; omega)
 ((try dsimp only[awp]);(conv=>whnf))
 refine And.intro (fun g => ?_) (fun g => ?_)
 ·((try dsimp only[awp]);(conv=>whnf))
  (refine fM ?_;(conv=>whnf);refine ⟨?_,rfl⟩;(conv=>whnf))
  (repeat' first|exact rfl|exact trivial|exact wR|exact lR _|apply aI)
 ·((try dsimp only[awp]);(conv=>whnf))
  (refine ⟨inr64 (by omega) (by omega),?_⟩;(conv=>whnf))
  (refine fM ?_;(conv=>whnf);refine ⟨?_,rfl⟩;(conv=>whnf))
  show f.top - f.vars < (((f.nodes.map Nd.av).length : Nat) : Int)
  simp
  omega

theorem c_fCheck (f : Fo) (h : FOk f) : FnH Try.prog 14 [f.av] [] .nilI [] := by
 have cv := c_fValid f h
 obtain ⟨h1, h2, h3, h4⟩ := h
 have cn := fun i hi => c_fcheckNode f h1 i hi h2 (h3 i hi)
 refine FnH.intro lay mixed Try.func14 (by kernel_rfl) rfl (by kernel_rfl) rfl fun hok => ?_
 ((try dsimp only[argC,succC]);(try dsimp only[awp]);(conv=>whnf))
 refine And.intro (fun g => by exfalso; omega) (fun g => ?_)
 ((try dsimp only[awp]);(conv=>whnf))
 refine And.intro (fun g => by exfalso; omega) (fun g => ?_)
 ((try dsimp only[awp]);(conv=>whnf))
 refine And.intro (fun g => by exfalso; simp at g; omega) (fun g => ?_)
 ((try dsimp only[awp]);(conv=>whnf))
 refine LoopE.of <| LoopSpec.inv (.refl _ _) (fun (i : Nat) => i ≤ f.nodes.length) (fun (i : Nat) => [(22, .int .i64 i)]) (fun _ => _) (fun (i : Nat) => f.nodes.length - i) 0 ?_ (fun _ => rfl) ?_ ?_
 ·exact Nat.zero_le _
 ·(repeat' first|exact rfl|exact trivial|exact wR|exact lR _|apply aI)
 intro i hi _
 ((try dsimp only[awp]);(conv=>whnf))
 refine And.intro (fun g1 => ?_) (fun g1 => ?_)
 ·have hil : i < f.nodes.length := by simpa using g1
  ((try dsimp only[awp]);(conv=>whnf))
  refine .pure _ _ ?_ ⟨rfl, rfl⟩ (cn i hil) fun _ => ?_
  ·exact leL_refl _
  ((try dsimp only[awp]);(conv=>whnf))
  (refine ⟨inr64 (by omega) (by omega),?_⟩;(conv=>whnf))
  refine ⟨i + 1, ?_, ?_, ?_⟩
  ·exact hil
  ·(repeat' first|exact rfl|exact trivial|exact wR|exact lR _|apply aI)
  ·omega
 ((try dsimp only[awp]);(conv=>whnf))
 refine .pure _ _ ?_ ⟨rfl, rfl⟩ cv fun _ => ?_
 ·exact leL_refl _
 ((try dsimp only[awp]);(conv=>whnf))
 (refine fM ?_;(conv=>whnf);refine ⟨?_,rfl⟩;(conv=>whnf))
 (repeat' first|exact rfl|exact trivial|exact wR|exact lR _|apply aI)

theorem c_fcheck (f : Fo) (h : FOk f) (set : Int) (hs : 0 ≤ set ∧ set < 2 ^ f.vars.toNat) : FnH Try.prog 46 [f.av, .int .i64 set] [] .nilI [] := by
 have cc := c_fCheck f h
 obtain ⟨h1, h2, h3, h4⟩ := h
 refine FnH.intro lay mixed Try.func46 (by kernel_rfl) rfl (by kernel_rfl) rfl fun hok => ?_
 ((try dsimp only[argC,succC]);(try dsimp only[awp]);(conv=>whnf))
 refine .pure _ _ ?_ ⟨rfl, rfl⟩ cc fun _ => ?_
 ·exact leL_refl _
 ((try dsimp only[awp]);(conv=>whnf))
 refine And.intro (fun g => by exfalso; omega) (fun g => ?_)
 ((try dsimp only[awp]);(conv=>whnf))
 obtain ⟨v, hv⟩ : ∃ v : Nat, f.vars = v := ⟨f.vars.toNat, by omega⟩
 rw [hv] at h1 hs ⊢
 refine ⟨by omega, ?_⟩
 rw [shl_one (by omega)]
 ((try dsimp only[awp]);(conv=>whnf))
 refine And.intro (fun g => ?_) (fun g => ?_)
 ·exfalso
  rw [Int.toNat_natCast] at hs
  have := hs.2
  push_cast at g
  omega
 ((try dsimp only[awp]);(conv=>whnf))
 (refine fM ?_;(conv=>whnf);refine ⟨?_,rfl⟩;(conv=>whnf))
 (repeat' first|exact rfl|exact trivial|exact wR|exact lR _|apply aI)

def cntT (v : List Bool) (args : List Int) : Nat := args.foldl (fun n a => if v.getD a.toNat false = true then n + 1 else n) 0

def ndVal (x : Nd) (n : Nat) : Bool :=
 if x.kind = 0 then decide (x.k = 1) else if x.kind = 1 then decide (n = 0) else if x.kind = 2 then decide (n = x.args.length) else if x.kind = 3 then decide (0 < n)
 else if x.kind = 4 then decide (x.k ≤ n) else if x.kind = 5 then decide (n % 2 = 1) else false

def valN (v : List Bool) (x : Nd) : List Bool := v ++ [ndVal x (cntT v x.args)]
def valsF (vars set : Nat) (nodes : List Nd) : List Bool := nodes.foldl valN (evs vars set)

theorem vals_len (vars set : Nat) : ∀ (nodes : List Nd), (valsF vars set nodes).length = vars + nodes.length := by
 have key : ∀ (l : List Nd) (v : List Bool), (l.foldl valN v).length = v.length + l.length := by
  intro l
  induction l with
  | nil => intro v; simp
  | cons x l ih => intro v; simp only [List.foldl_cons, ih, valN, List.length_append, List.length_cons, List.length_nil]; omega
 intro nodes
 unfold valsF
 rw [key]
 simp [evs]

theorem cntT_take {v : List Bool} {args : List Int} {j : Nat} (h : j < args.length) : cntT v (args.take (j + 1)) = if v.getD (args[j]).toNat false = true then cntT v (args.take j) + 1 else cntT v (args.take j) := by
 unfold cntT
 rw [List.take_add_one, List.getElem?_eq_getElem h, List.foldl_append]; rfl

theorem cntT_le (v : List Bool) : ∀ (args : List Int), cntT v args ≤ args.length := by
 have key : ∀ (l : List Int) (n : Nat), l.foldl (fun n a => if v.getD a.toNat false = true then n + 1 else n) n ≤ n + l.length := by
  intro l
  induction l with
  | nil => intro n; simp
  | cons a l ih =>
    intro n
    simp only [List.foldl_cons, List.length_cons]
    split
    ·have := ih (n + 1); omega
    ·have := ih n; omega
 intro args
 have := key args 0
 unfold cntT
 omega

theorem c_fvalues (f : Fo) (h : FOk f) (set : Nat) (hs : set < 2 ^ 63) : FnH Try.prog 47 [f.av, .int .i64 set] [] (.sl 1 ((valsF f.vars.toNat set f.nodes).map .bool) .no) [] := by
 obtain ⟨h1, h2, h3, h4⟩ := h
 refine FnH.intro lay mixed Try.func47 (by kernel_rfl) rfl (by kernel_rfl) rfl fun hok => ?_
 ((try dsimp only[argC,succC]);(try dsimp only[awp]);(conv=>whnf))
 refine ⟨inr64 (by simp; omega) (by simp; omega), ?_⟩
 ((try dsimp only[awp]);(conv=>whnf))
 refine ⟨by refine ⟨by omega, by omega, by simp; omega, by simp; omega⟩, ?_⟩
 refine .wr ?_
 ((try dsimp only[awp]);(conv=>whnf))
 refine LoopE.of <| LoopSpec.inv (.refl _ _) (fun i : Nat => i ≤ f.vars.toNat) (fun i => [(24, .int .i64 i)]) (fun i => [(1, .arr 1 (f.vars + ((f.nodes.map Nd.av).length : Int)).toNat ((List.range i).map (fun j => AV.bool (set.testBit j)) ++ List.replicate (f.vars.toNat - i) .ff)), (0, .box f.av)]) (fun i => f.vars.toNat - i) 0 ?_ (fun _ => rfl) ?_ ?_
 ·exact Nat.zero_le _
 ·refine ⟨by (repeat' first|exact rfl|exact trivial|exact wR|exact lR _|apply aI), .mk ?_ ?_⟩
  ·(repeat' first|exact rfl|exact trivial|exact wR|exact lR _|apply aI)
  ·exact ⟨by simp, by simp, trivial⟩
 intro i hi _
 ((try dsimp only[awp]);(conv=>whnf))
 refine And.intro (fun g1 => ?_) (fun g1 => ?_)
 ·have hlt : i < f.vars.toNat := by omega
  ((try dsimp only[awp]);(conv=>whnf))
  refine ⟨by omega, ?_⟩
  ((try dsimp only[awp]);(conv=>whnf))
  refine ⟨⟨by omega, by omega⟩, ?_⟩
  ((try dsimp only[awp]);(conv=>whnf))
  refine ⟨by simp; omega, rfl, ?_⟩
  ((try dsimp only[awp]);(conv=>whnf))
  (refine ⟨inr64 (by omega) (by omega),?_⟩;(conv=>whnf))
  refine ⟨i + 1, ?_, ?_, ?_⟩
  ·exact hlt
  ·refine ⟨by (repeat' first|exact rfl|exact trivial|exact wR|exact lR _|apply aI), .mk ?_ ?_⟩
   ·(repeat' first|exact rfl|exact trivial|exact wR|exact lR _|apply aI)
    ·simp only [Nat.zero_add, Int.toNat_natCast]
     refine set_ev hlt ?_
     show _ ↔ _
     rw [bit_test hs (by omega)]
     cases set.testBit i <;> simp
   ·exact ⟨by simp, by simp, trivial⟩
  ·omega
 have hil : i = f.vars.toNat := by omega
 subst hil
 clear g1
 have hev : (List.range f.vars.toNat).map (fun j => AV.bool (set.testBit j)) ++ List.replicate (f.vars.toNat - f.vars.toNat) .ff = (evs f.vars.toNat set).map .bool := by simp [evs]
 rw [hev]
 ((try dsimp only[awp]);(conv=>whnf))
 refine LoopE.of <| LoopSpec.inv (.keep 5 1 f.vars.toNat _ 1 _ rfl rfl (by simp [evs]) (.refl _ _)) (fun i : Nat => i ≤ f.nodes.length) (fun i => [(39, .int .i64 i), (5, .sl 1 ((valsF f.vars.toNat set (f.nodes.take i)).map .bool) (.own 2))]) (fun i => [(2, .tok 1 (f.vars.toNat + i)), (1, .gone), (0, .box f.av)]) (fun i => f.nodes.length - i) 0 ?_ (fun _ => rfl) ?_ ?_
 ·exact Nat.zero_le _
 ·refine ⟨?_, .mk ?_ (by simp [idsOk])⟩
  ·(repeat' first|exact rfl|exact trivial|exact wR|exact lR _|apply aI)
   all_goals (refine leRL_of ?_; simp [evs, valsF]; rw [List.take_of_length_le (by simp)]; done)
  ·(repeat' first|exact rfl|exact trivial|exact wR|exact lR _|apply aI)
 intro i hi _
 ((try dsimp only[awp]);(conv=>whnf))
 refine And.intro (fun g1 => ?_) (fun g1 => ?_)
 ·have hlt : i < f.nodes.length := by simpa using g1
  have hok := h3 i hlt
  have hvl := vals_len f.vars.toNat set (f.nodes.take i)
  rw [List.length_take, Nat.min_eq_left hi] at hvl
  have hvs : valsF f.vars.toNat set (f.nodes.take (i + 1)) = valN (valsF f.vars.toNat set (f.nodes.take i)) f.nodes[i] := by
   unfold valsF
   rw [List.take_add_one, List.getElem?_eq_getElem hlt, List.foldl_append]; rfl
  ((try dsimp only[awp]);(conv=>whnf))
  refine aidx hlt ?_
  generalize f.nodes[i] = x at *
  generalize valsF f.vars.toNat set (f.nodes.take i) = V at *
  ((try dsimp only[awp]);(conv=>whnf))
  refine LoopE.of <| LoopSpec.inv (.refl _ _) (fun j : Nat => j ≤ x.args.length) (fun j => [(46, .int .i64 j), (9, .int .i64 (cntT V (x.args.take j)))]) (fun _ => (3, .box x.av) :: [(2, .tok 1 (f.vars.toNat + i)), (1, .gone), (0, .box f.av)]) (fun j => x.args.length - j) 0 ?_ (fun _ => rfl) ?_ ?_
  ·exact Nat.zero_le _
  ·refine ⟨?_, .mk ?_ (by simp [idsOk])⟩
   ·(repeat' first|exact rfl|exact trivial|exact wR|exact lR _|apply aI)
   ·(repeat' first|exact rfl|exact trivial|exact wR|exact lR _|apply aI)
  intro j hj _
  ((try dsimp only[awp]);(conv=>whnf))
  refine And.intro (fun g2 => ?_) (fun g2 => ?_)
  ·have hjl : j < x.args.length := by simpa using g2
   have ha := hok.args _ (List.getElem_mem hjl)
   have hc := cntT_take (v := V) hjl
   have hal16 : x.args.length ≤ 16 := by
    have hal := hok.num
    split at hal
    ·omega
    ·split at hal <;> omega
   ((try dsimp only[awp]);(conv=>whnf))
   refine aidx hjl ?_
   generalize x.args[j] = a at *
   ((try dsimp only[awp]);(conv=>whnf))
   refine aidxD false (by rw [hvl]; omega) ?_
   ((try dsimp only[awp]);(conv=>whnf))
   refine And.intro (fun g3 => ?_) (fun g3 => ?_)
   ·rw [if_pos g3] at hc
    have hcl := cntT_le V (x.args.take j)
    rw [List.length_take] at hcl
    ((try dsimp only[awp]);(conv=>whnf))
    (refine ⟨inr64 (by omega) (by omega),?_⟩;(conv=>whnf))
    ((try dsimp only[awp]);(conv=>whnf))
    (refine ⟨inr64 (by omega) (by omega),?_⟩;(conv=>whnf))
    refine ⟨j + 1, ?_, ?_, ?_⟩
    ·exact hjl
    ·rw [hc]
     refine ⟨?_, .mk ?_ (by simp [idsOk])⟩
     ·(repeat' first|exact rfl|exact trivial|exact wR|exact lR _|apply aI)
     ·(repeat' first|exact rfl|exact trivial|exact wR|exact lR _|apply aI)
    ·omega
   ·rw [if_neg (by rw [g3]; simp)] at hc
    ((try dsimp only[awp]);(conv=>whnf))
    (refine ⟨inr64 (by omega) (by omega),?_⟩;(conv=>whnf))
    refine ⟨j + 1, ?_, ?_, ?_⟩
    ·exact hjl
    ·rw [hc]
     refine ⟨?_, .mk ?_ (by simp [idsOk])⟩
     ·(repeat' first|exact rfl|exact trivial|exact wR|exact lR _|apply aI)
     ·(repeat' first|exact rfl|exact trivial|exact wR|exact lR _|apply aI)
    ·omega
  have hjl : j = x.args.length := by (have : ¬ j < x.args.length := by simpa using g2); omega
  subst hjl
  clear g2
  rw [List.take_length]
  have hk := hok.kind
  have hkk := hok.k
  have hnd : ∀ b : Bool, ndVal x (cntT V x.args) = b → valsF f.vars.toNat set (f.nodes.take (i + 1)) = V ++ [b] := fun b hb => by rw [hvs, valN, hb]
  clear hvs
  generalize cntT V x.args = c at *
  ((try dsimp only[awp]);(conv=>whnf))
  refine And.intro (fun k0 => ?_) (fun k0 => ?_)
  ·((try dsimp only[awp]);(conv=>whnf))
   have hb := hnd (decide (x.k = 1)) (by unfold ndVal; rw [if_pos k0])
   ((try dsimp only[awp]);(conv=>whnf))
   refine ⟨by rw [List.length_map, hvl], .mk (by simp [maxL]; omega) (by simp; omega) ?_⟩
   ((try dsimp only[awp]);(conv=>whnf))
   (refine ⟨inr64 (by omega) (by omega),?_⟩;(conv=>whnf))
   refine ⟨i + 1, ?_, ?_, ?_⟩
   ·exact hlt
   ·rw [hb]
    refine ⟨?_, .mk ?_ (by simp [idsOk])⟩
    ·(repeat' first|exact rfl|exact trivial|exact wR|exact lR _|apply aI)
     all_goals (show leRL _ (List.map _ (_ ++ [_])); rw [List.map_append]; refine leRL_snoc ?_ (lR _); show _ ↔ _; simp; try (first | omega | (rw [show (2 : Int) = ((2 : Nat) : Int) from rfl, tmod_nat]; omega)))
    ·(repeat' first|exact rfl|exact trivial|exact wR|exact lR _|apply aI)
     all_goals first | (simp [hvl]; done) | (simp [hvl]; omega)
   ·omega
  ((try dsimp only[awp]);(conv=>whnf))
  refine And.intro (fun k1 => ?_) (fun k1 => ?_)
  ·((try dsimp only[awp]);(conv=>whnf))
   have hb := hnd (decide (c = 0)) (by unfold ndVal; rw [if_neg k0, if_pos k1])
   ((try dsimp only[awp]);(conv=>whnf))
   refine ⟨by rw [List.length_map, hvl], .mk (by simp [maxL]; omega) (by simp; omega) ?_⟩
   ((try dsimp only[awp]);(conv=>whnf))
   (refine ⟨inr64 (by omega) (by omega),?_⟩;(conv=>whnf))
   refine ⟨i + 1, ?_, ?_, ?_⟩
   ·exact hlt
   ·rw [hb]
    refine ⟨?_, .mk ?_ (by simp [idsOk])⟩
    ·(repeat' first|exact rfl|exact trivial|exact wR|exact lR _|apply aI)
     all_goals (show leRL _ (List.map _ (_ ++ [_])); rw [List.map_append]; refine leRL_snoc ?_ (lR _); show _ ↔ _; simp; try (first | omega | (rw [show (2 : Int) = ((2 : Nat) : Int) from rfl, tmod_nat]; omega)))
    ·(repeat' first|exact rfl|exact trivial|exact wR|exact lR _|apply aI)
     all_goals first | (simp [hvl]; done) | (simp [hvl]; omega)
   ·omega
  ((try dsimp only[awp]);(conv=>whnf))
  refine And.intro (fun k2 => ?_) (fun k2 => ?_)
  ·((try dsimp only[awp]);(conv=>whnf))
   have hb := hnd (decide (c = x.args.length)) (by unfold ndVal; rw [if_neg k0, if_neg k1, if_pos k2])
   ((try dsimp only[awp]);(conv=>whnf))
   refine ⟨by rw [List.length_map, hvl], .mk (by simp [maxL]; omega) (by simp; omega) ?_⟩
   ((try dsimp only[awp]);(conv=>whnf))
   (refine ⟨inr64 (by omega) (by omega),?_⟩;(conv=>whnf))
   refine ⟨i + 1, ?_, ?_, ?_⟩
   ·exact hlt
   ·rw [hb]
    refine ⟨?_, .mk ?_ (by simp [idsOk])⟩
    ·(repeat' first|exact rfl|exact trivial|exact wR|exact lR _|apply aI)
     all_goals (show leRL _ (List.map _ (_ ++ [_])); rw [List.map_append]; refine leRL_snoc ?_ (lR _); show _ ↔ _; simp; try (first | omega | (rw [show (2 : Int) = ((2 : Nat) : Int) from rfl, tmod_nat]; omega)))
    ·(repeat' first|exact rfl|exact trivial|exact wR|exact lR _|apply aI)
     all_goals first | (simp [hvl]; done) | (simp [hvl]; omega)
   ·omega
  ((try dsimp only[awp]);(conv=>whnf))
  refine And.intro (fun k3 => ?_) (fun k3 => ?_)
  ·((try dsimp only[awp]);(conv=>whnf))
   have hb := hnd (decide (0 < c)) (by unfold ndVal; rw [if_neg k0, if_neg k1, if_neg k2, if_pos k3])
   ((try dsimp only[awp]);(conv=>whnf))
   refine ⟨by rw [List.length_map, hvl], .mk (by simp [maxL]; omega) (by simp; omega) ?_⟩
   ((try dsimp only[awp]);(conv=>whnf))
   (refine ⟨inr64 (by omega) (by omega),?_⟩;(conv=>whnf))
   refine ⟨i + 1, ?_, ?_, ?_⟩
   ·exact hlt
   ·rw [hb]
    refine ⟨?_, .mk ?_ (by simp [idsOk])⟩
    ·(repeat' first|exact rfl|exact trivial|exact wR|exact lR _|apply aI)
     all_goals (show leRL _ (List.map _ (_ ++ [_])); rw [List.map_append]; refine leRL_snoc ?_ (lR _); show _ ↔ _; simp; try (first | omega | (rw [show (2 : Int) = ((2 : Nat) : Int) from rfl, tmod_nat]; omega)))
    ·(repeat' first|exact rfl|exact trivial|exact wR|exact lR _|apply aI)
     all_goals first | (simp [hvl]; done) | (simp [hvl]; omega)
   ·omega
  ((try dsimp only[awp]);(conv=>whnf))
  refine And.intro (fun k4 => ?_) (fun k4 => ?_)
  ·((try dsimp only[awp]);(conv=>whnf))
   have hb := hnd (decide (x.k ≤ c)) (by unfold ndVal; rw [if_neg k0, if_neg k1, if_neg k2, if_neg k3, if_pos k4])
   ((try dsimp only[awp]);(conv=>whnf))
   refine ⟨by rw [List.length_map, hvl], .mk (by simp [maxL]; omega) (by simp; omega) ?_⟩
   ((try dsimp only[awp]);(conv=>whnf))
   (refine ⟨inr64 (by omega) (by omega),?_⟩;(conv=>whnf))
   refine ⟨i + 1, ?_, ?_, ?_⟩
   ·exact hlt
   ·rw [hb]
    refine ⟨?_, .mk ?_ (by simp [idsOk])⟩
    ·(repeat' first|exact rfl|exact trivial|exact wR|exact lR _|apply aI)
     all_goals (show leRL _ (List.map _ (_ ++ [_])); rw [List.map_append]; refine leRL_snoc ?_ (lR _); show _ ↔ _; simp; try (first | omega | (rw [show (2 : Int) = ((2 : Nat) : Int) from rfl, tmod_nat]; omega)))
    ·(repeat' first|exact rfl|exact trivial|exact wR|exact lR _|apply aI)
     all_goals first | (simp [hvl]; done) | (simp [hvl]; omega)
   ·omega
  ((try dsimp only[awp]);(conv=>whnf))
  refine And.intro (fun k5 => ?_) (fun k5 => by exfalso; omega)
  ((try dsimp only[awp]);(conv=>whnf))
  refine ⟨by decide, ?_⟩
  ((try dsimp only[awp]);(conv=>whnf))
  have hb := hnd (decide (c % 2 = 1)) (by unfold ndVal; rw [if_neg k0, if_neg k1, if_neg k2, if_neg k3, if_neg k4, if_pos k5])
  ((try dsimp only[awp]);(conv=>whnf))
  refine ⟨by rw [List.length_map, hvl], .mk (by simp [maxL]; omega) (by simp; omega) ?_⟩
  ((try dsimp only[awp]);(conv=>whnf))
  (refine ⟨inr64 (by omega) (by omega),?_⟩;(conv=>whnf))
  refine ⟨i + 1, ?_, ?_, ?_⟩
  ·exact hlt
  ·rw [hb]
   refine ⟨?_, .mk ?_ (by simp [idsOk])⟩
   ·(repeat' first|exact rfl|exact trivial|exact wR|exact lR _|apply aI)
    all_goals (show leRL _ (List.map _ (_ ++ [_])); rw [List.map_append]; refine leRL_snoc ?_ (lR _); show _ ↔ _; simp; try (first | omega | (rw [show (2 : Int) = ((2 : Nat) : Int) from rfl, tmod_nat]; omega)))
   ·(repeat' first|exact rfl|exact trivial|exact wR|exact lR _|apply aI)
    all_goals first | (simp [hvl]; done) | (simp [hvl]; omega)
  ·omega
 have hil : i = f.nodes.length := by (have : ¬ i < f.nodes.length := by simpa using g1); omega
 subst hil
 rw [List.take_length]
 ((try dsimp only[awp]);(conv=>whnf))
 refine ⟨⟨_, _, .refl _ _, ?_⟩⟩
 (conv=>whnf)
 refine ⟨?_, rfl, by simp [nextId], .mk ?_ (by simp [idsOk])⟩
 ·(repeat' first|exact rfl|exact trivial|exact wR|exact lR _|apply aI)
 ·(repeat' first|exact rfl|exact trivial|exact wR|exact lR _|apply aI)

theorem c_fValue (f : Fo) (h : FOk f) (set : Nat) (hs : set < 2 ^ f.vars.toNat) : FnH Try.prog 18 [f.av, .int .i64 set] [] (.tup [.bool ((valsF f.vars.toNat set f.nodes).getD f.top.toNat false), .nilI]) [] := by
 have h1 := h.vars
 have hs2 : set < 2 ^ 63 := Nat.lt_of_lt_of_le hs (Nat.pow_le_pow_right (by decide) (by omega))
 have hs3 : (set : Int) < 2 ^ f.vars.toNat := by
  have : ((set : Nat) : Int) < ((2 ^ f.vars.toNat : Nat) : Int) := by exact_mod_cast hs
  simpa using this
 have cc := c_fcheck f h set ⟨by omega, hs3⟩
 have cv := c_fvalues f h set hs2
 have hl := vals_len f.vars.toNat set f.nodes
 have ht := h.top
 generalize valsF f.vars.toNat set f.nodes = V at *
 refine FnH.intro lay mixed Try.func18 (by kernel_rfl) rfl (by kernel_rfl) rfl fun hok => ?_
 ((try dsimp only[argC,succC]);(try dsimp only[awp]);(conv=>whnf))
 refine .pure _ _ ?_ ⟨rfl, rfl⟩ cc fun _ => ?_
 ·exact leL_refl _
 ((try dsimp only[awp]);(conv=>whnf))
 (refine ADraw.auto (by kernel_rfl) ?_;(conv=>whnf))
 refine ACallP.pure _ _ ?_ ⟨rfl, rfl⟩ cv ?_
 ·exact leL_refl _
 ((try dsimp only[awp]);(conv=>whnf))
 refine aidxD false (by rw [hl]; omega) ?_
 ((try dsimp only[awp]);(conv=>whnf))
 (refine fM ?_;(conv=>whnf);refine ⟨?_,rfl⟩;(conv=>whnf))
 (repeat' first|exact rfl|exact trivial|exact wR|exact lR _|apply aI)
end S

open Go Go.AL Go.Proofs
namespace S
set_option maxRecDepth 100000

theorem all_len64 {m : Md} (hM : MOk m) : (allNodes m).length ≤ 64 := by
 have ht : totalM m ≤ 64 := by
  have := hM.pages
  unfold pagesErr at this
  split at this
  ·cases this
  ·omega
 have h1 : ∀ (l : List Pg) (n : Nat), l.foldl (fun n x => n + x.gates.length) n = n + (l.map fun p => p.gates.length).sum := by
  intro l
  induction l with
  | nil => intro n; simp
  | cons p l ih => intro n; simp only [List.foldl_cons, ih, List.map_cons, List.sum_cons]; omega
 have h2 : ∀ (l : List Int), (l.flatMap (nodesAt m)).length = (l.map fun a => (gatesM m a).length).sum := by
  intro l
  induction l with
  | nil => simp
  | cons a l ih => simp only [List.flatMap_cons, List.length_append, ih, List.map_cons, List.sum_cons]; simp [nodesAt]
 have h3 : (atsM m).map (fun a => (gatesM m a).length) = m.gates.length :: m.pages.map fun p => p.gates.length := by
  unfold atsM
  rw [List.map_map, List.range_succ_eq_map, List.map_cons, List.map_map]
  congr 1
  apply List.ext_getElem
  ·simp
  ·intro i h1 h2
   simp only [List.length_map, List.length_range] at h1
   simp only [List.getElem_map, List.getElem_range, Function.comp]
   unfold gatesM
   rw [if_neg (by omega)]
   have : (((i + 1 : Nat) : Int) - 1).toNat = i := by omega
   rw [show ((Nat.succ i : Nat) : Int) - 1 = (i : Int) by simp]
   rw [Int.toNat_natCast, List.getD_eq_getElem?_getD, List.getElem?_eq_getElem h1]; rfl
 unfold totalM at ht
 rw [h1] at ht
 unfold allNodes
 rw [h2, h3, List.sum_cons]
 exact ht

theorem CInv.short128 {m : Md} (hM : MOk m) {st : CS} (h : CInv m st) : st.nodes.length ≤ 128 := by
 have := nodup_sub h.nd (u := univ m) fun x hx => by
  obtain ⟨e, he, rfl⟩ := List.mem_map.1 hx
  exact univ_mem (h.ok e he).1 (h.ok e he).2
 rw [List.length_map] at this
 have h1 := all_len64 hM
 have h2 := hM.lens.2
 have : (univ m).length = m.hs.length + (allNodes m).length := by simp [univ]
 rw [h.len]
 omega

structure VInv (vars : Int) (st : CS) : Prop where
 nd : ∀ (i : Nat) (h : i < st.nodes.length), NdOk vars i st.nodes[i]
 va : ∀ z v, lookO st.es z = some v → 0 ≤ v ∧ v < vars + st.nodes.length

theorem VInv.push {vars : Int} (hv : 0 ≤ vars) {st : CS} (h : VInv vars st) (x : Node) (nd : Nd) (hn : NdOk vars st.nodes.length nd) : VInv vars (pushN vars st x nd).2 := by
 refine ⟨?_, ?_⟩
 ·show ∀ (i : Nat) (h : i < (st.nodes ++ [nd]).length), NdOk vars i (st.nodes ++ [nd])[i]
  intro i hi
  by_cases hl : i < st.nodes.length
  ·rw [List.getElem_append_left hl]; exact h.nd i hl
  ·obtain rfl : i = st.nodes.length := by simp at hi; omega
   rw [List.getElem_append_right (Nat.le_refl _)]
   simpa using hn
 ·show ∀ z v, lookO (mark st.es x (vars + st.nodes.length)) z = some v → 0 ≤ v ∧ v < vars + ((st.nodes ++ [nd]).length : Int)
  intro z v hz
  rw [lookO_mark] at hz
  rw [List.length_append]
  split at hz
  ·obtain rfl := Option.some.inj hz
   simp; omega
  ·have := h.va z v hz
   simp; omega

theorem gate_nd {m : Md} (hM : MOk m) {x : Node} (hx : x ∈ allNodes m) (hs : statK (gateAt m x).kind = true) {vars : Int} {i : Nat} {args : List Int} (hl : args.length = (gateAt m x).ins.length) (ha : ∀ a ∈ args, 0 ≤ a ∧ a < vars + i) :
  NdOk vars i ⟨kindN (gateAt m x).kind, (gateAt m x).k, args⟩ := by
 obtain ⟨_, h2, h3, h4⟩ := mem_all.1 hx
 have hk : x.2.2.toNat < (gatesM m x.2.1).length := by omega
 have ho := (hM.gate h2 hk).own
 have e : gateAt m x = (gatesM m x.2.1)[x.2.2.toNat] := by unfold gateAt; rw [List.getD_eq_getElem?_getD, List.getElem?_eq_getElem hk]; rfl
 rw [← e] at ho
 generalize gateAt m x = g at *
 clear e
 have hf : argsR g.kind g.ins.length = true ∧ ¬ (g.kind = 2 ∧ (g.k < 1 ∨ (g.ins.length : Int) < g.k)) ∧ ¬ (g.kind ≠ 2 ∧ g.k ≠ 0) := by
  unfold mgErr at ho
  split at ho
  ·cases ho
  split at ho
  ·cases ho
  split at ho
  ·cases ho
  split at ho
  ·cases ho
  split at ho
  ·cases ho
  rename_i q1 q2 q3
  exact ⟨by simpa using q1, q2, q3⟩
 obtain ⟨f1, f2, f3⟩ := hf
 unfold statK at hs
 simp only [Bool.or_eq_true, decide_eq_true_eq] at hs
 rcases hs with ((((e | e) | e) | e) | e) | e <;> rw [e] at f1 f2 f3 ⊢ <;> simp [argsR] at f1 f2 f3 <;> refine ⟨?_, ?_, ha, ?_⟩ <;> simp [kindN] <;> omega

theorem compL_app (f : Node → CS → (Bool × Int) × CS) : ∀ (l : List Node) (s : CS) (acc : List Int), (compL f l s acc).1.1 = false → (compL f l s acc).1.2.length = acc.length + l.length
 | [], _, _, _ => rfl
 | y :: l, s, acc, h => by
   unfold compL at h ⊢
   split
   ·rename_i hb; rw [if_pos hb] at h; cases h
   ·rename_i hb
    rw [if_neg hb] at h
    rw [compL_app f l _ _ h]
    simp; omega

theorem comp_wf {m : Md} (hM : MOk m) (vars : Int) (hv : vars = m.evs.length) : ∀ (n : Nat) (x : Node) (st : CS), okN m x → VInv vars st → (compN m vars n x st).1.1 = false →
  VInv vars (compN m vars n x st).2 ∧ (0 ≤ (compN m vars n x st).1.2 ∧ (compN m vars n x st).1.2 < vars + (compN m vars n x st).2.nodes.length) ∧ ∃ r, (compN m vars n x st).2.nodes = st.nodes ++ r
 | 0, _, _, _, _, h => by cases h
 | n + 1, x, st, hx, hI, h => by
   have hv0 : 0 ≤ vars := by omega
   unfold compN at h ⊢
   split
   ·rename_i h0
    refine ⟨hI, ?_, [], by simp⟩
    rcases hx with hx | hx | hx
    ·dsimp only; omega
    ·omega
    ·have := (mem_all.1 hx).1; omega
   rename_i h0
   rw [if_neg h0] at h
   split
   ·rename_i a ha; exact ⟨hI, hI.va x a ha, [], by simp⟩
   rename_i hn
   simp only [hn] at h
   have hpush : ∀ {s : CS} (nd : Nd), VInv vars s → NdOk vars s.nodes.length nd → (∃ r, s.nodes = st.nodes ++ r) → VInv vars (pushN vars s x nd).2 ∧ (0 ≤ (pushN vars s x nd).1.2 ∧ (pushN vars s x nd).1.2 < vars + (pushN vars s x nd).2.nodes.length) ∧ ∃ r, (pushN vars s x nd).2.nodes = st.nodes ++ r := by
    intro s nd h1 h2 ⟨r, hr⟩
    refine ⟨h1.push hv0 x nd h2, ?_, r ++ [nd], ?_⟩
    ·show 0 ≤ vars + (s.nodes.length : Int) ∧ vars + (s.nodes.length : Int) < vars + ((s.nodes ++ [nd]).length : Int)
     rw [List.length_append]; simp; omega
    ·show s.nodes ++ [nd] = _
     rw [hr, List.append_assoc]
   split
   ·rename_i h1
    refine hpush _ hI ⟨by simp, by simp, by simp, ?_⟩ ⟨[], by simp⟩
    simp
    try (cases (houseAt m x).on <;> simp)
   rename_i h1
   rw [if_neg h1] at h
   have h2 : x.1 = 2 := by
    rcases hx with h | h | h
    ·omega
    ·omega
    ·exact (mem_all.1 h).1
   obtain ⟨hxa, hk⟩ := okN_kids hM.closed hx h2
   split
   ·rename_i hs; rw [if_pos hs] at h; cases h
   rename_i hs
   rw [if_neg hs] at h
   have key : ∀ (l : List Node) (s : CS) (acc : List Int), (∀ y ∈ l, okN m y) → VInv vars s → (∀ a ∈ acc, 0 ≤ a ∧ a < vars + s.nodes.length) → (compL (compN m vars n) l s acc).1.1 = false →
     VInv vars (compL (compN m vars n) l s acc).2 ∧ (∀ a ∈ (compL (compN m vars n) l s acc).1.2, 0 ≤ a ∧ a < vars + (compL (compN m vars n) l s acc).2.nodes.length) ∧ ∃ r, (compL (compN m vars n) l s acc).2.nodes = s.nodes ++ r := by
    intro l
    induction l with
    | nil => intro s acc _ h1 h2 _; exact ⟨h1, h2, [], by simp [compL]⟩
    | cons y l ih =>
      intro s acc hl h1 h2 he
      unfold compL at he ⊢
      split
      ·rename_i hb; rw [if_pos hb] at he; cases he
      ·rename_i hb
       rw [if_neg hb] at he
       obtain ⟨g1, g2, r, g3⟩ := comp_wf hM vars hv n y s (hl y (by simp)) h1 (by simpa using hb)
       have hle : (s.nodes.length : Int) ≤ (compN m vars n y s).2.nodes.length := by rw [g3, List.length_append]; omega
       obtain ⟨i1, i2, r', i3⟩ := ih _ _ (fun z hz => hl z (by simp [hz])) g1 (fun a ha => by
        rcases List.mem_append.1 ha with ha | ha
        ·have := h2 a ha; omega
        ·simp at ha; subst ha; exact g2) he
       exact ⟨i1, i2, r ++ r', by rw [i3, g3, List.append_assoc]⟩
   split
   ·rename_i he; rw [if_pos he] at h; cases h
   ·rename_i he
    have he : (compL (compN m vars n) (kidsM m x) st []).1.1 = false := by simpa using he
    obtain ⟨k1, k2, k3⟩ := key _ _ _ hk hI (by simp) he
    refine hpush _ k1 (gate_nd hM hxa (by simpa using hs) ?_ k2) k3
    rw [compL_app _ _ _ _ he]
    simp [kidsM]

theorem VInv.nil (vars : Int) : VInv vars ⟨[], []⟩ := ⟨fun i h => by simp at h, fun z v h => by cases h⟩

theorem at_ok {m : Md} (hM : MOk m) {s : Str} (hs : isInR m (-1) s = true) (he : (compTop m s).1.1 = false) : FOk ⟨m.evs.length, (compTop m s).2.nodes, (compTop m s).1.2⟩ := by
 have hok := (hM.inOk (.inl rfl) hs).ok
 obtain ⟨rank, hr, _⟩ := hM.rank
 obtain ⟨h1, h2, _⟩ := comp_wf hM m.evs.length rfl (fuelC m) _ ⟨[], []⟩ hok (.nil _) he
 have h3 := (comp_inv hM.closed hr m.evs.length (fuelC m) _ ⟨[], []⟩ hok (.nil m)).1.short128 hM
 have := hM.lens.1
 exact ⟨⟨by simp, by show (m.evs.length : Int) ≤ 24; omega⟩, h3, h1.nd, h2⟩
end S

open Go Go.AL Go.Proofs
namespace S
set_option maxRecDepth 100000

abbrev tnM (m : Md) (hs : List Hs) : Md := ⟨m.name, m.top, m.evs, hs, m.gates, m.pages, m.grs, m.phs⟩

section
variable {m : Md} {hs : List Hs}

theorem tn_house (h : hs.map Hs.name = m.hs.map Hs.name) (s : Str) : i_house hs s = i_house m.hs s := by
 have e : ∀ l : List Hs, i_house l s = idxP (fun n => decide (n = s)) (l.map Hs.name) := fun l => (idxP_mapr (f := Hs.name) (p := fun n => decide (n = s)) l).symm
 rw [e, e, h]

theorem tn_isIn (h : hs.map Hs.name = m.hs.map Hs.name) (a : Int) (s : Str) : isInR (tnM m hs) a s = isInR m a s := by
 unfold isInR
 rw [tn_house h]
 rfl

theorem tn_resOn (h : hs.map Hs.name = m.hs.map Hs.name) (a : Int) (s : Str) : resOn (tnM m hs) a s = resOn m a s := by
 unfold resOn
 rw [tn_house h]
 rfl

theorem tn_res (h : hs.map Hs.name = m.hs.map Hs.name) (a : Int) (s : Str) : resR (tnM m hs) a s = resR m a s := by
 unfold resR
 rw [tn_resOn h, tn_resOn h]
 rfl

theorem tn_kids (h : hs.map Hs.name = m.hs.map Hs.name) : kidsM (tnM m hs) = kidsM m := by
 funext x
 unfold kidsM
 rw [show gateAt (tnM m hs) x = gateAt m x from rfl]
 exact List.map_congr_left fun s _ => tn_res h _ s

theorem errL_ext {α : Type} {f g : Nat → α → Int} : ∀ {l : List α} {i : Nat}, (∀ i x, f i x = g i x) → errL f i l = errL g i l
 | [], _, _ => rfl
 | x :: l, i, h => by unfold errL; rw [h, errL_ext h]

theorem tn_events (h : hs.map Hs.name = m.hs.map Hs.name) : eventsErr (tnM m hs) = eventsErr m := by
 have hl : hs.length = m.hs.length := by have := congrArg List.length h; simpa using this
 have key : ∀ (l l' : List Hs) (i : Nat), l.map Hs.name = l'.map Hs.name → errL (hsErr (tnM m hs)) i l = errL (hsErr m) i l' := by
  intro l
  induction l with
  | nil => intro l' i h; cases l' with
    | nil => rfl
    | cons y l' => cases h
  | cons x l ih =>
    intro l' i h
    cases l' with
    | nil => cases h
    | cons y l' =>
      simp only [List.map_cons, List.cons.injEq] at h
      have hxy : hsErr (tnM m hs) i x = hsErr m i y := by
       unfold hsErr
       rw [h.1, tn_house ‹_›]
      unfold errL
      rw [hxy, ih l' (i + 1) h.2]
 unfold eventsErr
 rw [show (tnM m hs).hs.length = m.hs.length from hl, key hs m.hs 0 h]
 rfl

theorem tn_ins (h : hs.map Hs.name = m.hs.map Hs.name) (a : Int) (g : Mg) : ∀ (l : List Str) (k : Nat) (sp : List Str), insErr (tnM m hs) a g k l sp = insErr m a g k l sp
 | [], _, _ => rfl
 | s :: l, k, sp => by
   unfold insErr
   rw [tn_isIn h, tn_ins h a g l, tn_ins h a g l]

theorem tn_gatesIns (h : hs.map Hs.name = m.hs.map Hs.name) (a : Int) : ∀ (l : List Mg) (sp : List Str), gatesIns (tnM m hs) a l sp = gatesIns m a l sp
 | [], _ => rfl
 | g :: l, sp => by
   unfold gatesIns
   rw [tn_ins h, tn_gatesIns h a l]

theorem tn_insAll (h : hs.map Hs.name = m.hs.map Hs.name) : ∀ (l : List Int) (sp : List Str), insAll (tnM m hs) l sp = insAll m l sp
 | [], _ => rfl
 | a :: l, sp => by
   have e : pageIns (tnM m hs) a sp = pageIns m a sp := by
    unfold pageIns
    rw [show gatesM (tnM m hs) a = gatesM m a from rfl, tn_gatesIns h]
    rfl
   unfold insAll
   rw [e, tn_insAll h l]

theorem tn_mem : ∀ (l sp : List Str), memErr (tnM m hs) l sp = memErr m l sp
 | [], _ => rfl
 | s :: l, sp => by unfold memErr; rw [tn_mem l]

theorem tn_grs : ∀ (l : List Gr) (i : Nat) (sp : List Str), grsErr (tnM m hs) i l sp = grsErr m i l sp
 | [], _, _ => rfl
 | x :: l, i, sp => by
   have e : grErr (tnM m hs) i x sp = grErr m i x sp := by
    unfold grErr
    rw [tn_mem]
   unfold grsErr
   rw [e, tn_grs l]

theorem tn_check (h : hs.map Hs.name = m.hs.map Hs.name) : checkM (tnM m hs) = checkM m := by
 have h1 := tn_events h
 have h2 : gatesErrAll (tnM m hs) = gatesErrAll m := by
  unfold gatesErrAll
  refine errL_ext fun i a => ?_
  refine errL_ext fun j x => ?_
  unfold gateErrM
  rw [tn_house h]
  rfl
 have h3 : insAll (tnM m hs) (atsM m) [] = insAll m (atsM m) [] := tn_insAll h _ _
 have h4 : phasesErr (tnM m hs) = phasesErr m := by
  unfold phasesErr
  rw [show errL (phErr (tnM m hs)) 0 (tnM m hs).phs = errL (phErr m) 0 m.phs from errL_ext fun i x => by
   unfold phErr
   rw [tn_isIn h]
   rfl]
 have h5 : groupsErr (tnM m hs) = groupsErr m := by
  unfold groupsErr
  rw [tn_grs]
 have h6 : cycR (tnM m hs) = cycR m := by
  unfold cycR walk0
  rw [tn_kids h]
  rfl
 unfold checkM
 rw [h1, show atsM (tnM m hs) = atsM m from rfl, h2, h3, h4, h5, h6, tn_isIn h]
 rfl

structure SameF (s t : CS) : Prop where
 es : s.es = t.es
 len : s.nodes.length = t.nodes.length

theorem tn_comp (h : hs.map Hs.name = m.hs.map Hs.name) (vars : Int) : ∀ (n : Nat) (x : Node) (s t : CS), SameF s t → (compN (tnM m hs) vars n x s).1 = (compN m vars n x t).1 ∧ SameF (compN (tnM m hs) vars n x s).2 (compN m vars n x t).2
 | 0, _, _, _, hs => ⟨rfl, hs⟩
 | n + 1, x, s, t, hst => by
   have push : ∀ {s t : CS} (a b : Nd), SameF s t → (pushN vars s x a).1 = (pushN vars t x b).1 ∧ SameF (pushN vars s x a).2 (pushN vars t x b).2 := by
    intro s t a b h
    unfold pushN
    refine ⟨by rw [h.len], ⟨by rw [h.es, h.len], by simp [h.len]⟩⟩
   have key : ∀ (l : List Node) (s t : CS) (acc : List Int), SameF s t → (compL (compN (tnM m hs) vars n) l s acc).1 = (compL (compN m vars n) l t acc).1 ∧ SameF (compL (compN (tnM m hs) vars n) l s acc).2 (compL (compN m vars n) l t acc).2 := by
    intro l
    induction l with
    | nil => intro s t acc h; exact ⟨rfl, h⟩
    | cons y l ih =>
      intro s t acc h1
      obtain ⟨g1, g2⟩ := tn_comp h vars n y s t h1
      unfold compL
      rw [g1]
      split
      ·exact ⟨rfl, g2⟩
      ·exact ih _ _ _ g2
   unfold compN
   rw [hst.es]
   split
   ·exact ⟨rfl, hst⟩
   split
   ·exact ⟨rfl, hst⟩
   split
   ·exact push _ _ hst
   rw [show gateAt (tnM m hs) x = gateAt m x from rfl, tn_kids h]
   split
   ·exact ⟨rfl, hst⟩
   obtain ⟨k1, k2⟩ := key (kidsM m x) s t [] hst
   rw [k1]
   split
   ·exact ⟨rfl, k2⟩
   ·exact push _ _ k2

theorem tn_top (h : hs.map Hs.name = m.hs.map Hs.name) (s : Str) : (compTop (tnM m hs) s).1 = (compTop m s).1 ∧ (compTop (tnM m hs) s).2.nodes.length = (compTop m s).2.nodes.length := by
 obtain ⟨h1, h2⟩ := tn_comp h m.evs.length (fuelC m) (resR m (-1) s) ⟨[], []⟩ ⟨[], []⟩ ⟨rfl, rfl⟩
 unfold compTop
 rw [tn_res h]
 exact ⟨h1, h2.len⟩
end
end S

open Go Go.AL Go.Proofs
namespace S
set_option maxRecDepth 100000

theorem intsD (a b : List Int) : FnH Try.prog 48 [iL a, iL b] [] (.bool (decide (a = b))) [] := (c_ints a b).weak (R' := .bool (decide (a = b))) (by first | rfl | (show _ ↔ _; simp) | (show decide _ = decide _; simp))

theorem c_formD (f g : Fo) : FnH Try.prog 21 [f.av, g.av] [] (.bool (decide (f = g))) [] := by
 refine FnH.intro lay mixed Try.func21 (by kernel_rfl) rfl (by kernel_rfl) rfl fun hok => ?_
 have ha : f.nodes.length ≤ 9223372036854775807 := by
  have := hok.1
  simp only [Ok, OkL, maxL, List.length_map] at this
  exact this.2.1.1
 ((try dsimp only[argC,succC]);(try dsimp only[awp]);(conv=>whnf))
 refine And.intro (fun h => ?_) (fun h1 => ?_)
 ·have hn : decide (f = g) = false := decide_eq_false fun e => h (by rw [e])
  rw [hn]
  ((try dsimp only[awp]);(conv=>whnf))
  (refine fM ?_;(conv=>whnf);refine ⟨?_,rfl⟩;(conv=>whnf))
  (repeat' first|exact rfl|exact trivial|exact wR|exact lR _|apply aI)
 replace h1 : f.vars = g.vars := by simpa using h1
 ((try dsimp only[awp]);(conv=>whnf))
 refine And.intro (fun h => ?_) (fun h2 => ?_)
 ·have hn : decide (f = g) = false := decide_eq_false fun e => h (by rw [e])
  rw [hn]
  ((try dsimp only[awp]);(conv=>whnf))
  (refine fM ?_;(conv=>whnf);refine ⟨?_,rfl⟩;(conv=>whnf))
  (repeat' first|exact rfl|exact trivial|exact wR|exact lR _|apply aI)
 replace h2 : f.top = g.top := by simpa using h2
 ((try dsimp only[awp]);(conv=>whnf))
 refine And.intro (fun h => ?_) (fun h3 => ?_)
 ·have hn : decide (f = g) = false := decide_eq_false fun e => h (by rw [e])
  rw [hn]
  ((try dsimp only[awp]);(conv=>whnf))
  (refine fM ?_;(conv=>whnf);refine ⟨?_,rfl⟩;(conv=>whnf))
  (repeat' first|exact rfl|exact trivial|exact wR|exact lR _|apply aI)
 replace h3 : f.nodes.length = g.nodes.length := by simp only [List.length_map] at h3; omega
 ((try dsimp only[awp]);(conv=>whnf))
 refine LoopE.of <| LoopSpec.inv (.refl _ _) (fun (i : Nat) => i ≤ f.nodes.length ∧ ∀ (j : Nat) (h : j < f.nodes.length), j < i → f.nodes[j] = g.nodes[j]'(by omega)) (fun (i : Nat) => [(30, .int .i64 i)]) (fun _ => _) (fun (i : Nat) => f.nodes.length - i) 0 ?_ (fun _ => rfl) ?_ ?_
 ·exact ⟨Nat.zero_le _, by omega⟩
 ·(repeat' first|exact rfl|exact trivial|exact wR|exact lR _|apply aI)
 rintro i ⟨hi, hj⟩ _
 ((try dsimp only[awp]);(conv=>whnf))
 refine And.intro (fun g1 => ?_) (fun g1 => ?_)
 ·have hlt : i < f.nodes.length := by simpa using g1
  have hlg : i < g.nodes.length := by omega
  have hdf : f.nodes[i] ≠ g.nodes[i] → decide (f = g) = false := fun hne => decide_eq_false fun e => hne (by subst e; rfl)
  have ci := intsD f.nodes[i].args g.nodes[i].args
  ((try dsimp only[awp]);(conv=>whnf))
  (refine ADraw.auto (by kernel_rfl) ?_;(conv=>whnf))
  refine aidx hlt ?_
  (conv=>whnf)
  refine aidx hlg ?_
  (conv=>whnf)
  refine And.intro (fun h => ?_) (fun q1 => ?_)
  ·rw [hdf fun e => h (by rw [e])]
   ((try dsimp only[awp]);(conv=>whnf))
   (refine fM ?_;(conv=>whnf);refine ⟨?_,rfl⟩;(conv=>whnf))
   (repeat' first|exact rfl|exact trivial|exact wR|exact lR _|apply aI)
  have q1 : (f.nodes[i]).kind = (g.nodes[i]).kind := by simpa using q1
  (conv=>whnf)
  refine aidx hlt ?_
  (conv=>whnf)
  refine aidx hlg ?_
  (conv=>whnf)
  refine And.intro (fun h => ?_) (fun q2 => ?_)
  ·rw [hdf fun e => h (by rw [e])]
   ((try dsimp only[awp]);(conv=>whnf))
   (refine fM ?_;(conv=>whnf);refine ⟨?_,rfl⟩;(conv=>whnf))
   (repeat' first|exact rfl|exact trivial|exact wR|exact lR _|apply aI)
  have q2 : (f.nodes[i]).k = (g.nodes[i]).k := by simpa using q2
  (conv=>whnf)
  refine aidx hlt ?_
  (conv=>whnf)
  refine aidx hlg ?_
  (conv=>whnf)
  refine ACallP.pure _ _ ?_ ⟨rfl, rfl⟩ ci ?_
  ·exact leL_refl _
  ((try dsimp only[awp]);(conv=>whnf))
  refine And.intro (fun h => ?_) (fun q3 => ?_)
  ·rw [hdf fun e => by rw [e] at h; simp at h]
   ((try dsimp only[awp]);(conv=>whnf))
   (refine fM ?_;(conv=>whnf);refine ⟨?_,rfl⟩;(conv=>whnf))
   (repeat' first|exact rfl|exact trivial|exact wR|exact lR _|apply aI)
  ((try dsimp only[awp]);(conv=>whnf))
  (refine ⟨inr64 (by omega) (by omega),?_⟩;(conv=>whnf))
  refine ⟨i + 1, ?_, ?_, ?_⟩
  ·refine ⟨hlt, fun j hjl hji => ?_⟩
   by_cases e : j = i
   ·subst e
    have q3 : (f.nodes[j]).args = (g.nodes[j]).args := by simpa using q3
    generalize f.nodes[j] = a at *
    generalize g.nodes[j] = b at *
    cases a
    cases b
    simp only [] at q1 q2 q3
    rw [q1, q2, q3]
   ·exact hj j hjl (by omega)
  ·refine ⟨?_, .mk ?_ (by simp [idsOk])⟩
   ·(repeat' first|exact rfl|exact trivial|exact wR|exact lR _|apply aI)
   ·(repeat' first|exact rfl|exact trivial|exact wR|exact lR _|apply aI)
  ·omega
 ·have hl : i = f.nodes.length := by (have : ¬ i < f.nodes.length := by simpa using g1); omega
  subst hl
  clear g1
  have he : f = g := by
   obtain ⟨fv, fn, ft⟩ := f
   obtain ⟨gv, gn, gt⟩ := g
   dsimp only at h1 h2 h3 hj
   obtain rfl := h1
   obtain rfl := h2
   rw [show fn = gn from List.ext_getElem h3 fun j hj1 hj2 => hj j hj1 hj1]
  rw [decide_eq_true he]
  ((try dsimp only[awp]);(conv=>whnf))
  (refine fM ?_;(conv=>whnf);refine ⟨?_,rfl⟩;(conv=>whnf))
  (repeat' first|exact rfl|exact trivial|exact wR|exact lR _|apply aI)
end S

open Go Go.AL Go.Proofs
namespace S
set_option maxRecDepth 100000

def evalG (g : Mg) (n : Nat) : Bool := ndVal ⟨kindN g.kind, g.k, List.replicate g.ins.length 0⟩ n

def evalN (m : Md) (set : Nat) : Nat → Node → Bool
 | 0, _ => false
 | n + 1, x => if x.1 = 0 then set.testBit x.2.2.toNat else if x.1 = 1 then (houseAt m x).on else evalG (gateAt m x) ((kidsM m x).countP (evalN m set n))

def evalT (m : Md) (set : Nat) (x : Node) : Bool := evalN m set (fuelC m) x

structure SInv (m : Md) (vars set : Nat) (st : CS) : Prop extends VInv vars st where
 val : ∀ z v, lookO st.es z = some v → okN m z ∧ (valsF vars set st.nodes).getD v.toNat false = evalT m set z

end S

open Go Go.AL Go.Proofs
namespace S
set_option maxRecDepth 100000

theorem and_mask (x : Int) {n : Nat} (hn : n ≤ 24) : ∃ s : Nat, s < 2 ^ n ∧ bitsR .and .i64 x ((2 ^ n : Nat) - 1 : Int) = (s : Int) := by
 have hp : 1 ≤ 2 ^ n := Nat.one_le_two_pow
 have hp2 : 2 ^ n ≤ 2 ^ 24 := Nat.pow_le_pow_right (by decide) hn
 refine ⟨(BitVec.ofInt 64 x &&& BitVec.ofInt 64 ((2 ^ n : Nat) - 1 : Int)).toNat, ?_, ?_⟩
 ·rw [show (((2 ^ n : Nat) : Int) - 1) = ((2 ^ n - 1 : Nat) : Int) by omega, ofInt_nat, BitVec.toNat_and, BitVec.toNat_ofNat, Nat.mod_eq_of_lt (by omega)]
  have := @Nat.and_le_right (BitVec.ofInt 64 x).toNat (2 ^ n - 1)
  omega
 ·have hlt : (BitVec.ofInt 64 x &&& BitVec.ofInt 64 ((2 ^ n : Nat) - 1 : Int)).toNat ≤ 2 ^ n - 1 := by
   rw [show (((2 ^ n : Nat) : Int) - 1) = ((2 ^ n - 1 : Nat) : Int) by omega, ofInt_nat, BitVec.toNat_and, BitVec.toNat_ofNat, Nat.mod_eq_of_lt (by omega)]
   exact Nat.and_le_right
  simp only [bitsR]
  show IntKind.wrap .i64 ((BitVec.ofInt 64 x &&& BitVec.ofInt 64 ((2 ^ n : Nat) - 1 : Int)).toNat : Int) = _
  generalize (BitVec.ofInt 64 x &&& BitVec.ofInt 64 ((2 ^ n : Nat) - 1 : Int)).toNat = w at *
  exact wrap64 (by omega) (by omega)

theorem atR_ok {m : Md} (hM : MOk m) {s : Str} (hs : isInR m (-1) s = true) (he : (compTop m s).1.1 = false) : atR m s = (⟨m.evs.length, (compTop m s).2.nodes, (compTop m s).1.2⟩, 0) := by
 have hc := checkM_of hM
 have hi : (inputR m (-1) s).2 = 0 := by
  unfold inputR
  rw [if_neg (by rw [hc]; simp), if_neg (by omega), if_neg (by omega), if_neg (by rw [hs]; simp)]
 unfold atR
 rw [if_neg (by rw [hi]; simp), if_neg (by rw [he]; simp)]

theorem atR_err {m : Md} (hM : MOk m) {s : Str} (hs : isInR m (-1) s = true) (he : (compTop m s).1.1 = true) : atR m s = (⟨0, [], 0⟩, 7) := by
 have hc := checkM_of hM
 have hi : (inputR m (-1) s).2 = 0 := by
  unfold inputR
  rw [if_neg (by rw [hc]; simp), if_neg (by omega), if_neg (by omega), if_neg (by rw [hs]; simp)]
 unfold atR
 rw [if_neg (by rw [hi]; simp), if_pos he]

theorem hs_at {m : Md} (hM : MOk m) {i : Nat} (hi : i < m.hs.length) : atS m.hs[i].name = false := by
 have := (eventsErr_zero hM.evs).2.2.2 i hi
 unfold hsErr at this
 split at this
 ·cases this
 rename_i h
 exact name_noAt (by simpa using h)

end S

namespace Go.AL

theorem VRL_get {c : Cx} : ∀ {l : List AV} {cs : List Value} {p : Nat} {A : AV}, VRL c l cs → l[p]? = some A → ∃ a, VR c A a ∧ ∀ (d : Cx) (A' : AV), c.Le d → VR d A' a → VRL d (l.set p A') cs
 | [], _, _, _, _, h => by simp at h
 | x :: l, cs, 0, A, h, hp => by
   simp only [VRL] at h
   obtain ⟨a, r, rfl, h1, h2⟩ := h
   simp at hp; subst hp
   exact ⟨a, h1, fun d A' le hA => by simp only [List.set_cons_zero, VRL]; exact ⟨a, r, rfl, hA, VRL_mono le _ _ h2⟩⟩
 | x :: l, cs, p + 1, A, h, hp => by
   simp only [VRL] at h
   obtain ⟨a, r, rfl, h1, h2⟩ := h
   obtain ⟨b, g1, g2⟩ := VRL_get h2 (by simpa using hp)
   exact ⟨b, g1, fun d A' le hA => by simp only [List.set_cons_succ, VRL]; exact ⟨a, r, rfl, VR_mono le _ _ h1, g2 d A' le hA⟩⟩

section
variable {P : Program}

theorem FnH.frzN {f : Nat} {args : List AV} {R : AV} {H G : Heap} {j off len cap cp sz : Nat} {l ls : List AV} (i p : Nat) (h1 : args[i]? = some (.ag ls)) (hp : ls[p]? = some (.ms j off len cap sz)) (ho : hget H j = some (.arr sz cp l)) (hl : off + len ≤ l.length)
  (h : FnH P f (args.set i (.ag (ls.set p (.sl sz ((l.drop off).take len) .no)))) (hset H j .gone) R G) : FnH P f args H R G := by
 refine ⟨h.1, fun c vs hr hv => ?_⟩
 obtain ⟨v, hvi, hA⟩ := EVL_get' hv h1
 have hA : VV c (.ag ls) v := hA
 have hA2 := hA.2
 simp only [VR] at hA2
 obtain ⟨b, k1, k2⟩ := VRL_get hA2 hp
 have k3 := k1
 simp only [VR] at k3
 obtain ⟨_, rfl, _⟩ := k3
 have hms : EV c (.ms j off len cap sz) (.slice (some ⟨c.ρ j, off * sz, none⟩) len cap) := EV_VV (VV_mk rfl rfl k1)
 have ha : AOk 1 c [(0, .ms j off len cap sz)] { tmps := #[.slice (some ⟨c.ρ j, off * sz, none⟩) len cap], defers := [] } := by
  refine ⟨fun t A hA' => ?_, rfl, rfl⟩
  simp only [eget] at hA'
  cases hb : Nat.beq 0 t with
  | true =>
    rw [hb] at hA'
    obtain rfl := Nat.eq_of_beq_eq_true hb
    obtain rfl := Option.some.inj hA'
    exact hms
  | false => rw [hb] at hA'; cases hA'
 obtain ⟨d, g1, g2, g3⟩ := Cv_sound (.freeze 0 j off len cap cp sz l rfl ho hl (.refl _ _)) hr ha
 have hd : EV d (.sl sz ((l.drop off).take len) .no) (.slice (some ⟨c.ρ j, off * sz, none⟩) len cap) := g3.env 0 _ rfl
 have hd : VV d (.sl sz ((l.drop off).take len) .no) (.slice (some ⟨c.ρ j, off * sz, none⟩) len cap) := hd
 have hv' : VV d (.ag (ls.set p (.sl sz ((l.drop off).take len) .no))) v := by
  refine ⟨⟨fun _ => hA.1.1 rfl, fun h => by cases h⟩, ?_⟩
  simp only [VR]
  exact k2 d _ g2.le hd.2
 have := h.2 d vs g2.hr (EVL_set g2.le hv hvi (EV_VV hv'))
 rw [g1] at this
 refine this.mono ?_
 rintro e w' ⟨v', d', k1, k2, k3, k4⟩
 exact ⟨v', d', k1, k2, g2.trans k3, k4⟩
end
end Go.AL

open Go Go.AL Go.Proofs
namespace S
set_option maxRecDepth 100000

theorem house_in {m : Md} (hM : MOk m) {k : Nat} (hk : k < m.hs.length) : isInR m (-1) m.hs[k].name = true ∧ resR m (-1) m.hs[k].name = (1, 0, (k : Int)) ∧ houseAt m (1, 0, (k : Int)) = m.hs[k] := by
 have hat := hs_at hM hk
 have he := (eventsErr_zero hM.evs).2.2.2 k hk
 unfold hsErr at he
 split at he
 ·cases he
 split at he
 ·cases he
 rename_i hne
 split at he
 ·cases he
 rename_i hnh
 have hle := (idxP_le (p := fun x : Hs => decide (x.name = m.hs[k].name)) hk (by simp)).2
 have hi : i_house m.hs m.hs[k].name = k := by
  unfold i_house at hnh ⊢
  omega
 refine ⟨?_, ?_, ?_⟩
 ·unfold isInR
  rw [if_neg (by rw [hat]; simp)]
  simp only [Bool.or_eq_true, decide_eq_true_eq]
  left; right
  omega
 ·unfold resR
  rw [if_neg (by rw [hat]; simp)]
  unfold resOn
  rw [if_neg hne, if_pos (by omega), hi]
 ·unfold houseAt
  rw [Int.toNat_natCast, List.getD_eq_getElem?_getD, List.getElem?_eq_getElem hk]; rfl

theorem house_at {m : Md} (hM : MOk m) {k : Nat} (hk : k < m.hs.length) : atR m m.hs[k].name = (⟨m.evs.length, [⟨0, if m.hs[k].on = true then 1 else 0, []⟩], m.evs.length⟩, 0) := by
 obtain ⟨h1, h2, h3⟩ := house_in hM hk
 have e : compTop m m.hs[k].name = ((false, (m.evs.length : Int)), ⟨[⟨0, if m.hs[k].on = true then 1 else 0, []⟩], [((1, 0, (k : Int)), (m.evs.length : Int))]⟩) := by
  unfold compTop
  rw [h2, show fuelC m = ((allNodes m).length + 1) + 1 from rfl]
  unfold compN
  rw [if_neg (by simp)]
  simp only [lookO]
  rw [if_pos trivial, h3]
  simp [pushN, mark]
 rw [atR_ok hM h1 (by rw [e]), e]

theorem c_CompileHouses (m : Md) (i0 set0 : Int) : FnH Try.prog 5 [m.av, .int .u8 i0, .int .i64 set0] [] (.bool true) [] := by
 have c0 := c_awake26.weak (R' := .tt) rfl
 have cl := c_LightM m _ rfl
 cases hL : lightM m with
 | false =>
   rw [hL] at cl
   have cl := cl.weak (R' := .ff) rfl
   refine FnH.intro lay mixed Try.func5 (by kernel_rfl) rfl (by kernel_rfl) rfl fun hok => ?_
   ((try dsimp only[argC,succC]);(try dsimp only[awp]);(conv=>whnf))
   refine .pure _ _ ?_ ⟨rfl, rfl⟩ c0 fun _ => ?_
   ·exact leL_refl _
   ((try dsimp only[awp]);(conv=>whnf))
   refine .pure _ _ ?_ ⟨rfl, rfl⟩ cl fun _ => ?_
   ·exact leL_refl _
   ((try dsimp only[awp]);(conv=>whnf))
   refine .pure _ _ ?_ ⟨rfl, rfl⟩ c0 fun _ => ?_
   ·exact leL_refl _
   ((try dsimp only[awp]);(conv=>whnf))
   (refine fM ?_;(conv=>whnf);refine ⟨?_,rfl⟩;(conv=>whnf))
   (repeat' first|exact rfl|exact trivial|exact wR|exact lR _|apply aI)
 | true =>
 rw [hL] at cl
 have cl := cl.weak (R' := .tt) rfl
 obtain ⟨hB, hC⟩ := lightM_B hL
 have cc := c_mCheck m hC hB _ rfl
 by_cases hc : checkM m ≠ 0
 ·rw [errAV_ne hc] at cc
  refine FnH.intro lay mixed Try.func5 (by kernel_rfl) rfl (by kernel_rfl) rfl fun hok => ?_
  ((try dsimp only[argC,succC]);(try dsimp only[awp]);(conv=>whnf))
  refine .pure _ _ ?_ ⟨rfl, rfl⟩ c0 fun _ => ?_
  ·exact leL_refl _
  ((try dsimp only[awp]);(conv=>whnf))
  refine .pure _ _ ?_ ⟨rfl, rfl⟩ cl fun _ => ?_
  ·exact leL_refl _
  ((try dsimp only[awp]);(conv=>whnf))
  refine .pure _ _ ?_ ⟨rfl, rfl⟩ cc fun _ => ?_
  ·exact leL_refl _
  ((try dsimp only[awp]);(conv=>whnf))
  refine .pure _ _ ?_ ⟨rfl, rfl⟩ c0 fun _ => ?_
  ·exact leL_refl _
  ((try dsimp only[awp]);(conv=>whnf))
  (refine fM ?_;(conv=>whnf);refine ⟨?_,rfl⟩;(conv=>whnf))
  (repeat' first|exact rfl|exact trivial|exact wR|exact lR _|apply aI)
 have hc : checkM m = 0 := by simpa using hc
 have hM := checkM_ok hc
 rw [hc, errAV_zero] at cc
 have hev := hM.lens.1
 have hhs := hM.lens.2
 obtain ⟨set, hset, hse⟩ := and_mask set0 hev
 refine FnH.intro lay mixed Try.func5 (by kernel_rfl) rfl (by kernel_rfl) rfl fun hok => ?_
 have hi0 : 0 ≤ i0 ∧ i0 < 256 := by
  have h2 : InR .u8 i0 := hok.2.1
  exact ⟨h2.1, Int.lt_of_le_of_lt h2.2 (by decide)⟩
 ((try dsimp only[argC,succC]);(try dsimp only[awp]);(conv=>whnf))
 refine .pure _ _ ?_ ⟨rfl, rfl⟩ c0 fun _ => ?_
 ·exact leL_refl _
 ((try dsimp only[awp]);(conv=>whnf))
 refine .pure _ _ ?_ ⟨rfl, rfl⟩ cl fun _ => ?_
 ·exact leL_refl _
 ((try dsimp only[awp]);(conv=>whnf))
 refine .pure _ _ ?_ ⟨rfl, rfl⟩ cc fun _ => ?_
 ·exact leL_refl _
 ((try dsimp only[awp]);(conv=>whnf))
 refine And.intro (fun h => ?_) (fun hn => ?_)
 ·((try dsimp only[awp]);(conv=>whnf))
  refine .pure _ _ ?_ ⟨rfl, rfl⟩ c0 fun _ => ?_
  ·exact leL_refl _
  ((try dsimp only[awp]);(conv=>whnf))
  (refine fM ?_;(conv=>whnf);refine ⟨?_,rfl⟩;(conv=>whnf))
  (repeat' first|exact rfl|exact trivial|exact wR|exact lR _|apply aI)
 ((try dsimp only[awp]);(conv=>whnf))
 refine ⟨hn, ?_⟩
 ((try dsimp only[awp]);(conv=>whnf))
 obtain ⟨k, hk, hke⟩ : ∃ k : Nat, k < m.hs.length ∧ (IntKind.i64.wrap i0).tmod (((m.hs.map Hs.av).length : Nat) : Int) = (k : Int) := by
  rw [wrap64 (by omega) (by omega)]
  have hp : (0 : Int) < (((m.hs.map Hs.av).length : Nat) : Int) := by omega
  have h1 := Int.tmod_nonneg (((m.hs.map Hs.av).length : Nat) : Int) hi0.1
  have h2 := Int.tmod_lt_of_pos i0 hp
  simp only [List.length_map] at h1 h2 ⊢
  exact ⟨(i0.tmod (m.hs.length : Int)).toNat, by omega, by omega⟩
 rw [hke]
 rw [show (((m.evs.map Ev.av).length : Nat) : Int) = (m.evs.length : Int) by simp]
 refine ⟨by omega, ?_⟩
 rw [shl_one (by omega)]
 ((try dsimp only[awp]);(conv=>whnf))
 refine ⟨inr64 (by have := Nat.one_le_two_pow (n := m.evs.length); omega) (by have := Nat.pow_le_pow_right (n := 2) (by decide) hev; omega), ?_⟩
 ((try dsimp only[awp]);(conv=>whnf))
 rw [hse]
 have ca := c_At m m.hs[k].name hC hB _ rfl
 rw [house_at hM hk] at ca
 unfold atAV at ca
 rw [errAV_zero] at ca
 (refine ADraw.auto (by kernel_rfl) ?_;(conv=>whnf))
 refine aidx hk ?_
 (conv=>whnf)
 refine ACallP.pure _ _ ?_ ⟨rfl, rfl⟩ ca ?_
 ·exact leL_refl _
 ((try dsimp only[awp]);(conv=>whnf))
 (refine ADraw.auto (by kernel_rfl) ?_;(conv=>whnf))
 refine And.intro (fun h => absurd rfl h) (fun _ => ?_)
 (conv=>whnf)
 refine AIdx.mk ⟨_, ⟨by decide, rfl⟩, ?_⟩
 (conv=>whnf)
 refine And.intro (fun h => absurd rfl h) (fun _ => ?_)
 (conv=>whnf)
 refine AIdx.mk ⟨_, ⟨by decide, rfl⟩, ?_⟩
 (conv=>whnf)
 refine aidx hk ?_
 (conv=>whnf)
 refine And.intro (fun h => by exfalso; apply h; by_cases ho : m.hs[k].on = true <;> simp [ho]) (fun _ => ?_)
 ((try dsimp only[awp]);(conv=>whnf))
 refine .wr ?_ ?_ ?_ fun cp hcp1 hcp2 => ?_
 ·intro e
  have := congrArg List.length e
  simp at this
  rw [this] at hk; simp at hk
 ·simp [maxL]; omega
 ·simp; omega
 ((try dsimp only[awp]);(conv=>whnf))
 (refine ADraw.auto (by kernel_rfl) ?_;(conv=>whnf))
 refine ⟨⟨by omega, by simp; omega⟩, ?_⟩
 (conv=>whnf)
 have hz : 0 + ((k : Int)).toNat = k := by simp
 rw [hz, List.nil_append]
 refine aidx hk ?_
 ((try dsimp only[awp]);(conv=>whnf))
 refine ⟨rfl, ?_⟩
 ((try dsimp only[awp]);(conv=>whnf))
 refine ⟨⟨by omega, by simp; omega⟩, ?_⟩
 ((try dsimp only[awp]);(conv=>whnf))
 try rw [hz]
 try rw [List.nil_append]
 refine aidx hk ?_
 ((try dsimp only[awp]);(conv=>whnf))
 refine ⟨rfl, ?_⟩
 ((try dsimp only[awp]);(conv=>whnf))
 generalize hhs2 : m.hs.set k ⟨m.hs[k].name, !m.hs[k].on⟩ = hs2 at *
 have hnm : hs2.map Hs.name = m.hs.map Hs.name := by
  rw [← hhs2, List.map_set]
  apply List.ext_getElem
  ·simp
  ·intro j h1 h2
   rw [List.getElem_set]
   split
   ·rename_i e; subst e; simp
   ·rfl
 have hlen : hs2.length = m.hs.length := by rw [← hhs2, List.length_set]
 have hcn : checkM (tnM m hs2) = 0 := (tn_check hnm).trans hc
 have hN := checkM_ok hcn
 have hBn : MdB (tnM m hs2) := ⟨hB.evs, by show hs2.length ≤ 60; rw [hlen]; exact hB.hs, hB.gates, hB.pages, hB.pgates, hB.grs, hB.mem, hB.phs, hB.vals⟩
 have hCn : MdC (tnM m hs2) := ⟨hC.evs, hC.gates, hC.pages, hC.grs, hC.phs⟩
 have cs := c_Static m hC hB _ rfl
 have cs2 := c_Static (tnM m hs2) hCn hBn _ rfl
 rw [show staticR m = atR m m.top from if_neg (by rw [hc]; simp)] at cs
 rw [show staticR (tnM m hs2) = atR (tnM m hs2) m.top from if_neg (by rw [hcn]; simp)] at cs2
 obtain ⟨ht1, ht2⟩ := tn_top hnm m.top
 have hav : (m.hs.map Hs.av).set k (strip (AV.ag [AV.str m.hs[k].name, AV.bool !m.hs[k].on])) = hs2.map Hs.av := by
  rw [← hhs2, List.map_set]; rfl
 rw [hav]
 clear hav hhs2
 have hargs : (AV.ag [.str m.name, .str m.top, .sl 11 (m.evs.map Ev.av) .no, .sl 2 (((hs2.map Hs.av).drop 0).take (([] : List AV).length + (m.hs.map Hs.av).length)) .no, gL m.gates, .sl 3 (m.pages.map Pg.av) .no, .sl 4 (m.grs.map Gr.av) .no, .sl 3 (m.phs.map Ph.av) .no]) = (tnM m hs2).av := by
  rw [List.drop_zero, List.take_of_length_le (by simp [hlen])]
 have hlh : (0 : Nat) + (([] : List AV).length + (m.hs.map Hs.av).length) ≤ (hs2.map Hs.av).length := by simp [hlen]
 cases he : (compTop m m.top).1.1 with
 | true =>
   rw [atR_err hM hM.top he] at cs
   rw [atR_err hN hN.top (by rw [ht1]; exact he)] at cs2
   rw [show atAV ((⟨0, [], 0⟩, 7) : Fo × Int) = .tup [(⟨0, [], 0⟩ : Fo).av, errAV 7] from by rw [errAV_ne (by decide)]; rfl] at cs cs2
   have key : ∀ (x : AV) (H : Heap), x = (tnM m hs2).av → FnH Try.prog 10 [x] H (.tup [(⟨0, [], 0⟩ : Fo).av, errAV 7]) H := by
    rintro _ H rfl
    exact FnH.ofPure cs2 (leL_refl _) ⟨rfl, rfl⟩
   have cnum := c_Num 7
   rw [errAV_ne (by decide)] at cs key cnum
   refine .pure _ _ ?_ ⟨rfl, rfl⟩ cs fun _ => ?_
   ·exact leL_refl _
   ((try dsimp only[awp]);(conv=>whnf))
   refine .gen _ _ (FnH.frzN 0 3 rfl rfl rfl hlh (key _ _ hargs)) fun _ => ?_
   ((try dsimp only[awp]);(conv=>whnf))
   refine .pure _ _ ?_ ⟨rfl, rfl⟩ cnum fun _ => ?_
   ·exact leL_refl _
   ((try dsimp only[awp]);(conv=>whnf))
   refine .pure _ _ ?_ ⟨rfl, rfl⟩ cnum fun _ => ?_
   ·exact leL_refl _
   ((try dsimp only[awp]);(conv=>whnf))
   (refine fM ?_;(conv=>whnf);refine ⟨?_,rfl⟩;(conv=>whnf))
   (repeat' first|exact rfl|exact trivial|exact wR|exact lR _|apply aI)
   all_goals simp
 | false =>
   have he2 : (compTop (tnM m hs2) m.top).1.1 = false := by rw [ht1]; exact he
   rw [atR_ok hM hM.top he] at cs
   rw [atR_ok hN hN.top he2] at cs2
   have hF := at_ok hM hM.top he
   have hF2 := at_ok hN hN.top he2
   have cv := c_fValue _ hF set (by simpa using hset)
   have cv2 := c_fValue _ hF2 set (by simpa using hset)
   have cfd := c_formD ⟨m.evs.length, (compTop m m.top).2.nodes, (compTop m m.top).1.2⟩ ⟨m.evs.length, (compTop (tnM m hs2) m.top).2.nodes, (compTop (tnM m hs2) m.top).1.2⟩
   unfold atAV at cs cs2
   rw [errAV_zero] at cs cs2
   have key : ∀ (x : AV) (H : Heap), x = (tnM m hs2).av → FnH Try.prog 10 [x] H (.tup [(⟨m.evs.length, (compTop (tnM m hs2) m.top).2.nodes, (compTop (tnM m hs2) m.top).1.2⟩ : Fo).av, .nilI]) H := by
    rintro _ H rfl
    exact FnH.ofPure cs2 (leL_refl _) ⟨rfl, rfl⟩
   refine .pure _ _ ?_ ⟨rfl, rfl⟩ cs fun _ => ?_
   ·exact leL_refl _
   ((try dsimp only[awp]);(conv=>whnf))
   refine .gen _ _ (FnH.frzN 0 3 rfl rfl rfl hlh (key _ _ hargs)) fun _ => ?_
   ((try dsimp only[awp]);(conv=>whnf))
   refine .pure _ _ ?_ ⟨rfl, rfl⟩ cv fun _ => ?_
   ·exact leL_refl _
   ((try dsimp only[awp]);(conv=>whnf))
   refine .pure _ _ ?_ ⟨rfl, rfl⟩ cv2 fun _ => ?_
   ·exact leL_refl _
   have hl2 : (compTop m m.top).2.nodes.length = (compTop (tnM m hs2) m.top).2.nodes.length := ht2.symm
   refine And.intro (fun h => by exfalso; apply h; simp [hl2]) (fun _ => ?_)
   ((try dsimp only[awp]);(conv=>whnf))
   refine And.intro (fun hxy => ?_) (fun hxy => ?_)
   ·((try dsimp only[awp]);(conv=>whnf))
    (refine fM ?_;(conv=>whnf);refine ⟨?_,rfl⟩;(conv=>whnf))
    (repeat' first|exact rfl|exact trivial|exact wR|exact lR _|apply aI)
    all_goals first | (simp [hxy]; done) | exact hxy | trace_state
   ·have hfg : ¬ ((⟨m.evs.length, (compTop m m.top).2.nodes, (compTop m m.top).1.2⟩ : Fo) = ⟨m.evs.length, (compTop (tnM m hs2) m.top).2.nodes, (compTop (tnM m hs2) m.top).1.2⟩) := by
     intro e
     injection e with e1 e2 e3
     exact hxy (by rw [e2, e3])
    rw [decide_eq_false hfg] at cfd
    ((try dsimp only[awp]);(conv=>whnf))
    refine .pure _ _ ?_ ⟨rfl, rfl⟩ cfd fun _ => ?_
    ·exact leL_refl _
    ((try dsimp only[awp]);(conv=>whnf))
    (refine fM ?_;(conv=>whnf);refine ⟨?_,rfl⟩;(conv=>whnf))
    (repeat' first|exact rfl|exact trivial|exact wR|exact lR _|apply aI)
    all_goals first | rfl | (simp; done) | trace_state
end S
