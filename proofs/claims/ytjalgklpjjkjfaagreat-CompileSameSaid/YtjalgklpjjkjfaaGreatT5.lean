/-
  Contracts of functions of the program, over the logic of the texts before. Nothing is assumed.
-/
import Derived.Test.YtjalgklpjjkjfaaGreatT4

open Go Go.AL Go.Proofs
namespace S
set_option maxRecDepth 100000

def fewG (x : Mg) : Bool := decide (x.ins.length ≤ 40) && shortR x.dorm
def fewR (l : List Mg) : Bool := l.all fewG && decide (l.length ≤ 100)
def evS (x : Ev) : Bool := shortR x.p && shortR x.fail && shortR x.repair
def grS (x : Gr) : Bool := decide (x.mem.length ≤ 60) && decide (x.fac.length ≤ 60) && x.fac.all shortR
def phS (x : Ph) : Bool := decide (x.vals.length ≤ 60) && x.vals.all fun v => shortR v.p

def lightM (m : Md) : Bool := decide (m.evs.length ≤ 60) && decide (m.hs.length ≤ 60) && decide (m.pages.length ≤ 30) && decide (m.grs.length ≤ 30) && decide (m.phs.length ≤ 30) && fewR m.gates &&
 m.evs.all evS && (m.pages.all fun p => fewR p.gates) && m.grs.all grS && m.phs.all phS

theorem c_few (l : List Mg) (R : AV) (hR : R = .bool (fewR l)) : FnH Tryz.prog 42 [gL l] [] R [] := by
 refine FnH.intro lay mixed Tryz.func42 (by kernel_rfl) rfl (by kernel_rfl) rfl fun hok => ?_
 have lg : l.length ≤ 9223372036854775807 := by have := hok.1.1; simpa [maxL] using this
 (try dsimp only[argC,succC]);(try dsimp only[awp]);conv=>whnf
 refine LoopE.of <| LoopSpec.inv (.refl _ _) (fun (i : Nat) => i ≤ l.length ∧ (l.take i).all fewG = true) (fun (i : Nat) => [(7, .int .i64 i)]) (fun _ => _) (fun (i : Nat) => l.length - i) 0 ?_ (fun _ => rfl) ?_ ?_
 ·exact ⟨Nat.zero_le _, by simp⟩
 ·repeat' first|exact rfl|exact trivial|exact wR|exact lR _|apply aI
 rintro i ⟨hi, hn⟩ _
 (try dsimp only[awp]);conv=>whnf
 refine And.intro (fun h => ?_) (fun h => ?_)
 ·have hlt : i < l.length := by simpa using h
  have hall := all_take (p := fewG) hlt
  have hmem := List.getElem_mem hlt
  (try dsimp only[awp]);conv=>whnf
  refine aidx hlt ?_
  generalize l[i] = g at *
  have no : fewG g = false → R = .bool false := fun h => by rw [hR]; unfold fewR; rw [all_false hmem h]; rfl
  (try dsimp only[awp]);conv=>whnf
  refine And.intro (fun h1 => ?_) (fun h1 => ?_)
  ·have h1 : ¬ g.ins.length ≤ 40 := by simp only [List.length_map] at h1; omega
   obtain rfl := no (by simp [fewG, h1])
   (try dsimp only[awp]);conv=>whnf
   refine fM ?_;(conv=>whnf);refine ⟨?_,rfl⟩;conv=>whnf
   repeat' first|exact rfl|exact trivial|exact wR|exact lR _|apply aI
  have h1 : g.ins.length ≤ 40 := by simp only [List.length_map] at h1; omega
  (try dsimp only[awp]);conv=>whnf
  refine .pure _ _ ?_ ⟨rfl, rfl⟩ (c_Short g.dorm) fun _ => ?_
  ·exact leL_refl _
  (try dsimp only[awp]);conv=>whnf
  refine And.intro (fun h2 => ?_) (fun h2 => ?_)
  ·have h2 : shortR g.dorm = false := by simpa using h2
   obtain rfl := no (by simp [fewG, h2])
   (try dsimp only[awp]);conv=>whnf
   refine fM ?_;(conv=>whnf);refine ⟨?_,rfl⟩;conv=>whnf
   repeat' first|exact rfl|exact trivial|exact wR|exact lR _|apply aI
  have h2 : shortR g.dorm = true := by simpa using h2
  (try dsimp only[awp]);conv=>whnf
  refine zA ?_;conv=>whnf
  refine ⟨i + 1, ?_, ?_, ?_⟩
  ·exact ⟨hlt, by rw [hall, hn]; simp [fewG, h1, h2]⟩
  ·refine ⟨?_, .mk ?_ trivial⟩
   ·repeat' first|exact rfl|exact trivial|exact wR|exact lR _|apply aI
   ·repeat' first|exact rfl|exact trivial|exact wR|exact lR _|apply aI
  ·omega
 have hil : i = l.length := by have : ¬ i < l.length := by simpa using h
                               omega
 subst hil
 rw [List.take_length] at hn
 subst hR
 (try dsimp only[awp]);conv=>whnf
 refine fM ?_;(conv=>whnf);refine ⟨?_,rfl⟩;conv=>whnf
 show _ ↔ _
 simp [fewR, hn]
 omega

theorem c_LightM (m : Md) (R : AV) (hR : R = .bool (lightM m)) : FnH Tryz.prog 12 [m.av] [] R [] := by
 refine FnH.intro lay mixed Tryz.func12 (by kernel_rfl) rfl (by kernel_rfl) rfl fun hok => ?_
 (try dsimp only[argC,succC]);(try dsimp only[awp]);conv=>whnf
 refine And.intro (fun h1 => ?_) (fun h1 => ?_)
 ·have h1 : ¬ m.evs.length ≤ 60 := by simp only [List.length_map] at h1; omega
  obtain rfl : R = .bool false := by rw [hR]; congr 1; unfold lightM; rw [decide_eq_false h1]; simp
  (try dsimp only[awp]);conv=>whnf
  refine fM ?_;(conv=>whnf);refine ⟨?_,rfl⟩;conv=>whnf
  repeat' first|exact rfl|exact trivial|exact wR|exact lR _|apply aI
 have h1 : m.evs.length ≤ 60 := by simp only [List.length_map] at h1; omega
 (try dsimp only[awp]);conv=>whnf
 refine And.intro (fun h2 => ?_) (fun h2 => ?_)
 ·have h2 : ¬ m.hs.length ≤ 60 := by simp only [List.length_map] at h2; omega
  obtain rfl : R = .bool false := by rw [hR]; congr 1; unfold lightM; rw [decide_eq_false h2]; simp
  (try dsimp only[awp]);conv=>whnf
  refine fM ?_;(conv=>whnf);refine ⟨?_,rfl⟩;conv=>whnf
  repeat' first|exact rfl|exact trivial|exact wR|exact lR _|apply aI
 have h2 : m.hs.length ≤ 60 := by simp only [List.length_map] at h2; omega
 (try dsimp only[awp]);conv=>whnf
 refine And.intro (fun h3 => ?_) (fun h3 => ?_)
 ·have h3 : ¬ m.pages.length ≤ 30 := by simp only [List.length_map] at h3; omega
  obtain rfl : R = .bool false := by rw [hR]; congr 1; unfold lightM; rw [decide_eq_false h3]; simp
  (try dsimp only[awp]);conv=>whnf
  refine fM ?_;(conv=>whnf);refine ⟨?_,rfl⟩;conv=>whnf
  repeat' first|exact rfl|exact trivial|exact wR|exact lR _|apply aI
 have h3 : m.pages.length ≤ 30 := by simp only [List.length_map] at h3; omega
 (try dsimp only[awp]);conv=>whnf
 refine And.intro (fun h4 => ?_) (fun h4 => ?_)
 ·have h4 : ¬ m.grs.length ≤ 30 := by simp only [List.length_map] at h4; omega
  obtain rfl : R = .bool false := by rw [hR]; congr 1; unfold lightM; rw [decide_eq_false h4]; simp
  (try dsimp only[awp]);conv=>whnf
  refine fM ?_;(conv=>whnf);refine ⟨?_,rfl⟩;conv=>whnf
  repeat' first|exact rfl|exact trivial|exact wR|exact lR _|apply aI
 have h4 : m.grs.length ≤ 30 := by simp only [List.length_map] at h4; omega
 (try dsimp only[awp]);conv=>whnf
 refine And.intro (fun h5 => ?_) (fun h5 => ?_)
 ·have h5 : ¬ m.phs.length ≤ 30 := by simp only [List.length_map] at h5; omega
  obtain rfl : R = .bool false := by rw [hR]; congr 1; unfold lightM; rw [decide_eq_false h5]; simp
  (try dsimp only[awp]);conv=>whnf
  refine fM ?_;(conv=>whnf);refine ⟨?_,rfl⟩;conv=>whnf
  repeat' first|exact rfl|exact trivial|exact wR|exact lR _|apply aI
 have h5 : m.phs.length ≤ 30 := by simp only [List.length_map] at h5; omega
 (try dsimp only[awp]);conv=>whnf
 refine .pure _ _ ?_ ⟨rfl, rfl⟩ (c_few m.gates _ rfl) fun _ => ?_
 ·exact leL_refl _
 (try dsimp only[awp]);conv=>whnf
 refine And.intro (fun h6 => ?_) (fun h6 => ?_)
 ·have h6 : fewR m.gates = false := by simpa using h6
  obtain rfl : R = .bool false := by rw [hR]; congr 1; unfold lightM; rw [h6]; simp
  (try dsimp only[awp]);conv=>whnf
  refine fM ?_;(conv=>whnf);refine ⟨?_,rfl⟩;conv=>whnf
  repeat' first|exact rfl|exact trivial|exact wR|exact lR _|apply aI
 have h6 : fewR m.gates = true := by simpa using h6
 (try dsimp only[awp]);conv=>whnf
 refine LoopE.of <| LoopSpec.inv (.refl _ _) (fun (i : Nat) => i ≤ m.evs.length ∧ (m.evs.take i).all evS = true) (fun (i : Nat) => [(52, .int .i64 i)]) (fun _ => _) (fun (i : Nat) => m.evs.length - i) 0 ?_ (fun _ => rfl) ?_ ?_
 ·exact ⟨Nat.zero_le _, by simp⟩
 ·repeat' first|exact rfl|exact trivial|exact wR|exact lR _|apply aI
 rintro i ⟨hi, hn⟩ _
 (try dsimp only[awp]);conv=>whnf
 refine And.intro (fun h => ?_) (fun h => ?_)
 ·have hlt : i < m.evs.length := by simpa using h
  have hall := all_take (p := evS) hlt
  have hmem := List.getElem_mem hlt
  (try dsimp only[awp]);conv=>whnf
  refine aidx hlt ?_
  generalize m.evs[i] = g at *
  (try dsimp only[awp]);conv=>whnf
  refine .pure _ _ ?_ ⟨rfl, rfl⟩ (c_Short g.p) fun _ => ?_
  ·exact leL_refl _
  (try dsimp only[awp]);conv=>whnf
  refine And.intro (fun q1 => ?_) (fun q1 => ?_)
  ·have q1 : shortR g.p = false := by simpa using q1
   obtain rfl : R = .bool false := by rw [hR]; congr 1; unfold lightM; rw [all_false hmem (show evS g = false by simp [evS, q1])]; simp
   (try dsimp only[awp]);conv=>whnf
   refine fM ?_;(conv=>whnf);refine ⟨?_,rfl⟩;conv=>whnf
   repeat' first|exact rfl|exact trivial|exact wR|exact lR _|apply aI
  have q1 : shortR g.p = true := by simpa using q1
  (try dsimp only[awp]);conv=>whnf
  refine .pure _ _ ?_ ⟨rfl, rfl⟩ (c_Short g.fail) fun _ => ?_
  ·exact leL_refl _
  (try dsimp only[awp]);conv=>whnf
  refine And.intro (fun q2 => ?_) (fun q2 => ?_)
  ·have q2 : shortR g.fail = false := by simpa using q2
   obtain rfl : R = .bool false := by rw [hR]; congr 1; unfold lightM; rw [all_false hmem (show evS g = false by simp [evS, q2])]; simp
   (try dsimp only[awp]);conv=>whnf
   refine fM ?_;(conv=>whnf);refine ⟨?_,rfl⟩;conv=>whnf
   repeat' first|exact rfl|exact trivial|exact wR|exact lR _|apply aI
  have q2 : shortR g.fail = true := by simpa using q2
  (try dsimp only[awp]);conv=>whnf
  refine .pure _ _ ?_ ⟨rfl, rfl⟩ (c_Short g.repair) fun _ => ?_
  ·exact leL_refl _
  (try dsimp only[awp]);conv=>whnf
  refine And.intro (fun q3 => ?_) (fun q3 => ?_)
  ·have q3 : shortR g.repair = false := by simpa using q3
   obtain rfl : R = .bool false := by rw [hR]; congr 1; unfold lightM; rw [all_false hmem (show evS g = false by simp [evS, q3])]; simp
   (try dsimp only[awp]);conv=>whnf
   refine fM ?_;(conv=>whnf);refine ⟨?_,rfl⟩;conv=>whnf
   repeat' first|exact rfl|exact trivial|exact wR|exact lR _|apply aI
  have q3 : shortR g.repair = true := by simpa using q3
  (try dsimp only[awp]);conv=>whnf
  refine zA ?_;conv=>whnf
  refine ⟨i + 1, ?_, ?_, ?_⟩
  ·exact ⟨hlt, by rw [hall, hn]; simp [evS, q1, q2, q3]⟩
  ·refine ⟨?_, .mk ?_ ⟨by simp, trivial⟩⟩
   ·repeat' first|exact rfl|exact trivial|exact wR|exact lR _|apply aI
   ·repeat' first|exact rfl|exact trivial|exact wR|exact lR _|apply aI
  ·omega
 have hil : i = m.evs.length := by have : ¬ i < m.evs.length := by simpa using h
                                   omega
 subst hil
 rw [List.take_length] at hn
 have a1 := hn
 clear h hi hn
 (try dsimp only[awp]);conv=>whnf
 refine LoopE.of <| LoopSpec.inv (.refl _ _) (fun (i : Nat) => i ≤ m.pages.length ∧ (m.pages.take i).all (fun p => fewR p.gates) = true) (fun (i : Nat) => [(76, .int .i64 i)]) (fun _ => _) (fun (i : Nat) => m.pages.length - i) 0 ?_ (fun _ => rfl) ?_ ?_
 ·exact ⟨Nat.zero_le _, by simp⟩
 ·repeat' first|exact rfl|exact trivial|exact wR|exact lR _|apply aI
 rintro i ⟨hi, hn⟩ _
 (try dsimp only[awp]);conv=>whnf
 refine And.intro (fun h => ?_) (fun h => ?_)
 ·have hlt : i < m.pages.length := by simpa using h
  have hall := all_take (p := fun p : Pg => fewR p.gates) hlt
  have hmem := List.getElem_mem hlt
  (try dsimp only[awp]);conv=>whnf
  refine aidx hlt ?_
  generalize m.pages[i] = g at *
  (try dsimp only[awp]);conv=>whnf
  refine .pure _ _ ?_ ⟨rfl, rfl⟩ (c_few g.gates _ rfl) fun _ => ?_
  ·exact leL_refl _
  (try dsimp only[awp]);conv=>whnf
  refine And.intro (fun q1 => ?_) (fun q1 => ?_)
  ·have q1 : fewR g.gates = false := by simpa using q1
   obtain rfl : R = .bool false := by rw [hR]; congr 1; unfold lightM; rw [all_false (p := fun p : Pg => fewR p.gates) hmem q1]; simp
   (try dsimp only[awp]);conv=>whnf
   refine fM ?_;(conv=>whnf);refine ⟨?_,rfl⟩;conv=>whnf
   repeat' first|exact rfl|exact trivial|exact wR|exact lR _|apply aI
  have q1 : fewR g.gates = true := by simpa using q1
  (try dsimp only[awp]);conv=>whnf
  refine zA ?_;conv=>whnf
  refine ⟨i + 1, ?_, ?_, ?_⟩
  ·exact ⟨hlt, by rw [hall, hn]; simp [q1]⟩
  ·refine ⟨?_, .mk ?_ ⟨by simp, trivial⟩⟩
   ·repeat' first|exact rfl|exact trivial|exact wR|exact lR _|apply aI
   ·repeat' first|exact rfl|exact trivial|exact wR|exact lR _|apply aI
  ·omega
 have hil : i = m.pages.length := by have : ¬ i < m.pages.length := by simpa using h
                                     omega
 subst hil
 rw [List.take_length] at hn
 have a2 := hn
 clear h hi hn
 (try dsimp only[awp]);conv=>whnf
 refine LoopE.of <| LoopSpec.inv (.refl _ _) (fun (i : Nat) => i ≤ m.grs.length ∧ (m.grs.take i).all grS = true) (fun (i : Nat) => [(88, .int .i64 i)]) (fun _ => _) (fun (i : Nat) => m.grs.length - i) 0 ?_ (fun _ => rfl) ?_ ?_
 ·exact ⟨Nat.zero_le _, by simp⟩
 ·repeat' first|exact rfl|exact trivial|exact wR|exact lR _|apply aI
 rintro i ⟨hi, hn⟩ _
 (try dsimp only[awp]);conv=>whnf
 refine And.intro (fun h => ?_) (fun h => ?_)
 ·have hlt : i < m.grs.length := by simpa using h
  have hall := all_take (p := grS) hlt
  have hmem := List.getElem_mem hlt
  (try dsimp only[awp]);conv=>whnf
  refine aidx hlt ?_
  generalize m.grs[i] = g at *
  (try dsimp only[awp]);conv=>whnf
  refine And.intro (fun q1 => ?_) (fun q1 => ?_)
  ·have q1 : ¬ g.mem.length ≤ 60 := by simp only [List.length_map] at q1; omega
   obtain rfl : R = .bool false := by rw [hR]; congr 1; unfold lightM; rw [all_false hmem (show grS g = false by simp [grS, q1])]; simp
   (try dsimp only[awp]);conv=>whnf
   refine fM ?_;(conv=>whnf);refine ⟨?_,rfl⟩;conv=>whnf
   repeat' first|exact rfl|exact trivial|exact wR|exact lR _|apply aI
  have q1 : g.mem.length ≤ 60 := by simp only [List.length_map] at q1; omega
  (try dsimp only[awp]);conv=>whnf
  refine And.intro (fun q2 => ?_) (fun q2 => ?_)
  ·have q2 : ¬ g.fac.length ≤ 60 := by simp only [List.length_map] at q2; omega
   obtain rfl : R = .bool false := by rw [hR]; congr 1; unfold lightM; rw [all_false hmem (show grS g = false by simp [grS, q2])]; simp
   (try dsimp only[awp]);conv=>whnf
   refine fM ?_;(conv=>whnf);refine ⟨?_,rfl⟩;conv=>whnf
   repeat' first|exact rfl|exact trivial|exact wR|exact lR _|apply aI
  have q2 : g.fac.length ≤ 60 := by simp only [List.length_map] at q2; omega
  (try dsimp only[awp]);conv=>whnf
  refine LoopE.of <| LoopSpec.inv (.refl _ _) (fun (j : Nat) => j ≤ g.fac.length ∧ (g.fac.take j).all shortR = true) (fun (j : Nat) => [(105, .int .i64 j)]) (fun _ => _) (fun (j : Nat) => g.fac.length - j) 0 ?_ (fun _ => rfl) ?_ ?_
  ·exact ⟨Nat.zero_le _, by simp⟩
  ·repeat' first|exact rfl|exact trivial|exact wR|exact lR _|apply aI
  rintro j ⟨hj, hnj⟩ _
  (try dsimp only[awp]);conv=>whnf
  refine And.intro (fun hh => ?_) (fun hh => ?_)
  ·have hjl : j < g.fac.length := by simpa using hh
   have hallj := all_take (p := shortR) hjl
   have hmj := List.getElem_mem hjl
   (try dsimp only[awp]);conv=>whnf
   refine aidx hjl ?_
   generalize g.fac[j] = r at *
   (try dsimp only[awp]);conv=>whnf
   refine .pure _ _ ?_ ⟨rfl, rfl⟩ (c_Short r) fun _ => ?_
   ·exact leL_refl _
   (try dsimp only[awp]);conv=>whnf
   refine And.intro (fun q3 => ?_) (fun q3 => ?_)
   ·have q3 : shortR r = false := by simpa using q3
    obtain rfl : R = .bool false := by rw [hR]; congr 1; unfold lightM; rw [all_false hmem (show grS g = false by simp [grS, all_false hmj q3])]; simp
    (try dsimp only[awp]);conv=>whnf
    refine fM ?_;(conv=>whnf);refine ⟨?_,rfl⟩;conv=>whnf
    repeat' first|exact rfl|exact trivial|exact wR|exact lR _|apply aI
   have q3 : shortR r = true := by simpa using q3
   (try dsimp only[awp]);conv=>whnf
   refine zA ?_;conv=>whnf
   refine ⟨j + 1, ?_, ?_, ?_⟩
   ·exact ⟨hjl, by rw [hallj, hnj, q3]; rfl⟩
   ·refine ⟨?_, .mk ?_ ⟨by simp, by simp, trivial⟩⟩
    ·repeat' first|exact rfl|exact trivial|exact wR|exact lR _|apply aI
    ·repeat' first|exact rfl|exact trivial|exact wR|exact lR _|apply aI
   ·omega
  have hjl : j = g.fac.length := by have : ¬ j < g.fac.length := by simpa using hh
                                    omega
  subst hjl
  rw [List.take_length] at hnj
  (try dsimp only[awp]);conv=>whnf
  refine zA ?_;conv=>whnf
  refine ⟨i + 1, ?_, ?_, ?_⟩
  ·exact ⟨hlt, by rw [hall, hn]; simp [grS, q1, q2, hnj]⟩
  ·refine ⟨?_, .mk ?_ ⟨by simp, trivial⟩⟩
   ·repeat' first|exact rfl|exact trivial|exact wR|exact lR _|apply aI
   ·repeat' first|exact rfl|exact trivial|exact wR|exact lR _|apply aI
  ·omega
 have hil : i = m.grs.length := by have : ¬ i < m.grs.length := by simpa using h
                                   omega
 subst hil
 rw [List.take_length] at hn
 have a3 := hn
 clear h hi hn
 (try dsimp only[awp]);conv=>whnf
 refine LoopE.of <| LoopSpec.inv (.refl _ _) (fun (i : Nat) => i ≤ m.phs.length ∧ (m.phs.take i).all phS = true) (fun (i : Nat) => [(117, .int .i64 i)]) (fun _ => _) (fun (i : Nat) => m.phs.length - i) 0 ?_ (fun _ => rfl) ?_ ?_
 ·exact ⟨Nat.zero_le _, by simp⟩
 ·repeat' first|exact rfl|exact trivial|exact wR|exact lR _|apply aI
 rintro i ⟨hi, hn⟩ _
 (try dsimp only[awp]);conv=>whnf
 refine And.intro (fun h => ?_) (fun h => ?_)
 ·have hlt : i < m.phs.length := by simpa using h
  have hall := all_take (p := phS) hlt
  have hmem := List.getElem_mem hlt
  (try dsimp only[awp]);conv=>whnf
  refine aidx hlt ?_
  generalize m.phs[i] = g at *
  (try dsimp only[awp]);conv=>whnf
  refine And.intro (fun q1 => ?_) (fun q1 => ?_)
  ·have q1 : ¬ g.vals.length ≤ 60 := by simp only [List.length_map] at q1; omega
   obtain rfl : R = .bool false := by rw [hR]; congr 1; unfold lightM; rw [all_false hmem (show phS g = false by simp [phS, q1])]; simp
   (try dsimp only[awp]);conv=>whnf
   refine fM ?_;(conv=>whnf);refine ⟨?_,rfl⟩;conv=>whnf
   repeat' first|exact rfl|exact trivial|exact wR|exact lR _|apply aI
  have q1 : g.vals.length ≤ 60 := by simp only [List.length_map] at q1; omega
  (try dsimp only[awp]);conv=>whnf
  refine LoopE.of <| LoopSpec.inv (.refl _ _) (fun (j : Nat) => j ≤ g.vals.length ∧ (g.vals.take j).all (fun v => shortR v.p) = true) (fun (j : Nat) => [(128, .int .i64 j)]) (fun _ => _) (fun (j : Nat) => g.vals.length - j) 0 ?_ (fun _ => rfl) ?_ ?_
  ·exact ⟨Nat.zero_le _, by simp⟩
  ·repeat' first|exact rfl|exact trivial|exact wR|exact lR _|apply aI
  rintro j ⟨hj, hnj⟩ _
  (try dsimp only[awp]);conv=>whnf
  refine And.intro (fun hh => ?_) (fun hh => ?_)
  ·have hjl : j < g.vals.length := by simpa using hh
   have hallj := all_take (p := fun v : Pv => shortR v.p) hjl
   have hmj := List.getElem_mem hjl
   (try dsimp only[awp]);conv=>whnf
   refine aidx hjl ?_
   generalize g.vals[j] = r at *
   (try dsimp only[awp]);conv=>whnf
   refine .pure _ _ ?_ ⟨rfl, rfl⟩ (c_Short r.p) fun _ => ?_
   ·exact leL_refl _
   (try dsimp only[awp]);conv=>whnf
   refine And.intro (fun q3 => ?_) (fun q3 => ?_)
   ·have q3 : shortR r.p = false := by simpa using q3
    have q4 := all_false (p := fun v : Pv => shortR v.p) hmj q3
    obtain rfl : R = .bool false := by rw [hR]; congr 1; unfold lightM; rw [all_false hmem (show phS g = false by unfold phS; rw [q4]; simp)]; simp
    (try dsimp only[awp]);conv=>whnf
    refine fM ?_;(conv=>whnf);refine ⟨?_,rfl⟩;conv=>whnf
    repeat' first|exact rfl|exact trivial|exact wR|exact lR _|apply aI
   have q3 : shortR r.p = true := by simpa using q3
   (try dsimp only[awp]);conv=>whnf
   refine zA ?_;conv=>whnf
   refine ⟨j + 1, ?_, ?_, ?_⟩
   ·exact ⟨hjl, by rw [hallj, hnj, q3]; rfl⟩
   ·refine ⟨?_, .mk ?_ ⟨by simp, by simp, trivial⟩⟩
    ·repeat' first|exact rfl|exact trivial|exact wR|exact lR _|apply aI
    ·repeat' first|exact rfl|exact trivial|exact wR|exact lR _|apply aI
   ·omega
  have hjl : j = g.vals.length := by have : ¬ j < g.vals.length := by simpa using hh
                                     omega
  subst hjl
  rw [List.take_length] at hnj
  (try dsimp only[awp]);conv=>whnf
  refine zA ?_;conv=>whnf
  refine ⟨i + 1, ?_, ?_, ?_⟩
  ·exact ⟨hlt, by rw [hall, hn]; unfold phS; rw [hnj]; simp [q1]⟩
  ·refine ⟨?_, .mk ?_ ⟨by simp, trivial⟩⟩
   ·repeat' first|exact rfl|exact trivial|exact wR|exact lR _|apply aI
   ·repeat' first|exact rfl|exact trivial|exact wR|exact lR _|apply aI
  ·omega
 have hil : i = m.phs.length := by have : ¬ i < m.phs.length := by simpa using h
                                   omega
 subst hil
 rw [List.take_length] at hn
 obtain rfl : R = .bool true := by rw [hR]; congr 1; unfold lightM; rw [a1, a2, a3, hn, h6]; simp [h1, h2, h3, h4, h5]
 (try dsimp only[awp]);conv=>whnf
 refine fM ?_;(conv=>whnf);refine ⟨?_,rfl⟩;conv=>whnf
 repeat' first|exact rfl|exact trivial|exact wR|exact lR _|apply aI

theorem few_B {l : List Mg} (h : fewR l = true) : l.length ≤ 100 ∧ (∀ x ∈ l, x.ins.length ≤ 40) ∧ mgC l := by
 unfold fewR at h
 simp only [Bool.and_eq_true, decide_eq_true_eq] at h
 refine ⟨h.2, fun x hx => ?_, fun x hx => ?_⟩
 ·have := List.all_eq_true.1 h.1 x hx
  simp only [fewG, Bool.and_eq_true, decide_eq_true_eq] at this
  exact this.1
 ·have := List.all_eq_true.1 h.1 x hx
  simp only [fewG, Bool.and_eq_true, decide_eq_true_eq] at this
  exact shortR_C this.2

theorem lightM_B {m : Md} (h : lightM m = true) : MdB m ∧ MdC m := by
 unfold lightM at h
 simp only [Bool.and_eq_true, decide_eq_true_eq] at h
 obtain ⟨⟨⟨⟨⟨⟨⟨⟨⟨h1, h2⟩, h3⟩, h4⟩, h5⟩, h6⟩, h7⟩, h8⟩, h9⟩, h10⟩ := h
 have f6 := few_B h6
 refine ⟨⟨h1, h2, ⟨f6.1, f6.2.1⟩, h3, fun p hp => ?_, h4, fun g hg => ?_, h5, fun p hp => ?_⟩, ⟨fun x hx => ?_, f6.2.2, fun p hp => ?_, fun g hg f hf => ?_, fun p hp v hv => ?_⟩⟩
 ·have := few_B (List.all_eq_true.1 h8 p hp)
  exact ⟨this.1, this.2.1⟩
 ·have := List.all_eq_true.1 h9 g hg
  simp only [grS, Bool.and_eq_true, decide_eq_true_eq] at this
  exact this.1
 ·have := List.all_eq_true.1 h10 p hp
  simp only [phS, Bool.and_eq_true, decide_eq_true_eq] at this
  exact this.1
 ·have := List.all_eq_true.1 h7 x hx
  simp only [evS, Bool.and_eq_true] at this
  exact ⟨shortR_C this.1.1, shortR_C this.1.2, shortR_C this.2⟩
 ·exact (few_B (List.all_eq_true.1 h8 p hp)).2.2
 ·have := List.all_eq_true.1 h9 g hg
  simp only [grS, Bool.and_eq_true, decide_eq_true_eq] at this
  exact shortR_C (List.all_eq_true.1 this.2 f hf)
 ·have := List.all_eq_true.1 h10 p hp
  simp only [phS, Bool.and_eq_true, decide_eq_true_eq] at this
  exact shortR_C (List.all_eq_true.1 this.2 v hv)

def shortX (x : Rat) : Prop := x.num.length ≤ 40 ∧ x.den.length ≤ 40

structure MdX (m : Md) : Prop where
 evs : ∀ x ∈ m.evs, shortX x.p ∧ shortX x.fail ∧ shortX x.repair
 gates : ∀ x ∈ m.gates, shortX x.dorm
 pages : ∀ p ∈ m.pages, ∀ x ∈ p.gates, shortX x.dorm
 grs : ∀ x ∈ m.grs, ∀ f ∈ x.fac, shortX f
 phs : ∀ x ∈ m.phs, ∀ v ∈ x.vals, shortX v.p

theorem shortX_of {x : Rat} (h : shortR x = true) : shortX x := by
 simpa [shortR, shortX] using h

theorem few_X {l : List Mg} (h : fewR l = true) : ∀ x ∈ l, shortX x.dorm := by
 intro x hx
 unfold fewR at h
 simp only [Bool.and_eq_true] at h
 have := List.all_eq_true.1 h.1 x hx
 simp only [fewG, Bool.and_eq_true] at this
 exact shortX_of this.2

theorem lightM_X {m : Md} (h : lightM m = true) : MdX m := by
 unfold lightM at h
 simp only [Bool.and_eq_true, decide_eq_true_eq] at h
 obtain ⟨⟨⟨⟨⟨⟨⟨⟨⟨h1, h2⟩, h3⟩, h4⟩, h5⟩, h6⟩, h7⟩, h8⟩, h9⟩, h10⟩ := h
 refine ⟨fun x hx => ?_, few_X h6, fun p hp => few_X (List.all_eq_true.1 h8 p hp), fun g hg f hf => ?_, fun p hp v hv => ?_⟩
 ·have := List.all_eq_true.1 h7 x hx
  simp only [evS, Bool.and_eq_true] at this
  exact ⟨shortX_of this.1.1, shortX_of this.1.2, shortX_of this.2⟩
 ·have := List.all_eq_true.1 h9 g hg
  simp only [grS, Bool.and_eq_true] at this
  exact shortX_of (List.all_eq_true.1 this.2 f hf)
 ·have := List.all_eq_true.1 h10 p hp
  simp only [phS, Bool.and_eq_true] at this
  exact shortX_of (List.all_eq_true.1 this.2 v hv)

abbrev zMd : AV := .ag [.str [], .str [], .nils, .nils, .nils, .nils, .nils, .nils]

def rnS (old new s : Str) : Str := if s = old then new else s
def rnG (old new : Str) (g : Mg) : Mg := { g with ins := g.ins.map (rnS old new) }
def rnE (old new : Str) (x : Ev) : Ev := { x with name := rnS old new x.name }
def rnP (old new : Str) (x : Pg) : Pg := { x with top := rnS old new x.top, gates := x.gates.map (rnG old new) }
def rnGr (old new : Str) (x : Gr) : Gr := { x with mem := x.mem.map (rnS old new) }
def rnPv (old new : Str) (x : Pv) : Pv := { x with ev := rnS old new x.ev }
def rnPh (old new : Str) (x : Ph) : Ph := { x with top := rnS old new x.top, vals := x.vals.map (rnPv old new) }
def rnM (m : Md) (old new : Str) : Md :=
 { name := m.name, top := rnS old new m.top, evs := m.evs.map (rnE old new), hs := m.hs, gates := m.gates.map (rnG old new), pages := m.pages.map (rnP old new), grs := m.grs.map (rnGr old new), phs := m.phs.map (rnPh old new) }

theorem c_rn1 (old new s : Str) : FnH Tryz.prog 70 [.str s, .cp (.str old), .cp (.str new)] [] (.str (rnS old new s)) [] := by
 refine FnH.intro lay mixed Tryz.func70 (by kernel_rfl) rfl (by kernel_rfl) rfl fun hok => ?_
 (try dsimp only[argC,succC]);(try dsimp only[awp]);conv=>whnf
 refine And.intro (fun h => ?_) (fun h => ?_)
 ·rw [show rnS old new s = new from if_pos h]
  (try dsimp only[awp]);conv=>whnf
  refine fM ?_;(conv=>whnf);refine ⟨?_,rfl⟩;conv=>whnf
  repeat' first|exact rfl|exact trivial|exact wR|exact lR _|apply aI
 ·rw [show rnS old new s = s from if_neg h]
  (try dsimp only[awp]);conv=>whnf
  refine fM ?_;(conv=>whnf);refine ⟨?_,rfl⟩;conv=>whnf
  repeat' first|exact rfl|exact trivial|exact wR|exact lR _|apply aI

abbrev fn1 (old new : Str) : AV := .fn 70 [.cp (.str old), .cp (.str new)]

theorem c_rn2 (old new : Str) (l : List Str) (hl : l.length ≤ 1000000) : FnH Tryz.prog 71 [sL l, .cp (fn1 old new)] [] (sL (l.map (rnS old new))) [] := by
 refine FnH.intro lay mixed Tryz.func71 (by kernel_rfl) rfl (by kernel_rfl) rfl fun hok => ?_
 (try dsimp only[argC,succC]);(try dsimp only[awp]);conv=>whnf
 refine LoopE.of <| LoopSpec.inv (.grow 4 1 [] _ rfl (.inl ⟨rfl, rfl⟩) (.refl _ _)) (fun (i : Nat) => i ≤ l.length)
  (fun i => [(9, .int .i64 i), (4, .sl 1 (((l.take i).map (rnS old new)).map .str) (.own 0))]) (fun i => [(0, .tok 1 i)]) (fun i => l.length - i) 0 ?_ (fun _ => rfl) ?_ ?_
 ·exact Nat.zero_le _
 ·refine ⟨?_, .mk ?_ ⟨by simp, trivial⟩⟩
  ·repeat' first|exact rfl|exact trivial|exact wR|exact lR _|apply aI
  ·repeat' first|exact rfl|exact trivial|exact wR|exact lR _|apply aI
 intro i hi _
 (try dsimp only[awp]);conv=>whnf
 refine And.intro (fun h => ?_) (fun h => ?_)
 ·have hlt : i < l.length := by simpa using h
  have ht : (l.take (i + 1)).map (rnS old new) = (l.take i).map (rnS old new) ++ [rnS old new l[i]] := by
   rw [List.take_add_one, List.getElem?_eq_getElem hlt, List.map_append]; rfl
  have hlen : ((l.take i).map (rnS old new)).length = i := by simp; omega
  (try dsimp only[awp]);conv=>whnf
  refine aidx hlt ?_
  generalize l[i] = x at *
  generalize (l.take i).map (rnS old new) = L at *
  (try dsimp only[awp]);conv=>whnf
  refine .pure _ _ ?_ ⟨rfl, rfl⟩ (c_rn1 old new x) fun _ => ?_
  ·repeat' first|exact rfl|exact trivial|exact wR|exact lR _|apply aI
  (try dsimp only[awp]);conv=>whnf
  refine ⟨by rw [List.length_map]; omega, .mk (by simp [maxL]; omega) (by simp; omega) ?_⟩
  (try dsimp only[awp]);conv=>whnf
  refine zA ?_;conv=>whnf
  refine ⟨i + 1, ?_, ?_, ?_⟩
  ·exact hlt
  ·rw [ht]
   refine ⟨?_, .mk ?_ ⟨by simp, trivial⟩⟩
   ·repeat' first|exact rfl|exact trivial|exact wR|exact lR _|apply aI
    all_goals first | (refine leRL_of ?_; rw [List.map_append]; rfl) | (simp; done) | (simp; omega)
   ·repeat' first|exact rfl|exact trivial|exact wR|exact lR _|apply aI
    all_goals first | (simp; done) | (simp; omega)
  ·omega
 ·have hlt : i = l.length := by have : ¬ i < l.length := by simpa using h
                                omega
  subst hlt
  rw [List.take_length]
  (try dsimp only[awp]);conv=>whnf
  refine fM ?_;(conv=>whnf);refine ⟨?_,rfl⟩;conv=>whnf
  repeat' first|exact rfl|exact trivial|exact wR|exact lR _|apply aI

abbrev fn2 (old new : Str) : AV := .fn 71 [.cp (fn1 old new)]

theorem c_clone22 (x : Rat) (hx : shortX x) : FnH Tryz.prog 73 [x.av] [] x.av [] := by
 have c1 := c_clone32 x.num (by have := hx.1; omega)
 have c2 := c_clone32 x.den (by have := hx.2; omega)
 refine FnH.intro lay mixed Tryz.func73 (by kernel_rfl) rfl (by kernel_rfl) rfl fun hok => ?_
 (try dsimp only[argC,succC]);(try dsimp only[awp]);conv=>whnf
 refine ADraw.auto (by kernel_rfl) ?_;conv=>whnf
 refine ACallP.pure _ _ ?_ ⟨rfl, rfl⟩ c1 ?_
 ·exact leL_refl _
 (try dsimp only[awp]);conv=>whnf
 refine ACallP.pure _ _ ?_ ⟨rfl, rfl⟩ c2 ?_
 ·exact leL_refl _
 (try dsimp only[awp]);conv=>whnf
 refine fM ?_;(conv=>whnf);refine ⟨?_,rfl⟩;conv=>whnf
 repeat' first|exact rfl|exact trivial|exact wR|exact lR _|apply aI

theorem c_rn3 (old new : Str) (l : List Mg) (hl : l.length ≤ 1000) (hi : ∀ g ∈ l, g.ins.length ≤ 1000) (hd : ∀ g ∈ l, shortX g.dorm) : FnH Tryz.prog 72 [gL l, .cp (fn2 old new)] [] (gL (l.map (rnG old new))) [] := by
 refine FnH.intro lay mixed Tryz.func72 (by kernel_rfl) rfl (by kernel_rfl) rfl fun hok => ?_
 (try dsimp only[argC,succC]);(try dsimp only[awp]);conv=>whnf
 refine LoopE.of <| LoopSpec.inv (.grow 4 7 [] _ rfl (.inl ⟨rfl, rfl⟩) (.refl _ _)) (fun (i : Nat) => i ≤ l.length)
  (fun i => [(9, .int .i64 i), (4, .sl 7 (((l.take i).map (rnG old new)).map Mg.av) (.own 0))]) (fun i => [(0, .tok 7 i)]) (fun i => l.length - i) 0 ?_ (fun _ => rfl) ?_ ?_
 ·exact Nat.zero_le _
 ·refine ⟨?_, .mk ?_ ⟨by simp, trivial⟩⟩
  ·repeat' first|exact rfl|exact trivial|exact wR|exact lR _|apply aI
  ·repeat' first|exact rfl|exact trivial|exact wR|exact lR _|apply aI
 intro i hil _
 (try dsimp only[awp]);conv=>whnf
 refine And.intro (fun h => ?_) (fun h => ?_)
 ·have hlt : i < l.length := by simpa using h
  have ht : (l.take (i + 1)).map (rnG old new) = (l.take i).map (rnG old new) ++ [rnG old new l[i]] := by
   rw [List.take_add_one, List.getElem?_eq_getElem hlt, List.map_append]; rfl
  have hlen : ((l.take i).map (rnG old new)).length = i := by simp; omega
  have c2 := c_rn2 old new (l[i]).ins (by have := hi _ (List.getElem_mem hlt); omega)
  have cc := c_clone22 _ (hd _ (List.getElem_mem hlt))
  (try dsimp only[awp]);conv=>whnf
  refine aidx hlt ?_
  generalize l[i] = x at *
  generalize (l.take i).map (rnG old new) = L at *
  (try dsimp only[awp]);conv=>whnf
  refine .pure _ _ ?_ ⟨rfl, rfl⟩ c2 fun _ => ?_
  ·repeat' first|exact rfl|exact trivial|exact wR|exact lR _|apply aI
  (try dsimp only[awp]);conv=>whnf
  refine .pure _ _ ?_ ⟨rfl, rfl⟩ cc fun _ => ?_
  ·exact leL_refl _
  (try dsimp only[awp]);conv=>whnf
  refine ⟨by rw [List.length_map]; omega, .mk (by simp [maxL]; omega) (by simp; omega) ?_⟩
  (try dsimp only[awp]);conv=>whnf
  refine zA ?_;conv=>whnf
  refine ⟨i + 1, ?_, ?_, ?_⟩
  ·exact hlt
  ·rw [ht]
   refine ⟨?_, .mk ?_ ⟨by simp, trivial⟩⟩
   ·repeat' first|exact rfl|exact trivial|exact wR|exact lR _|apply aI
    all_goals first | (refine leRL_of ?_; rw [List.map_append]; rfl) | (simp; done) | (simp; omega)
   ·repeat' first|exact rfl|exact trivial|exact wR|exact lR _|apply aI
    all_goals first | (simp; done) | (simp; omega)
  ·omega
 ·have hlt : i = l.length := by have : ¬ i < l.length := by simpa using h
                                omega
  subst hlt
  rw [List.take_length]
  (try dsimp only[awp]);conv=>whnf
  refine fM ?_;(conv=>whnf);refine ⟨?_,rfl⟩;conv=>whnf
  repeat' first|exact rfl|exact trivial|exact wR|exact lR _|apply aI


theorem c_cloneHs (l : List Hs) (hl : l.length ≤ 1000000) : FnH Tryz.prog 74 [.sl 2 (l.map Hs.av) .no] [] (.sl 2 (l.map Hs.av) .no) [] := by
 refine FnH.intro lay mixed Tryz.func74 (by kernel_rfl) rfl (by kernel_rfl) rfl fun hok => ?_
 conv=>whnf
 intro b hb
 conv=>whnf
 refine And.intro (fun h => ?_) (fun h => ?_)
 ·have : l = [] := by simpa using hb h
  subst this
  conv=>whnf
  refine fM ?_;(conv=>whnf);refine ⟨?_,rfl⟩;conv=>whnf
  rfl
 ·conv=>whnf
  refine .pure (by simp [maxL]; omega) (by simp; omega) ?_
  conv=>whnf
  refine fM ?_;(conv=>whnf);refine ⟨?_,rfl⟩;conv=>whnf
  repeat' first|exact rfl|exact trivial|exact wR|exact lR _|apply aI

abbrev rnBox (m : Md) (old new : Str) (evs pages grs phs : AV) : AV := .ag [.str m.name, .str (rnS old new m.top), evs, .sl 2 (m.hs.map Hs.av) .no, gL (m.gates.map (rnG old new)), pages, grs, phs]

def renameE (m : Md) (old new : Str) : Int := if i_event m.evs old < 0 then 5 else checkM (rnM m old new)

theorem take_map {α β : Type} {f : α → β} {l : List α} {k : Nat} (h : k < l.length) : (l.take (k + 1)).map f = (l.take k).map f ++ [f l[k]] := by
 rw [List.take_add_one, List.getElem?_eq_getElem h, List.map_append]; rfl
theorem take_len {α β : Type} {f : α → β} {l : List α} {k : Nat} (h : k ≤ l.length) : ((l.take k).map f).length = k := by simp; omega

theorem rn_C {m : Md} {old new : Str} (h : MdC m) : MdC (rnM m old new) := by
 refine ⟨?_, ?_, ?_, ?_, ?_⟩
 ·intro x hx
  obtain ⟨y, hy, rfl⟩ := List.mem_map.1 hx
  exact h.evs y hy
 ·intro x hx
  obtain ⟨y, hy, rfl⟩ := List.mem_map.1 hx
  exact h.gates y hy
 ·intro x hx
  obtain ⟨y, hy, rfl⟩ := List.mem_map.1 hx
  intro g hg
  obtain ⟨g', hg', rfl⟩ := List.mem_map.1 hg
  exact h.pages y hy g' hg'
 ·intro x hx
  obtain ⟨y, hy, rfl⟩ := List.mem_map.1 hx
  exact h.grs y hy
 ·intro x hx v hv
  obtain ⟨y, hy, rfl⟩ := List.mem_map.1 hx
  obtain ⟨v', hv', rfl⟩ := List.mem_map.1 hv
  exact h.phs y hy v' hv'

theorem rn_B {m : Md} {old new : Str} (h : MdB m) : MdB (rnM m old new) := by
 refine ⟨by simpa [rnM] using h.evs, h.hs, ⟨by simpa [rnM] using h.gates.1, ?_⟩, by simpa [rnM] using h.pages, ?_, by simpa [rnM] using h.grs, ?_, by simpa [rnM] using h.phs, ?_⟩
 ·intro x hx
  obtain ⟨y, hy, rfl⟩ := List.mem_map.1 hx
  simpa [rnG] using h.gates.2 y hy
 ·intro x hx
  obtain ⟨y, hy, rfl⟩ := List.mem_map.1 hx
  refine ⟨by simpa [rnP] using (h.pgates y hy).1, fun g hg => ?_⟩
  obtain ⟨g', hg', rfl⟩ := List.mem_map.1 hg
  simpa [rnG] using (h.pgates y hy).2 g' hg'
 ·intro x hx
  obtain ⟨y, hy, rfl⟩ := List.mem_map.1 hx
  simpa [rnGr] using h.mem y hy
 ·intro x hx
  obtain ⟨y, hy, rfl⟩ := List.mem_map.1 hx
  simpa [rnPh] using h.vals y hy

theorem c_Rename (m : Md) (old new : Str) (hC : MdC m) (hB : MdB m) (hX : MdX m) (h0 : checkM m = 0) (R : AV) (hR : R = if renameE m old new = 0 then .tup [(rnM m old new).av, .nilI] else .tup [zMd, .ifc 90 (.int .i64 (renameE m old new))]) : FnH Tryz.prog 28 [m.av, .str old, .str new] [] R [] := by
 have cc := c_mCheck m hC hB _ rfl
 rw [h0, errAV_zero] at cc
 have cc2 := c_mCheck (rnM m old new) (rn_C hC) (rn_B hB) _ rfl
 have ce := c_event m old
 have cn := fun s => c_rn1 old new s
 have ch := c_cloneHs m.hs (by have := hB.hs; omega)
 have cg := c_rn3 old new m.gates (by have := hB.gates.1; omega) (fun g hg => by have := hB.gates.2 g hg; omega) hX.gates
 have b1 := hB.evs
 have b2 := hB.pages
 have b3 := hB.grs
 have b4 := hB.phs
 unfold renameE at hR
 refine FnH.intro lay mixed Tryz.func28 (by kernel_rfl) rfl (by kernel_rfl) rfl fun hok => ?_
 (try dsimp only[argC,succC]);(try dsimp only[awp]);conv=>whnf
 refine .pure _ _ ?_ ⟨rfl, rfl⟩ cc fun _ => ?_
 ·exact leL_refl _
 (try dsimp only[awp]);conv=>whnf
 refine .pure _ _ ?_ ⟨rfl, rfl⟩ ce fun _ => ?_
 ·exact leL_refl _
 (try dsimp only[awp]);conv=>whnf
 refine And.intro (fun g0 => ?_) (fun g0 => ?_)
 ·rw [if_pos g0, if_neg (by decide)] at hR
  subst hR
  (try dsimp only[awp]);conv=>whnf
  refine fM ?_;(conv=>whnf);refine ⟨?_,rfl⟩;conv=>whnf
  repeat' first|exact rfl|exact trivial|exact wR|exact lR _|apply aI
 rw [if_neg g0] at hR
 (try dsimp only[awp]);conv=>whnf
 (refine ADraw.frzAuto [0, 1, 2, 4, 5] (by kernel_rfl) ?_; (conv => whnf); (repeat (refine And.intro ⟨rfl, rfl⟩ ?_; (conv => whnf))))
 refine ACallP.pure _ _ ?_ ⟨rfl, rfl⟩ (cn m.top) ?_
 ·exact leL_refl _
 (try dsimp only[awp]);conv=>whnf
 refine ACallP.pure _ _ ?_ ⟨rfl, rfl⟩ ch ?_
 ·exact leL_refl _
 (try dsimp only[awp]);conv=>whnf
 refine ACallP.pure _ _ ?_ ⟨rfl, rfl⟩ cg ?_
 ·exact leL_refl _
 (try dsimp only[awp]);conv=>whnf
 refine LoopE.of <| LoopSpec.inv (.growF 6 [2] 11 [] (rnBox m old new .nils .nils .nils .nils) .nils _ rfl rfl (.inl ⟨rfl, rfl⟩) rfl (.refl _ _)) (fun (k : Nat) => k ≤ m.evs.length)
  (fun k => [(60, .int .i64 k)]) (fun k => [(7, .tok 11 k), (6, .box (rnBox m old new (.sl 11 (((m.evs.take k).map (rnE old new)).map Ev.av) (.own 7)) .nils .nils .nils)), (5, .gone), (4, .gone), (3, .box zMd), (2, .gone), (1, .gone), (0, .gone)]) (fun k => m.evs.length - k) 0 ?_ (fun _ => rfl) ?_ ?_
 ·exact Nat.zero_le _
 ·refine ⟨?_, .mk ?_ (by simp [idsOk])⟩
  ·repeat' first|exact rfl|exact trivial|exact wR|exact lR _|apply aI
  ·repeat' first|exact rfl|exact trivial|exact wR|exact lR _|apply aI
 intro k hk _
 (try dsimp only[awp]);conv=>whnf
 refine And.intro (fun h => ?_) (fun h => ?_)
 ·have hkl : k < m.evs.length := by simpa using h
  have ht := take_map (f := rnE old new) hkl
  have hlen := take_len (f := rnE old new) hk
  obtain ⟨x1, x2, x3⟩ := hX.evs _ (List.getElem_mem hkl)
  (try dsimp only[awp]);conv=>whnf
  refine aidx hkl ?_
  generalize m.evs[k] = x at *
  generalize (m.evs.take k).map (rnE old new) = L at *
  (try dsimp only[awp]);conv=>whnf
  refine .pure _ _ ?_ ⟨rfl, rfl⟩ (cn x.name) fun _ => ?_
  ·exact leL_refl _
  (try dsimp only[awp]);conv=>whnf
  refine ADraw.auto (by kernel_rfl) ?_;conv=>whnf
  refine ACallP.pure _ _ ?_ ⟨rfl, rfl⟩ (c_clone22 x.p x1) ?_
  ·exact leL_refl _
  (try dsimp only[awp]);conv=>whnf
  refine ACallP.pure _ _ ?_ ⟨rfl, rfl⟩ (c_clone22 x.fail x2) ?_
  ·exact leL_refl _
  (try dsimp only[awp]);conv=>whnf
  refine ACallP.pure _ _ ?_ ⟨rfl, rfl⟩ (c_clone22 x.repair x3) ?_
  ·exact leL_refl _
  (try dsimp only[awp]);conv=>whnf
  refine ⟨by rw [List.length_map]; omega, .mk (by simp [maxL]; omega) (by simp; omega) ?_⟩
  (try dsimp only[awp]);conv=>whnf
  refine zA ?_;conv=>whnf
  refine ⟨k + 1, ?_, ?_, ?_⟩
  ·exact hkl
  ·rw [ht]
   refine ⟨?_, .mk ?_ (by simp [idsOk])⟩
   ·repeat' first|exact rfl|exact trivial|exact wR|exact lR _|apply aI
    all_goals first | (simp; done) | (simp; omega)
   ·repeat' first|exact rfl|exact trivial|exact wR|exact lR _|apply aI
    all_goals first | (refine leRL_of ?_; rw [List.map_append]; rfl) | (simp; done) | (simp; omega)
  ·omega
 have hkl : k = m.evs.length := by have : ¬ k < m.evs.length := by simpa using h
                                   omega
 subst hkl
 rw [List.take_length]
 clear h
 (try dsimp only[awp]);conv=>whnf
 refine LoopE.of <| LoopSpec.inv (.growF 6 [5] 3 [] (rnBox m old new (.sl 11 ((m.evs.map (rnE old new)).map Ev.av) (.own 7)) .nils .nils .nils) .nils _ rfl rfl (.inl ⟨rfl, rfl⟩) rfl (.refl _ _)) (fun (k : Nat) => k ≤ m.pages.length)
  (fun k => [(91, .int .i64 k)]) (fun k => [(8, .tok 3 k), (7, .gone), (6, .box (rnBox m old new (.sl 11 ((m.evs.map (rnE old new)).map Ev.av) .no) (.sl 3 (((m.pages.take k).map (rnP old new)).map Pg.av) (.own 8)) .nils .nils)), (5, .gone), (4, .gone), (3, .box zMd), (2, .gone), (1, .gone), (0, .gone)]) (fun k => m.pages.length - k) 0 ?_ (fun _ => rfl) ?_ ?_
 ·exact Nat.zero_le _
 ·refine ⟨?_, .mk ?_ (by simp [idsOk])⟩
  ·repeat' first|exact rfl|exact trivial|exact wR|exact lR _|apply aI
  ·repeat' first|exact rfl|exact trivial|exact wR|exact lR _|apply aI
 intro k hk _
 (try dsimp only[awp]);conv=>whnf
 refine And.intro (fun h => ?_) (fun h => ?_)
 ·have hkl : k < m.pages.length := by simpa using h
  have ht := take_map (f := rnP old new) hkl
  have hlen := take_len (f := rnP old new) hk
  have hp := hB.pgates _ (List.getElem_mem hkl)
  have cgp := c_rn3 old new (m.pages[k]).gates (by omega) (fun g hg => by have := hp.2 g hg; omega) (hX.pages _ (List.getElem_mem hkl))
  (try dsimp only[awp]);conv=>whnf
  refine aidx hkl ?_
  generalize m.pages[k] = x at *
  generalize (m.pages.take k).map (rnP old new) = L at *
  (try dsimp only[awp]);conv=>whnf
  refine ADraw.auto (by kernel_rfl) ?_;conv=>whnf
  refine ACallP.pure _ _ ?_ ⟨rfl, rfl⟩ (cn x.top) ?_
  ·exact leL_refl _
  (try dsimp only[awp]);conv=>whnf
  refine ACallP.pure _ _ ?_ ⟨rfl, rfl⟩ cgp ?_
  ·exact leL_refl _
  (try dsimp only[awp]);conv=>whnf
  refine ⟨by rw [List.length_map]; omega, .mk (by simp [maxL]; omega) (by simp; omega) ?_⟩
  (try dsimp only[awp]);conv=>whnf
  refine zA ?_;conv=>whnf
  refine ⟨k + 1, ?_, ?_, ?_⟩
  ·exact hkl
  ·rw [ht]
   refine ⟨?_, .mk ?_ (by simp [idsOk])⟩
   ·repeat' first|exact rfl|exact trivial|exact wR|exact lR _|apply aI
    all_goals first | (simp; done) | (simp; omega)
   ·repeat' first|exact rfl|exact trivial|exact wR|exact lR _|apply aI
    all_goals first | (refine leRL_of ?_; rw [List.map_append]; rfl) | (simp; done) | (simp; omega)
  ·omega
 have hkl : k = m.pages.length := by have : ¬ k < m.pages.length := by simpa using h
                                     omega
 subst hkl
 rw [List.take_length]
 clear h
 (try dsimp only[awp]);conv=>whnf
 refine LoopE.of <| LoopSpec.inv (.growF 6 [6] 4 [] (rnBox m old new (.sl 11 ((m.evs.map (rnE old new)).map Ev.av) .no) (.sl 3 ((m.pages.map (rnP old new)).map Pg.av) (.own 8)) .nils .nils) .nils _ rfl rfl (.inl ⟨rfl, rfl⟩) rfl (.refl _ _)) (fun (k : Nat) => k ≤ m.grs.length)
  (fun k => [(115, .int .i64 k)]) (fun k => [(9, .tok 4 k), (8, .gone), (7, .gone), (6, .box (rnBox m old new (.sl 11 ((m.evs.map (rnE old new)).map Ev.av) .no) (.sl 3 ((m.pages.map (rnP old new)).map Pg.av) .no) (.sl 4 (((m.grs.take k).map (rnGr old new)).map Gr.av) (.own 9)) .nils)), (5, .gone), (4, .gone), (3, .box zMd), (2, .gone), (1, .gone), (0, .gone)]) (fun k => m.grs.length - k) 0 ?_ (fun _ => rfl) ?_ ?_
 ·exact Nat.zero_le _
 ·refine ⟨?_, .mk ?_ (by simp [idsOk])⟩
  ·repeat' first|exact rfl|exact trivial|exact wR|exact lR _|apply aI
  ·repeat' first|exact rfl|exact trivial|exact wR|exact lR _|apply aI
 intro k hk _
 (try dsimp only[awp]);conv=>whnf
 refine And.intro (fun h => ?_) (fun h => ?_)
 ·have hkl : k < m.grs.length := by simpa using h
  have ht := take_map (f := rnGr old new) hkl
  have hlen := take_len (f := rnGr old new) hk
  have hm := hB.mem _ (List.getElem_mem hkl)
  have cgp := c_rn2 old new (m.grs[k]).mem (by omega)
  have hf := hX.grs _ (List.getElem_mem hkl)
  (try dsimp only[awp]);conv=>whnf
  refine aidx hkl ?_
  generalize m.grs[k] = x at *
  generalize (m.grs.take k).map (rnGr old new) = L at *
  (try dsimp only[awp]);conv=>whnf
  refine ADraw.auto (by kernel_rfl) ?_;conv=>whnf
  refine ACallP.pure _ _ ?_ ⟨rfl, rfl⟩ cgp ?_
  ·exact leL_refl _
  (try dsimp only[awp]);conv=>whnf
  refine LoopE.of <| LoopSpec.inv (.growF 11 [3] 3 [] (.ag [.str x.name, .int .i64 x.kind, sL (x.mem.map (rnS old new)), .nils]) .nils _ rfl rfl (.inl ⟨rfl, rfl⟩) rfl (.refl _ _)) (fun (j : Nat) => j ≤ x.fac.length)
   (fun j => [(131, .int .i64 j)]) (fun j => [(12, .tok 3 j), (11, .box (.ag [.str x.name, .int .i64 x.kind, sL (x.mem.map (rnS old new)), .sl 3 ((x.fac.take j).map Rat.av) (.own 12)])), (10, .gone), (9, .tok 4 k), (8, .gone), (7, .gone), (6, .box (rnBox m old new (.sl 11 ((m.evs.map (rnE old new)).map Ev.av) .no) (.sl 3 ((m.pages.map (rnP old new)).map Pg.av) .no) (.sl 4 (L.map Gr.av) (.own 9)) .nils)), (5, .gone), (4, .gone), (3, .box zMd), (2, .gone), (1, .gone), (0, .gone)]) (fun j => x.fac.length - j) 0 ?_ (fun _ => rfl) ?_ ?_
  ·exact Nat.zero_le _
  ·refine ⟨?_, .mk ?_ (by simp [idsOk])⟩
   ·repeat' first|exact rfl|exact trivial|exact wR|exact lR _|apply aI
   ·repeat' first|exact rfl|exact trivial|exact wR|exact lR _|apply aI
  intro j hj _
  (try dsimp only[awp]);conv=>whnf
  refine And.intro (fun hh => ?_) (fun hh => ?_)
  ·have hjl : j < x.fac.length := by simpa using hh
   have ht2 : x.fac.take (j + 1) = x.fac.take j ++ [x.fac[j]] := by rw [List.take_add_one, List.getElem?_eq_getElem hjl]; rfl
   have hlen2 : (x.fac.take j).length = j := by simp; omega
   have y1 := hf _ (List.getElem_mem hjl)
   (try dsimp only[awp]);conv=>whnf
   refine aidx hjl ?_
   generalize x.fac[j] = y at *
   generalize x.fac.take j = L2 at *
   (try dsimp only[awp]);conv=>whnf
   refine ADraw.auto (by kernel_rfl) ?_;conv=>whnf
   refine ACallP.pure _ _ ?_ ⟨rfl, rfl⟩ (c_clone22 y y1) ?_
   ·exact leL_refl _
   (try dsimp only[awp]);conv=>whnf
   refine ⟨by rw [List.length_map]; omega, .mk (by simp [maxL]; omega) (by simp; omega) ?_⟩
   (try dsimp only[awp]);conv=>whnf
   refine zA ?_;conv=>whnf
   refine ⟨j + 1, ?_, ?_, ?_⟩
   ·exact hjl
   ·rw [ht2]
    refine ⟨?_, .mk ?_ (by simp [idsOk])⟩
    ·repeat' first|exact rfl|exact trivial|exact wR|exact lR _|apply aI
    ·repeat' first|exact rfl|exact trivial|exact wR|exact lR _|apply aI
     all_goals first | (refine leRL_of ?_; rw [List.map_append]; rfl) | (simp; done) | (simp; omega)
   ·omega
  have hjl : j = x.fac.length := by have : ¬ j < x.fac.length := by simpa using hh
                                    omega
  subst hjl
  rw [List.take_length]
  clear hh
  (try dsimp only[awp]);conv=>whnf
  refine ⟨by rw [List.length_map]; omega, .mk (by simp [maxL]; omega) (by simp; omega) ?_⟩
  (try dsimp only[awp]);conv=>whnf
  refine zA ?_;conv=>whnf
  refine ⟨k + 1, ?_, ?_, ?_⟩
  ·exact hkl
  ·rw [ht]
   refine ⟨?_, .mk ?_ (by simp [idsOk])⟩
   ·repeat' first|exact rfl|exact trivial|exact wR|exact lR _|apply aI
    all_goals first | (simp; done) | (simp; omega)
   ·repeat' first|exact rfl|exact trivial|exact wR|exact lR _|apply aI
    all_goals first | (refine leRL_of ?_; rw [List.map_append]; rfl) | (simp; done) | (simp; omega)
  ·omega
 have hkl : k = m.grs.length := by have : ¬ k < m.grs.length := by simpa using h
                                   omega
 subst hkl
 rw [List.take_length]
 clear h
 (try dsimp only[awp]);conv=>whnf
 refine LoopE.of <| LoopSpec.inv (.growF 6 [7] 3 [] (rnBox m old new (.sl 11 ((m.evs.map (rnE old new)).map Ev.av) .no) (.sl 3 ((m.pages.map (rnP old new)).map Pg.av) .no) (.sl 4 ((m.grs.map (rnGr old new)).map Gr.av) (.own 9)) .nils) .nils _ rfl rfl (.inl ⟨rfl, rfl⟩) rfl (.refl _ _)) (fun (k : Nat) => k ≤ m.phs.length)
  (fun k => [(153, .int .i64 k)]) (fun k => [(10, .tok 3 k), (9, .gone), (8, .gone), (7, .gone), (6, .box (rnBox m old new (.sl 11 ((m.evs.map (rnE old new)).map Ev.av) .no) (.sl 3 ((m.pages.map (rnP old new)).map Pg.av) .no) (.sl 4 ((m.grs.map (rnGr old new)).map Gr.av) .no) (.sl 3 (((m.phs.take k).map (rnPh old new)).map Ph.av) (.own 10)))), (5, .gone), (4, .gone), (3, .box zMd), (2, .gone), (1, .gone), (0, .gone)]) (fun k => m.phs.length - k) 0 ?_ (fun _ => rfl) ?_ ?_
 ·exact Nat.zero_le _
 ·refine ⟨?_, .mk ?_ (by simp [idsOk])⟩
  ·repeat' first|exact rfl|exact trivial|exact wR|exact lR _|apply aI
  ·repeat' first|exact rfl|exact trivial|exact wR|exact lR _|apply aI
 intro k hk _
 (try dsimp only[awp]);conv=>whnf
 refine And.intro (fun h => ?_) (fun h => ?_)
 ·have hkl : k < m.phs.length := by simpa using h
  have ht := take_map (f := rnPh old new) hkl
  have hlen := take_len (f := rnPh old new) hk
  have hv := hB.vals _ (List.getElem_mem hkl)
  have hf := hX.phs _ (List.getElem_mem hkl)
  (try dsimp only[awp]);conv=>whnf
  refine aidx hkl ?_
  generalize m.phs[k] = x at *
  generalize (m.phs.take k).map (rnPh old new) = L at *
  (try dsimp only[awp]);conv=>whnf
  refine ADraw.auto (by kernel_rfl) ?_;conv=>whnf
  refine ACallP.pure _ _ ?_ ⟨rfl, rfl⟩ (cn x.top) ?_
  ·exact leL_refl _
  (try dsimp only[awp]);conv=>whnf
  refine LoopE.of <| LoopSpec.inv (.growF 12 [2] 4 [] (.ag [.str x.name, .str (rnS old new x.top), .nils]) .nils _ rfl rfl (.inl ⟨rfl, rfl⟩) rfl (.refl _ _)) (fun (j : Nat) => j ≤ x.vals.length)
   (fun j => [(167, .int .i64 j)]) (fun j => [(13, .tok 4 j), (12, .box (.ag [.str x.name, .str (rnS old new x.top), .sl 4 (((x.vals.take j).map (rnPv old new)).map Pv.av) (.own 13)])), (11, .gone), (10, .tok 3 k), (9, .gone), (8, .gone), (7, .gone), (6, .box (rnBox m old new (.sl 11 ((m.evs.map (rnE old new)).map Ev.av) .no) (.sl 3 ((m.pages.map (rnP old new)).map Pg.av) .no) (.sl 4 ((m.grs.map (rnGr old new)).map Gr.av) .no) (.sl 3 (L.map Ph.av) (.own 10)))), (5, .gone), (4, .gone), (3, .box zMd), (2, .gone), (1, .gone), (0, .gone)]) (fun j => x.vals.length - j) 0 ?_ (fun _ => rfl) ?_ ?_
  ·exact Nat.zero_le _
  ·refine ⟨?_, .mk ?_ (by simp [idsOk])⟩
   ·repeat' first|exact rfl|exact trivial|exact wR|exact lR _|apply aI
   ·repeat' first|exact rfl|exact trivial|exact wR|exact lR _|apply aI
  intro j hj _
  (try dsimp only[awp]);conv=>whnf
  refine And.intro (fun hh => ?_) (fun hh => ?_)
  ·have hjl : j < x.vals.length := by simpa using hh
   have ht2 := take_map (f := rnPv old new) hjl
   have hlen2 := take_len (f := rnPv old new) hj
   have y1 := hf _ (List.getElem_mem hjl)
   (try dsimp only[awp]);conv=>whnf
   refine aidx hjl ?_
   generalize x.vals[j] = y at *
   generalize (x.vals.take j).map (rnPv old new) = L2 at *
   (try dsimp only[awp]);conv=>whnf
   refine ADraw.auto (by kernel_rfl) ?_;conv=>whnf
   refine ACallP.pure _ _ ?_ ⟨rfl, rfl⟩ (cn y.ev) ?_
   ·exact leL_refl _
   (try dsimp only[awp]);conv=>whnf
   refine ACallP.pure _ _ ?_ ⟨rfl, rfl⟩ (c_clone22 y.p y1) ?_
   ·exact leL_refl _
   (try dsimp only[awp]);conv=>whnf
   refine ⟨by rw [List.length_map]; omega, .mk (by simp [maxL]; omega) (by simp; omega) ?_⟩
   (try dsimp only[awp]);conv=>whnf
   refine zA ?_;conv=>whnf
   refine ⟨j + 1, ?_, ?_, ?_⟩
   ·exact hjl
   ·rw [ht2]
    refine ⟨?_, .mk ?_ (by simp [idsOk])⟩
    ·repeat' first|exact rfl|exact trivial|exact wR|exact lR _|apply aI
    ·repeat' first|exact rfl|exact trivial|exact wR|exact lR _|apply aI
     all_goals first | (refine leRL_of ?_; rw [List.map_append]; rfl) | (simp; done) | (simp; omega)
   ·omega
  have hjl : j = x.vals.length := by have : ¬ j < x.vals.length := by simpa using hh
                                     omega
  subst hjl
  rw [List.take_length]
  clear hh
  (try dsimp only[awp]);conv=>whnf
  refine ⟨by rw [List.length_map]; omega, .mk (by simp [maxL]; omega) (by simp; omega) ?_⟩
  (try dsimp only[awp]);conv=>whnf
  refine zA ?_;conv=>whnf
  refine ⟨k + 1, ?_, ?_, ?_⟩
  ·exact hkl
  ·rw [ht]
   refine ⟨?_, .mk ?_ (by simp [idsOk])⟩
   ·repeat' first|exact rfl|exact trivial|exact wR|exact lR _|apply aI
    all_goals first | (simp; done) | (simp; omega)
   ·repeat' first|exact rfl|exact trivial|exact wR|exact lR _|apply aI
    all_goals first | (refine leRL_of ?_; rw [List.map_append]; rfl) | (simp; done) | (simp; omega)
  ·omega
 have hkl : k = m.phs.length := by have : ¬ k < m.phs.length := by simpa using h
                                   omega
 subst hkl
 rw [List.take_length]
 clear h
 by_cases g1 : checkM (rnM m old new) = 0
 ·rw [g1, errAV_zero] at cc2
  rw [if_pos g1] at hR
  subst hR
  (try dsimp only[awp]);conv=>whnf
  refine .pure _ _ ?_ ⟨rfl, rfl⟩ cc2 fun _ => ?_
  ·repeat' first|exact rfl|exact trivial|exact wR|exact lR _|apply aI
  (try dsimp only[awp]);conv=>whnf
  refine fM ?_;(conv=>whnf);refine ⟨?_,rfl⟩;conv=>whnf
  repeat' first|exact rfl|exact trivial|exact wR|exact lR _|apply aI
 ·rw [errAV_ne g1] at cc2
  rw [if_neg g1] at hR
  subst hR
  (try dsimp only[awp]);conv=>whnf
  refine .pure _ _ ?_ ⟨rfl, rfl⟩ cc2 fun _ => ?_
  ·repeat' first|exact rfl|exact trivial|exact wR|exact lR _|apply aI
  (try dsimp only[awp]);conv=>whnf
  refine fM ?_;(conv=>whnf);refine ⟨?_,rfl⟩;conv=>whnf
  repeat' first|exact rfl|exact trivial|exact wR|exact lR _|apply aI

def pgA (m : Md) (i : Nat) : Pg := m.pages.getD i default
def atN (p : Pg) : Str := 64 :: p.name
def usK (m : Md) (names : List Str) (k : Nat) : List Nat := (List.range k).filter fun i => decide (atN (pgA m i) ∈ names)
def insG (l : List Mg) : List Str := l.flatMap Mg.ins
def usN (m : Md) (names : List Str) : List Int := (usK m names m.pages.length).map Int.ofNat
theorem usK_succ {m : Md} {names : List Str} {k : Nat} : usK m names (k + 1) = usK m names k ++ (if atN (pgA m k) ∈ names then [k] else []) := by
 unfold usK
 rw [List.range_succ, List.filter_append]
 congr 1
 by_cases h : atN (pgA m k) ∈ names
 ·rw [if_pos h]; simp [h]
 ·rw [if_neg h]; simp [h]

theorem usK_len {m : Md} {names : List Str} {k : Nat} : (usK m names k).length ≤ k := by
 unfold usK
 have := List.length_filter_le (fun i => decide (atN (pgA m i) ∈ names)) (List.range k)
 rwa [List.length_range] at this

def innerP (m : Md) (i : Int) : Bool := m.pages.any fun p => (usN m (insG p.gates)).any fun y => decide (i = y)

theorem innerP_iff {m : Md} {i : Nat} (hi : i < m.pages.length) : innerP m i = true ↔ ∃ p ∈ m.pages, atN (pgA m i) ∈ insG p.gates := by
 unfold innerP
 rw [List.any_eq_true]
 constructor
 ·rintro ⟨p, hp, h⟩
  obtain ⟨y, hy, h⟩ := List.any_eq_true.1 h
  obtain ⟨k, hk, rfl⟩ := List.mem_map.1 hy
  have h : (i : Int) = Int.ofNat k := of_decide_eq_true h
  obtain rfl : i = k := by have h : (i : Int) = (k : Int) := h; omega
  unfold usK at hk
  exact ⟨p, hp, by simpa using (List.mem_filter.1 hk).2⟩
 ·rintro ⟨p, hp, h⟩
  refine ⟨p, hp, List.any_eq_true.2 ⟨Int.ofNat i, List.mem_map.2 ⟨i, List.mem_filter.2 ⟨List.mem_range.2 hi, by simpa using h⟩, rfl⟩, by simp⟩⟩

def ownP (p : Pg) (s : Str) : Bool := p.gates.any fun g => decide (g.name = s)
def nmP (p : Pg) (s : Str) : Str := p.name ++ [46] ++ s
def mvP (p : Pg) (s : Str) : Str := if ownP p s = true then nmP p s else s
def inP (p : Pg) (s : Str) : Str := if s = atN p then mvP p p.top else s
def gIn (nm inp : Str → Str) (g : Mg) : Mg := ⟨nm g.name, g.kind, g.k, g.ins.map inp, g.dorm⟩
def phT (f : Str → Str) (x : Ph) : Ph := ⟨x.name, f x.top, x.vals⟩

def mgM (m : Md) (i : Nat) (p : Pg) : Md :=
 ⟨m.name, inP p m.top, m.evs, m.hs, m.gates.map (gIn id (inP p)) ++ p.gates.map (gIn (nmP p) (mvP p)), m.pages.eraseIdx i, m.grs, m.phs.map (phT (inP p))⟩

def longP (p : Pg) : Bool := p.gates.any fun g => decide (24 < (nmP p g.name).length)

def mgE (m : Md) (i : Nat) : Int := if innerP m i = true then 7 else if longP (pgA m i) = true then 5 else checkM (mgM m i (pgA m i))

def freeP (m : Md) : Nat := idxN 0 m.pages.length
where idxN (k : Nat) : Nat → Nat
 | 0 => k
 | n + 1 => if innerP m k = true then idxN (k + 1) n else k

def inlP : Nat → Md → Md × Int
 | 0, m => (m, 0)
 | n + 1, m => if m.pages.length = 0 then (m, 0) else if freeP m = m.pages.length then (m, 14) else
     if mgE m (freeP m) = 0 then inlP n (mgM m (freeP m) (pgA m (freeP m))) else (m, mgE m (freeP m))

theorem gIn_id (g : Mg) : gIn id id g = g := by cases g; simp [gIn]

theorem tot_sum : ∀ (l : List Pg) (n : Nat), l.foldl (fun n x => n + x.gates.length) n = n + (l.map fun p => p.gates.length).sum
 | [], n => by simp
 | p :: l, n => by simp only [List.foldl_cons, tot_sum l, List.map_cons, List.sum_cons]; omega

theorem sum_erase : ∀ (l : List Pg) (i : Nat), i < l.length → (l.map fun p => p.gates.length).sum = (l.getD i default).gates.length + ((l.eraseIdx i).map fun p => p.gates.length).sum
 | p :: l, 0, _ => by simp
 | p :: l, i + 1, h => by
   have := sum_erase l i (by simpa using h)
   simp only [List.map_cons, List.sum_cons, List.eraseIdx_cons_succ, List.getD_cons_succ, this]
   omega

theorem mg_total {m : Md} {i : Nat} (hi : i < m.pages.length) : totalM (mgM m i (pgA m i)) = totalM m := by
 unfold totalM
 rw [tot_sum, tot_sum, sum_erase m.pages i hi]
 simp only [mgM, List.length_append, List.length_map, pgA]
 omega

theorem total64 {m : Md} (h : checkM m = 0) : totalM m ≤ 64 := by
 have := (checkM_ok h).pages
 unfold pagesErr at this
 split at this
 ·cases this
 ·omega

theorem pg_mem {m : Md} {i : Nat} (hi : i < m.pages.length) : pgA m i ∈ m.pages := by
 unfold pgA
 rw [getD_lt hi]; exact List.getElem_mem hi

theorem mg_B {m : Md} {i : Nat} (hi : i < m.pages.length) (h : MdB m) (ht : totalM m ≤ 64) : MdB (mgM m i (pgA m i)) := by
 have h2 := mg_total hi
 have hp := pg_mem hi
 have hg : (mgM m i (pgA m i)).gates.length ≤ 64 := by
  have : (mgM m i (pgA m i)).gates.length ≤ totalM (mgM m i (pgA m i)) := by unfold totalM; rw [tot_sum]; omega
  omega
 refine ⟨h.evs, h.hs, ⟨by omega, ?_⟩, ?_, ?_, h.grs, h.mem, by simpa [mgM] using h.phs, ?_⟩
 ·intro x hx
  rcases List.mem_append.1 hx with hx | hx
  ·obtain ⟨y, hy, rfl⟩ := List.mem_map.1 hx
   simpa [gIn] using h.gates.2 y hy
  ·obtain ⟨y, hy, rfl⟩ := List.mem_map.1 hx
   simpa [gIn] using (h.pgates _ hp).2 y hy
 ·have := List.length_eraseIdx_le m.pages i
  have := h.pages
  show (m.pages.eraseIdx i).length ≤ 30
  omega
 ·intro p hp
  exact h.pgates p (List.mem_of_mem_eraseIdx hp)
 ·intro x hx
  obtain ⟨y, hy, rfl⟩ := List.mem_map.1 hx
  exact h.vals y hy

theorem mg_C {m : Md} {i : Nat} (hi : i < m.pages.length) (h : MdC m) : MdC (mgM m i (pgA m i)) := by
 have hp := pg_mem hi
 refine ⟨h.evs, ?_, ?_, h.grs, ?_⟩
 ·intro x hx
  rcases List.mem_append.1 hx with hx | hx
  ·obtain ⟨y, hy, rfl⟩ := List.mem_map.1 hx
   exact h.gates y hy
  ·obtain ⟨y, hy, rfl⟩ := List.mem_map.1 hx
   exact h.pages _ hp y hy
 ·intro p hp
  exact h.pages p (List.mem_of_mem_eraseIdx hp)
 ·intro x hx v hv
  obtain ⟨y, hy, rfl⟩ := List.mem_map.1 hx
  exact h.phs y hy v hv

theorem mg_X {m : Md} {i : Nat} (hi : i < m.pages.length) (h : MdX m) : MdX (mgM m i (pgA m i)) := by
 have hp := pg_mem hi
 refine ⟨h.evs, ?_, ?_, h.grs, ?_⟩
 ·intro x hx
  rcases List.mem_append.1 hx with hx | hx
  ·obtain ⟨y, hy, rfl⟩ := List.mem_map.1 hx
   exact h.gates y hy
  ·obtain ⟨y, hy, rfl⟩ := List.mem_map.1 hx
   exact h.pages _ hp y hy
 ·intro p hp
  exact h.pages p (List.mem_of_mem_eraseIdx hp)
 ·intro x hx v hv
  obtain ⟨y, hy, rfl⟩ := List.mem_map.1 hx
  exact h.phs y hy v hv
end S

namespace Go.AL

section
variable {P : Program}

end
end Go.AL

namespace Go.AL

section
variable {P : Program} {L : Lay} (F : Nat → List AV → Heap → AV → Heap → Prop) (Okay : AV → Prop) (L : Lay)

def awpF (js : List Nat) : Nat → Code → (AX → Env → Heap → Prop) → Env → Heap → Prop
 | 0, c, Q, e, H => frzs js e H fun e' H' => awp F Okay L c Q e' H'
 | n + 1, .seq a b, Q, e, H => awp F Okay L a (fun x e' H' => match x with | .normal => awpF js n b Q e' H' | x => Q x e' H') e H
 | _, _, _, _, _ => False
end

section
variable {P : Program} {L : Lay} {F : Nat → List AV → Heap → AV → Heap → Prop}

theorem awpF_sound (hL : LayOk P L) (hm : P.follows .mixedOrders = true) (hFn : ∀ f args H R H', F f args H R H' → FnH P f args H R H') {n : Nat} {js : List Nat} :
  ∀ (m : Nat) (code : Code) (Q : AX → Env → Heap → Prop) (e : Env) (H : Heap) (c : Cx) (a : Act), codeB n code = true → HR c H → AOk n c e a → awpF F Ok L js m code Q e H →
    code.wp P (Post n (writes code) c H a Q) a c.w
 | 0, code, Q, e, H, c, a, hc, hr, ha, h => by
   have h : frzs js e H fun e' H' => awp F Ok L code Q e' H' := h
   obtain ⟨e1, H1, d, hw, htr, ha1, h1⟩ := frzs_sound hr ha h
   rw [← hw]
   refine wp_mono (awp_sound hL hm hFn code Q e1 H1 d a hc htr.hr ha1 h1) ?_
   rintro ex a' w' ⟨x', e', H', c', rfl, hq, rfl, htr', ha', hf'⟩
   exact ⟨x', e', H', c', rfl, hq, rfl, htr.trans htr', ha', hf'⟩
 | m + 1, .seq x y, Q, e, H, c, a, hc, hr, ha, h => by
   simp only [codeB, Bool.and_eq_true] at hc
   have h : awp F Ok L x (fun x e' H' => match x with | .normal => awpF F Ok L js m y Q e' H' | x => Q x e' H') e H := h
   refine wp_seq (wp_mono (awp_sound hL hm hFn x _ e H c a hc.1 hr ha h) ?_)
   rintro ex a' w' ⟨x', e', H', c', rfl, hq, rfl, htr, ha', hf⟩
   cases x' with
   | normal =>
     refine wp_mono (awpF_sound hL hm hFn m y Q e' H' c' a' hc.2 htr.hr ha' hq) ?_
     rintro ex a'' w'' ⟨x', e'', H'', c'', rfl, hq, rfl, htr', ha'', hf'⟩
     exact ⟨x', e'', H'', c'', rfl, hq, rfl, htr.trans htr', ha'', hf.trans hf'⟩
   | exit i => exact ⟨.exit i, e', H', c', rfl, hq, rfl, htr, ha', hf.mono fun t ht => List.mem_append_left _ ht⟩
   | ret => exact ⟨.ret, e', H', c', rfl, hq, rfl, htr, ha', hf.mono fun t ht => List.mem_append_left _ ht⟩
 | m + 1, .skip, _, _, _, _, _, _, _, _, h => h.elim
 | m + 1, .region _ _ _, _, _, _, _, _, _, _, _, h => h.elim
 | m + 1, .cond _ _ _, _, _, _, _, _, _, _, _, h => h.elim
 | m + 1, .block _ _, _, _, _, _, _, _, _, _, h => h.elim
 | m + 1, .loop _, _, _, _, _, _, _, _, _, h => h.elim
 | m + 1, .exit _, _, _, _, _, _, _, _, _, h => h.elim
 | m + 1, .ret, _, _, _, _, _, _, _, _, h => h.elim
 | m + 1, .label _, _, _, _, _, _, _, _, _, h => h.elim

theorem FnH.introF (js : List Nat) (m : Nat) (hL : LayOk P L) (hm : P.follows .mixedOrders = true) {f : Nat} {fn : Func} {code : Code} (hf : P.funcs[f]? = some fn) (hn : (fn.name == "runtime.NumGoroutine") = false) (hb : fn.body = some code)
  (hc : codeB fn.ntmps code = true) {args : List AV} {H : Heap} {R : AV} {H' : Heap} (ha : Nat.ble args.length fn.ntmps = true)
  (h : OkL args → argC 0 args fun e => awpF (FnH P) Ok L js m code (Fin L fn.results.toList H R H') e H) : FnH P f args H R H' := by
 refine ⟨⟨fn, hf, hn, by rw [hb]; rfl⟩, fun c vs hr hv => ?_⟩
 have h0 := argC_iff.1 (h (EVL_ok hv))
 have hlen := EVL_len hv
 have hle := Nat.le_of_ble_eq_true ha
 refine calls_of_wp hf hb ?_
 have ha0 : AOk fn.ntmps c (argEnv 0 args) { tmps := vs.toArray ++ Array.replicate (fn.ntmps - vs.toArray.size) undef, defers := [] } := by
  refine ⟨fun t A hA => ?_, rfl, by simp; omega⟩
  obtain ⟨v, h1, h2, h3⟩ := EVL_get hv hA
  simp only [Nat.sub_zero] at h2
  have hlt := (List.getElem?_eq_some_iff.1 h2).1
  rw [Array.getD_eq_getD_getElem?, Array.getElem?_append_left (by simpa using hlt), List.getElem?_toArray, h2]
  exact h3
 refine wp_mono (awpF_sound hL hm (fun _ _ _ _ _ h => h) m code _ _ H c _ hc hr ha0 h0) ?_
 rintro ex a w ⟨x, e, H1, c1, rfl, hq, rfl, htr, ha1, _⟩
 have fin : FinSpec L fn.results.toList H R H' e H1 → (a.defers = [] ∧ ∃ v, (results fn a.tmps).run P c1.w = .ok v c1.w ∧ (∃ v' d, Ending.returned v = .returned v' ∧ d.w = c1.w ∧ Tr c H d H' ∧ EV d R v')) := by
  rintro ⟨e1, H2, hcv, hres⟩
  obtain ⟨d, hw, htr', ha'⟩ := Cv_sound hcv htr.hr ha1
  obtain ⟨A, v, hrun, hA, hle, hbnd, hnx, hwk⟩ := results_sound hL htr'.hr ha' hres
  rw [hw] at hrun
  have hwk := hwk.to0 htr'.hr
  refine ⟨ha1.defers, v, hrun, v, d.cut H', rfl, hw, ?_, ?_⟩
  ·exact (htr.trans htr').cut hwk (by rw [hr.nx]; exact hnx)
  ·exact EV_cut (fun k n hn => by rw [htr'.hr.tp]; exact hwk.tp k n hn) hbnd (le_EV hle hA)
 cases x with
 | normal => exact fin hq
 | ret => exact fin hq
 | exit i => exact hq.elim
end
end Go.AL

open Go Go.AL Go.Proofs
namespace S
set_option maxRecDepth 100000

theorem anyStr_mem {l : List Str} {x : Str} : (l.any fun y => decide (x = y)) = decide (x ∈ l) := by
 rw [Bool.eq_iff_iff, List.any_eq_true]
 simp

theorem insG_len {l : List Mg} (h : ∀ g ∈ l, g.ins.length ≤ 40) : (insG l).length ≤ 40 * l.length := by
 induction l with
 | nil => simp [insG]
 | cons g l ih =>
   have h1 := ih fun x hx => h x (by simp [hx])
   have h2 := h g (by simp)
   simp only [insG, List.flatMap_cons, List.length_append, List.length_cons] at h1 ⊢
   omega

theorem insG_take {l : List Mg} {i : Nat} (h : i < l.length) : insG (l.take (i + 1)) = insG (l.take i) ++ l[i].ins := by
 unfold insG
 rw [List.take_add_one, List.getElem?_eq_getElem h, List.flatMap_append]; simp

theorem c_uses25 (m : Md) (gs : List Mg) (oth : List Str) (hl : gs.length ≤ 100) (hi : ∀ g ∈ gs, g.ins.length ≤ 40) (ho : oth.length ≤ 1000) (hp : m.pages.length ≤ 30) (hn : ∀ p ∈ m.pages, p.name.length ≤ 1000) :
  FnH Tryz.prog 81 [m.av, gL gs, sL oth] [] (iL (usN m (insG gs ++ oth))) [] := by
 refine FnH.intro lay mixed Tryz.func81 (by kernel_rfl) rfl (by kernel_rfl) rfl fun hok => ?_
 (try dsimp only[argC,succC]);(try dsimp only[awp]);conv=>whnf
 refine LoopE.of <| LoopSpec.inv (.grow 7 1 [] _ rfl (.inl ⟨rfl, rfl⟩) (.refl _ _)) (fun (i : Nat) => i ≤ gs.length)
  (fun i => [(15, .int .i64 i), (7, .sl 1 ((insG (gs.take i)).map .str) (.own 1))]) (fun i => [(1, .tok 1 (insG (gs.take i)).length), (0, .box m.av)]) (fun i => gs.length - i) 0 ?_ (fun _ => rfl) ?_ ?_
 ·exact Nat.zero_le _
 ·refine ⟨?_, .mk ?_ (by simp [idsOk])⟩
  ·repeat' first|exact rfl|exact trivial|exact wR|exact lR _|apply aI
  ·repeat' first|exact rfl|exact trivial|exact wR|exact lR _|apply aI
 intro i hil _
 (try dsimp only[awp]);conv=>whnf
 refine And.intro (fun h => ?_) (fun h => ?_)
 ·have hlt : i < gs.length := by simpa using h
  have ht := insG_take hlt
  have h1 := insG_len (l := gs.take i) (fun g hg => hi g (List.mem_of_mem_take hg))
  have h2 := hi _ (List.getElem_mem hlt)
  rw [List.length_take] at h1
  (try dsimp only[awp]);conv=>whnf
  refine aidx hlt ?_
  generalize gs[i] = x at *
  generalize insG (gs.take i) = L at *
  (try dsimp only[awp]);conv=>whnf
  refine ⟨by rw [List.length_map], .mk (by simp [maxL]; omega) (by simp; omega) ?_⟩
  (try dsimp only[awp]);conv=>whnf
  refine zA ?_;conv=>whnf
  refine ⟨i + 1, ?_, ?_, ?_⟩
  ·exact hlt
  ·rw [ht]
   refine ⟨?_, .mk ?_ (by simp [idsOk])⟩
   ·repeat' first|exact rfl|exact trivial|exact wR|exact lR _|apply aI
    all_goals first | (refine leRL_of ?_; rw [List.map_append]; done) | (simp; done) | (simp; omega)
   ·repeat' first|exact rfl|exact trivial|exact wR|exact lR _|apply aI
    all_goals first | (simp; done) | (simp; omega)
  ·omega
 have hlt : i = gs.length := by have : ¬ i < gs.length := by simpa using h
                                omega
 subst hlt
 rw [List.take_length]
 have h1 := insG_len hi
 clear h
 generalize insG gs = G at *
 (try dsimp only[awp]);conv=>whnf
 refine ⟨by rw [List.length_map], .mk (by simp [maxL]; omega) (by simp; omega) ?_⟩
 (try dsimp only[awp]);conv=>whnf
 refine LoopE.of <| LoopSpec.inv (.grow 10 1 [] _ rfl (.inl ⟨rfl, rfl⟩) (.refl _ _)) (fun (i : Nat) => i ≤ m.pages.length)
  (fun i => [(30, .int .i64 i), (10, .sl 1 (((usK m (G ++ oth) i).map Int.ofNat).map (.int .i64)) (.own 2))]) (fun i => [(2, .tok 1 (usK m (G ++ oth) i).length), (1, .gone), (0, .box m.av)]) (fun i => m.pages.length - i) 0 ?_ (fun _ => rfl) ?_ ?_
 ·exact Nat.zero_le _
 ·refine ⟨?_, .mk ?_ (by simp [idsOk])⟩
  ·repeat' first|exact rfl|exact trivial|exact wR|exact lR _|apply aI
  ·repeat' first|exact rfl|exact trivial|exact wR|exact lR _|apply aI
 intro i hil _
 have hul := usK_len (m := m) (names := G ++ oth) (k := i)
 have hus := usK_succ (m := m) (names := G ++ oth) (k := i)
 (try dsimp only[awp]);conv=>whnf
 refine And.intro (fun h => ?_) (fun h => ?_)
 ·have hlt : i < m.pages.length := by simpa using h
  have e : pgA m i = m.pages[i] := getD_lt hlt
  rw [e] at hus
  have hnl := hn _ (List.getElem_mem hlt)
  (try dsimp only[awp]);conv=>whnf
  refine aidx hlt ?_
  generalize m.pages[i] = x at *
  generalize usK m (G ++ oth) i = L at *
  have cs := c_containsStr (G ++ oth) (atN x)
  rw [anyStr_mem] at cs
  (try dsimp only[awp]);conv=>whnf
  refine ⟨by show (1 : Nat) + x.name.length ≤ maxL; simp [maxL]; omega, ?_⟩
  (try dsimp only[awp]);conv=>whnf
  refine .pure _ _ ?_ ⟨rfl, rfl⟩ cs fun _ => ?_
  ·repeat' first|exact rfl|exact trivial|exact wR|exact lR _|apply aI
   all_goals first | (refine leRL_of ?_; rw [List.map_append]; done) | skip
  (try dsimp only[awp]);conv=>whnf
  refine And.intro (fun h1 => ?_) (fun h1 => ?_)
  ·have h1 : atN x ∈ G ++ oth := of_decide_eq_true h1
   rw [if_pos h1] at hus
   (try dsimp only[awp]);conv=>whnf
   refine ⟨by simp, .mk (by simp [maxL]; omega) (by simp; omega) ?_⟩
   (try dsimp only[awp]);conv=>whnf
   refine zA ?_;conv=>whnf
   refine ⟨i + 1, ?_, ?_, ?_⟩
   ·exact hlt
   ·rw [hus]
    refine ⟨?_, .mk ?_ (by simp [idsOk])⟩
    ·repeat' first|exact rfl|exact trivial|exact wR|exact lR _|apply aI
     all_goals first | (refine leRL_of ?_; rw [List.map_append, List.map_append]; rfl) | (simp; done) | (simp; omega)
    ·repeat' first|exact rfl|exact trivial|exact wR|exact lR _|apply aI
     all_goals first | (simp; done)
   ·omega
  ·have h1 : ¬ atN x ∈ G ++ oth := of_decide_eq_false h1
   rw [if_neg h1, List.append_nil] at hus
   (try dsimp only[awp]);conv=>whnf
   refine zA ?_;conv=>whnf
   refine ⟨i + 1, ?_, ?_, ?_⟩
   ·exact hlt
   ·rw [hus]
    refine ⟨?_, .mk ?_ (by simp [idsOk])⟩
    ·repeat' first|exact rfl|exact trivial|exact wR|exact lR _|apply aI
    ·repeat' first|exact rfl|exact trivial|exact wR|exact lR _|apply aI
   ·omega
 have hlt : i = m.pages.length := by have : ¬ i < m.pages.length := by simpa using h
                                     omega
 subst hlt
 (try dsimp only[awp]);conv=>whnf
 refine fM ?_;(conv=>whnf);refine ⟨?_,rfl⟩;conv=>whnf
 repeat' first|exact rfl|exact trivial|exact wR|exact lR _|apply aI


theorem c_containsPg (l : List Pg) (g : Nat) (cap : List AV) (p : Pg → Bool) (H : Heap) (hg : ∀ x ∈ l, FnH Tryz.prog g (x.av :: cap) H (.bool (p x)) H) :
  FnH Tryz.prog 133 [.sl 3 (l.map Pg.av) .no, .fn g cap] H (.bool (l.any p)) H := by
 refine FnH.intro lay mixed Tryz.func133 (by kernel_rfl) rfl (by kernel_rfl) rfl fun hok => ?_
 (try dsimp only[argC,succC]);(try dsimp only[awp]);conv=>whnf
 refine .gen _ _ (c_idx_Pg l g cap p H hg) fun _ => ?_
 (try dsimp only[awp]);conv=>whnf
 (refine FinSpec.same ?_;(conv=>whnf);refine ⟨?_,rfl⟩;(conv=>whnf))
 exact idxP_nonneg _ l

theorem c_containsMg (l : List Mg) (g : Nat) (cap : List AV) (p : Mg → Bool) (H : Heap) (hg : ∀ x ∈ l, FnH Tryz.prog g (x.av :: cap) H (.bool (p x)) H) :
  FnH Tryz.prog 137 [.sl 7 (l.map Mg.av) .no, .fn g cap] H (.bool (l.any p)) H := by
 refine FnH.intro lay mixed Tryz.func137 (by kernel_rfl) rfl (by kernel_rfl) rfl fun hok => ?_
 (try dsimp only[argC,succC]);(try dsimp only[awp]);conv=>whnf
 refine .gen _ _ (c_idx_Mg l g cap p H hg) fun _ => ?_
 (try dsimp only[awp]);conv=>whnf
 (refine FinSpec.same ?_;(conv=>whnf);refine ⟨?_,rfl⟩;(conv=>whnf))
 exact idxP_nonneg _ l

structure PgB (m : Md) : Prop where
 B : MdB m
 X : MdX m
 names : ∀ p ∈ m.pages, p.name.length ≤ 24

theorem c_inner1 (m : Md) (hm : PgB m) (i : Int) (x : Pg) (hx : x ∈ m.pages) : FnH Tryz.prog 134 [x.av, .ptr 0 [] 0, .ptr 1 [] 0] [(1, .box (.int .i64 i)), (0, .box m.av)] (.bool ((usN m (insG x.gates)).any fun y => decide (i = y))) [(1, .box (.int .i64 i)), (0, .box m.av)] := by
 have cu := c_uses25 m x.gates [] (hm.B.pgates x hx).1 (hm.B.pgates x hx).2 (by simp) hm.B.pages (fun p hp => by have := hm.names p hp; omega)
 have cc := c_containsInt (usN m (insG x.gates)) i
 rw [List.append_nil] at cu
 refine FnH.intro lay mixed Tryz.func134 (by kernel_rfl) rfl (by kernel_rfl) rfl fun hok => ?_
 (try dsimp only[argC,succC]);(try dsimp only[awp]);conv=>whnf
 refine ADraw.auto (by kernel_rfl) ?_;conv=>whnf
 refine ACallP.pure _ _ ?_ ⟨rfl, rfl⟩ cu ?_
 ·repeat' first|exact rfl|exact trivial|exact wR|exact lR _|apply aI
 (try dsimp only[awp]);conv=>whnf
 refine ACallP.pure _ _ ?_ ⟨rfl, rfl⟩ cc ?_
 ·repeat' first|exact rfl|exact trivial|exact wR|exact lR _|apply aI
 (try dsimp only[awp]);conv=>whnf
 refine ⟨⟨_, _, .refl _ _, ?_⟩⟩
 conv=>whnf
 refine ⟨?_, rfl, by simp [nextId], .mk ?_ ⟨by simp, by simp, trivial⟩⟩
 ·repeat' first|exact rfl|exact trivial|exact wR|exact lR _|apply aI
 ·repeat' first|exact rfl|exact trivial|exact wR|exact lR _|apply aI

theorem c_inner (m : Md) (hm : PgB m) (i : Int) : FnH Tryz.prog 78 [m.av, .int .i64 i] [] (.bool (innerP m i)) [] := by
 refine FnH.intro lay mixed Tryz.func78 (by kernel_rfl) rfl (by kernel_rfl) rfl fun hok => ?_
 (try dsimp only[argC,succC]);(try dsimp only[awp]);conv=>whnf
 refine .gen _ _ (c_containsPg m.pages 134 [.ptr 0 [] 0, .ptr 1 [] 0] (fun p => (usN m (insG p.gates)).any fun y => decide (i = y)) _ fun x hx => c_inner1 m hm i x hx) fun _ => ?_
 (try dsimp only[awp]);conv=>whnf
 refine fM ?_;(conv=>whnf);refine ⟨?_,rfl⟩;conv=>whnf
 repeat' first|exact rfl|exact trivial|exact wR|exact lR _|apply aI

theorem c_clone25 (x : Rat) (hx : shortX x) : FnH Tryz.prog 131 [x.av] [] x.av [] := by
 have c1 := c_clone32 x.num (by have := hx.1; omega)
 have c2 := c_clone32 x.den (by have := hx.2; omega)
 refine FnH.intro lay mixed Tryz.func131 (by kernel_rfl) rfl (by kernel_rfl) rfl fun hok => ?_
 (try dsimp only[argC,succC]);(try dsimp only[awp]);conv=>whnf
 refine ADraw.auto (by kernel_rfl) ?_;conv=>whnf
 refine ACallP.pure _ _ ?_ ⟨rfl, rfl⟩ c1 ?_
 ·exact leL_refl _
 (try dsimp only[awp]);conv=>whnf
 refine ACallP.pure _ _ ?_ ⟨rfl, rfl⟩ c2 ?_
 ·exact leL_refl _
 (try dsimp only[awp]);conv=>whnf
 refine fM ?_;(conv=>whnf);refine ⟨?_,rfl⟩;conv=>whnf
 repeat' first|exact rfl|exact trivial|exact wR|exact lR _|apply aI

theorem c_same25 (s : Str) : FnH Tryz.prog 76 [.str s] [] (.str s) [] := by
 refine FnH.intro lay mixed Tryz.func76 (by kernel_rfl) rfl (by kernel_rfl) rfl fun hok => ?_
 (try dsimp only[argC,succC]);(try dsimp only[awp]);conv=>whnf
 refine fM ?_;(conv=>whnf);refine ⟨?_,rfl⟩;conv=>whnf
 repeat' first|exact rfl|exact trivial|exact wR|exact lR _|apply aI

theorem c_own1 (g : Mg) (s : Str) : FnH Tryz.prog 138 [g.av, .ptr 0 [] 0] [(0, .box (.str s))] (.bool (decide (g.name = s))) [(0, .box (.str s))] := by
 refine FnH.intro lay mixed Tryz.func138 (by kernel_rfl) rfl (by kernel_rfl) rfl fun hok => ?_
 (try dsimp only[argC,succC]);(try dsimp only[awp]);conv=>whnf
 refine ⟨⟨_, _, .refl _ _, ?_⟩⟩
 conv=>whnf
 refine ⟨?_, rfl, by simp [nextId], .mk ?_ ⟨by simp, trivial⟩⟩
 ·show _ ↔ _
  simp
 ·repeat' first|exact rfl|exact trivial|exact wR|exact lR _|apply aI

abbrev fO (p : Pg) : AV := .fn 136 [.cp p.av]
abbrev fN (p : Pg) : AV := .fn 139 [.cp p.av]
abbrev fV (p : Pg) : AV := .fn 140 [.cp (fO p), .cp (fN p)]
theorem c_own (p : Pg) (s : Str) : FnH Tryz.prog 136 [.str s, .cp p.av] [] (.bool (ownP p s)) [] := by
 refine FnH.intro lay mixed Tryz.func136 (by kernel_rfl) rfl (by kernel_rfl) rfl fun hok => ?_
 (try dsimp only[argC,succC]);(try dsimp only[awp]);conv=>whnf
 refine .gen _ _ (c_containsMg p.gates 138 [.ptr 0 [] 0] (fun g => decide (g.name = s)) _ fun x _ => c_own1 x s) fun _ => ?_
 (try dsimp only[awp]);conv=>whnf
 refine fM ?_;(conv=>whnf);refine ⟨?_,rfl⟩;conv=>whnf
 repeat' first|exact rfl|exact trivial|exact wR|exact lR _|apply aI

theorem c_nm (p : Pg) (s : Str) (h : p.name.length ≤ 24 ∧ s.length ≤ 24) : FnH Tryz.prog 139 [.str s, .cp p.av] [] (.str (nmP p s)) [] := by
 refine FnH.intro lay mixed Tryz.func139 (by kernel_rfl) rfl (by kernel_rfl) rfl fun hok => ?_
 (try dsimp only[argC,succC]);(try dsimp only[awp]);conv=>whnf
 refine ⟨by show p.name.length + 1 ≤ maxL; simp [maxL]; omega, ?_⟩
 (try dsimp only[awp]);conv=>whnf
 refine ⟨by show (p.name ++ [46]).length + s.length ≤ maxL; simp [maxL]; omega, ?_⟩
 (try dsimp only[awp]);conv=>whnf
 refine fM ?_;(conv=>whnf);refine ⟨?_,rfl⟩;conv=>whnf
 repeat' first|exact rfl|exact trivial|exact wR|exact lR _|apply aI

theorem c_mv (p : Pg) (s : Str) (h : p.name.length ≤ 24 ∧ ∀ g ∈ p.gates, g.name.length ≤ 24) : FnH Tryz.prog 140 [.str s, .cp (fO p), .cp (fN p)] [] (.str (mvP p s)) [] := by
 have co := c_own p s
 unfold mvP
 cases ho : ownP p s with
 | true =>
   have hs : s.length ≤ 24 := by
    unfold ownP at ho
    obtain ⟨g, hg, e⟩ := List.any_eq_true.1 ho
    rw [← of_decide_eq_true e]
    exact h.2 g hg
   have cn := c_nm p s ⟨h.1, hs⟩
   rw [ho] at co
   rw [if_pos rfl]
   have co := co.weak (R' := .tt) rfl
   refine FnH.intro lay mixed Tryz.func140 (by kernel_rfl) rfl (by kernel_rfl) rfl fun hok => ?_
   (try dsimp only[argC,succC]);(try dsimp only[awp]);conv=>whnf
   refine .pure _ _ ?_ ⟨rfl, rfl⟩ co fun _ => ?_
   ·exact leL_refl _
   (try dsimp only[awp]);conv=>whnf
   refine .pure _ _ ?_ ⟨rfl, rfl⟩ cn fun _ => ?_
   ·exact leL_refl _
   (try dsimp only[awp]);conv=>whnf
   refine fM ?_;(conv=>whnf);refine ⟨?_,rfl⟩;conv=>whnf
   repeat' first|exact rfl|exact trivial|exact wR|exact lR _|apply aI
 | false =>
   rw [ho] at co
   rw [if_neg (by simp)]
   have co := co.weak (R' := .ff) rfl
   refine FnH.intro lay mixed Tryz.func140 (by kernel_rfl) rfl (by kernel_rfl) rfl fun hok => ?_
   (try dsimp only[argC,succC]);(try dsimp only[awp]);conv=>whnf
   refine .pure _ _ ?_ ⟨rfl, rfl⟩ co fun _ => ?_
   ·exact leL_refl _
   (try dsimp only[awp]);conv=>whnf
   refine fM ?_;(conv=>whnf);refine ⟨?_,rfl⟩;conv=>whnf
   repeat' first|exact rfl|exact trivial|exact wR|exact lR _|apply aI

theorem c_in (p : Pg) (s : Str) (h : p.name.length ≤ 24 ∧ ∀ g ∈ p.gates, g.name.length ≤ 24) : FnH Tryz.prog 141 [.str s, .cp p.av, .cp (fV p)] [] (.str (inP p s)) [] := by
 have cm := c_mv p p.top h
 unfold inP
 refine FnH.intro lay mixed Tryz.func141 (by kernel_rfl) rfl (by kernel_rfl) rfl fun hok => ?_
 (try dsimp only[argC,succC]);(try dsimp only[awp]);conv=>whnf
 refine ⟨by show (1 : Nat) + p.name.length ≤ maxL; simp [maxL]; omega, ?_⟩
 (try dsimp only[awp]);conv=>whnf
 refine And.intro (fun h1 => ?_) (fun h1 => ?_)
 ·have h1 : s = atN p := h1
  rw [if_pos h1]
  (try dsimp only[awp]);conv=>whnf
  refine .pure _ _ ?_ ⟨rfl, rfl⟩ cm fun _ => ?_
  ·exact leL_refl _
  (try dsimp only[awp]);conv=>whnf
  refine fM ?_;(conv=>whnf);refine ⟨?_,rfl⟩;conv=>whnf
  repeat' first|exact rfl|exact trivial|exact wR|exact lR _|apply aI
 ·have h1 : ¬ s = atN p := h1
  rw [if_neg h1]
  (try dsimp only[awp]);conv=>whnf
  refine fM ?_;(conv=>whnf);refine ⟨?_,rfl⟩;conv=>whnf
  repeat' first|exact rfl|exact trivial|exact wR|exact lR _|apply aI

theorem c_pgatesO (l : List Mg) (g1 g2 : Nat) (c1 c2 : List AV) (φ ψ : Str → Str) (hl : l.length ≤ 1000) (hi : ∀ g ∈ l, g.ins.length ≤ 1000) (hd : ∀ g ∈ l, shortX g.dorm)
  (h1 : ∀ g ∈ l, FnH Tryz.prog g1 (.str g.name :: c1) [] (.str (φ g.name)) []) (h2 : ∀ g ∈ l, ∀ s ∈ g.ins, FnH Tryz.prog g2 (.str s :: c2) [] (.str (ψ s)) []) (b1 : bndBL 0 c1 = true) (b2 : bndBL 0 c2 = true) :
  FnH Tryz.prog 77 [gL l, .fn g1 c1, .fn g2 c2] [] (.sl 7 ((l.map (gIn φ ψ)).map Mg.av) (.own 0)) [(0, .tok 7 l.length)] := by
 refine FnH.intro lay mixed Tryz.func77 (by kernel_rfl) rfl (by kernel_rfl) rfl fun hok => ?_
 (try dsimp only[argC,succC]);(try dsimp only[awp]);conv=>whnf
 refine LoopE.of <| LoopSpec.inv (.grow 7 7 [] _ rfl (.inl ⟨rfl, rfl⟩) (.refl _ _)) (fun (i : Nat) => i ≤ l.length)
  (fun i => [(15, .int .i64 i), (7, .sl 7 (((l.take i).map (gIn φ ψ)).map Mg.av) (.own 0))]) (fun i => [(0, .tok 7 i)]) (fun i => l.length - i) 0 ?_ (fun _ => rfl) ?_ ?_
 ·exact Nat.zero_le _
 ·refine ⟨?_, .mk ?_ ⟨by simp, trivial⟩⟩
  ·repeat' first|exact rfl|exact trivial|exact wR|exact lR _|apply aI
  ·repeat' first|exact rfl|exact trivial|exact wR|exact lR _|apply aI
 intro i hil _
 (try dsimp only[awp]);conv=>whnf
 refine And.intro (fun h => ?_) (fun h => ?_)
 ·have hlt : i < l.length := by simpa using h
  have ht := take_map (f := gIn φ ψ) hlt
  have hlen := take_len (f := gIn φ ψ) hil
  have k1 := h1 _ (List.getElem_mem hlt)
  have k2 := h2 _ (List.getElem_mem hlt)
  have kd := c_clone25 _ (hd _ (List.getElem_mem hlt))
  have ki := hi _ (List.getElem_mem hlt)
  (try dsimp only[awp]);conv=>whnf
  refine aidx hlt ?_
  generalize l[i] = x at *
  generalize (l.take i).map (gIn φ ψ) = L at *
  (try dsimp only[awp]);conv=>whnf
  refine ADraw.auto (by kernel_rfl) ?_;conv=>whnf
  refine ACallP.pure (.str x.name :: c1) (.str (φ x.name)) ?_ ⟨b1, rfl⟩ k1 ?_
  ·exact leL_refl _
  (try dsimp only[awp]);conv=>whnf
  refine ACallP.pure _ _ ?_ ⟨rfl, rfl⟩ kd ?_
  ·exact leL_refl _
  (try dsimp only[awp]);conv=>whnf
  refine LoopE.of <| LoopSpec.inv (.growF 2 [3] 1 [] (.ag [.str (φ x.name), .int .i64 x.kind, .int .i64 x.k, .nils, x.dorm.av]) .nils _ rfl rfl (.inl ⟨rfl, rfl⟩) rfl (.refl _ _)) (fun (j : Nat) => j ≤ x.ins.length)
   (fun j => [(34, .int .i64 j)]) (fun j => [(3, .tok 1 j), (2, .box (.ag [.str (φ x.name), .int .i64 x.kind, .int .i64 x.k, .sl 1 (((x.ins.take j).map ψ).map .str) (.own 3), x.dorm.av])), (1, .gone), (0, .tok 7 i)]) (fun j => x.ins.length - j) 0 ?_ (fun _ => rfl) ?_ ?_
  ·exact Nat.zero_le _
  ·refine ⟨?_, .mk ?_ (by simp [idsOk])⟩
   ·repeat' first|exact rfl|exact trivial|exact wR|exact lR _|apply aI
   ·repeat' first|exact rfl|exact trivial|exact wR|exact lR _|apply aI
  intro j hj _
  (try dsimp only[awp]);conv=>whnf
  refine And.intro (fun hh => ?_) (fun hh => ?_)
  ·have hjl : j < x.ins.length := by simpa using hh
   have ht2 := take_map (f := ψ) hjl
   have hlen2 := take_len (f := ψ) hj
   have y1 := k2 _ (List.getElem_mem hjl)
   (try dsimp only[awp]);conv=>whnf
   refine aidx hjl ?_
   generalize x.ins[j] = y at *
   generalize (x.ins.take j).map ψ = L2 at *
   (try dsimp only[awp]);conv=>whnf
   refine ADraw.auto (by kernel_rfl) ?_;conv=>whnf
   refine ACallP.pure (.str y :: c2) (.str (ψ y)) ?_ ⟨b2, rfl⟩ y1 ?_
   ·exact leL_refl _
   (try dsimp only[awp]);conv=>whnf
   refine ⟨by rw [List.length_map]; omega, .mk (by simp [maxL]; omega) (by simp; omega) ?_⟩
   (try dsimp only[awp]);conv=>whnf
   refine zA ?_;conv=>whnf
   refine ⟨j + 1, ?_, ?_, ?_⟩
   ·exact hjl
   ·rw [ht2]
    refine ⟨?_, .mk ?_ (by simp [idsOk])⟩
    ·repeat' first|exact rfl|exact trivial|exact wR|exact lR _|apply aI
    ·repeat' first|exact rfl|exact trivial|exact wR|exact lR _|apply aI
     all_goals first | (refine leRL_of ?_; rw [List.map_append]; rfl) | (simp; done) | (simp; omega)
   ·omega
  have hjl : j = x.ins.length := by have : ¬ j < x.ins.length := by simpa using hh
                                    omega
  subst hjl
  rw [List.take_length]
  clear hh
  (try dsimp only[awp]);conv=>whnf
  refine ⟨by rw [List.length_map]; omega, .mk (by simp [maxL]; omega) (by simp; omega) ?_⟩
  (try dsimp only[awp]);conv=>whnf
  refine zA ?_;conv=>whnf
  refine ⟨i + 1, ?_, ?_, ?_⟩
  ·exact hlt
  ·rw [ht]
   refine ⟨?_, .mk ?_ (by simp [idsOk])⟩
   ·repeat' first|exact rfl|exact trivial|exact wR|exact lR _|apply aI
    all_goals first | (refine leRL_of ?_; rw [List.map_append]; rfl) | (simp; done) | (simp; omega)
   ·repeat' first|exact rfl|exact trivial|exact wR|exact lR _|apply aI
    all_goals first | (refine leRL_of ?_; rw [List.map_append]; rfl) | (simp; done) | (simp; omega)
  ·omega
 have hlt : i = l.length := by have : ¬ i < l.length := by simpa using h
                               omega
 subst hlt
 rw [List.take_length]
 (try dsimp only[awp]);conv=>whnf
 refine ⟨⟨_, _, .refl _ _, ?_⟩⟩
 conv=>whnf
 refine ⟨?_, rfl, by simp [nextId], .mk ?_ (by simp [idsOk])⟩
 ·repeat' first|exact rfl|exact trivial|exact wR|exact lR _|apply aI
 ·repeat' first|exact rfl|exact trivial|exact wR|exact lR _|apply aI

theorem c_pgates (l : List Mg) (g1 g2 : Nat) (c1 c2 : List AV) (φ ψ : Str → Str) (hl : l.length ≤ 1000) (hi : ∀ g ∈ l, g.ins.length ≤ 1000) (hd : ∀ g ∈ l, shortX g.dorm)
  (h1 : ∀ g ∈ l, FnH Tryz.prog g1 (.str g.name :: c1) [] (.str (φ g.name)) []) (h2 : ∀ g ∈ l, ∀ s ∈ g.ins, FnH Tryz.prog g2 (.str s :: c2) [] (.str (ψ s)) []) (b1 : bndBL 0 c1 = true) (b2 : bndBL 0 c2 = true) :
  FnH Tryz.prog 77 [gL l, .fn g1 c1, .fn g2 c2] [] (gL (l.map (gIn φ ψ))) [] :=
 ((c_pgatesO l g1 g2 c1 c2 φ ψ hl hi hd h1 h2 b1 b2).weak (R' := gL (l.map (gIn φ ψ))) (by (repeat' first|exact rfl|exact trivial|exact wR|exact lR _|apply aI))).heap (by refine .mk ?_ (by simp [idsOk]); (repeat' first|exact rfl|exact trivial|exact wR|exact lR _|apply aI)) (Nat.le_refl _) rfl

theorem c_cloneStr25 (l : List Str) (hl : l.length ≤ 1000000) : FnH Tryz.prog 132 [sL l] [] (sL l) [] := by
 refine FnH.intro lay mixed Tryz.func132 (by kernel_rfl) rfl (by kernel_rfl) rfl fun hok => ?_
 conv=>whnf
 intro b hb
 conv=>whnf
 refine And.intro (fun h => ?_) (fun h => ?_)
 ·have : l = [] := by simpa using hb h
  subst this
  conv=>whnf
  refine fM ?_;(conv=>whnf);refine ⟨?_,rfl⟩;conv=>whnf
  rfl
 ·conv=>whnf
  refine .pure (by simp [maxL]; omega) (by simp; omega) ?_
  conv=>whnf
  refine fM ?_;(conv=>whnf);refine ⟨?_,rfl⟩;conv=>whnf
  repeat' first|exact rfl|exact trivial|exact wR|exact lR _|apply aI

abbrev rsBox (m : Md) (φ : Str → Str) (evs grs phs : AV) : AV := .ag [.str m.name, .str (φ m.top), evs, .sl 2 (m.hs.map Hs.av) .no, .nils, .nils, grs, phs]

abbrev rsAV (m : Md) (φ : Str → Str) : AV := rsBox m φ (.sl 11 (m.evs.map Ev.av) .no) (.sl 4 (m.grs.map Gr.av) .no) (.sl 3 ((m.phs.map (phT φ)).map Ph.av) .no)

theorem take_one {α : Type} {l : List α} {k : Nat} (h : k < l.length) : l.take (k + 1) = l.take k ++ [l[k]] := by
 rw [List.take_add_one, List.getElem?_eq_getElem h]; rfl
theorem take_len1 {α : Type} {l : List α} {k : Nat} (h : k ≤ l.length) : (l.take k).length = k := by simp; omega

theorem c_rest (m : Md) (g : Nat) (c : List AV) (φ : Str → Str) (hB : MdB m) (hX : MdX m) (h1 : FnH Tryz.prog g (.str m.top :: c) [] (.str (φ m.top)) []) (h2 : ∀ x ∈ m.phs, FnH Tryz.prog g (.str x.top :: c) [] (.str (φ x.top)) []) (b1 : bndBL 0 c = true) :
  FnH Tryz.prog 75 [m.av, .fn g c] [] (rsAV m φ) [] := by
 have ch := c_cloneHs m.hs (by have := hB.hs; omega)
 have e1 := hB.evs
 have e3 := hB.grs
 have e4 := hB.phs
 refine FnH.intro lay mixed Tryz.func75 (by kernel_rfl) rfl (by kernel_rfl) rfl fun hok => ?_
 (try dsimp only[argC,succC]);(try dsimp only[awp]);conv=>whnf
 refine ADraw.auto (by kernel_rfl) ?_;conv=>whnf
 refine ACallP.pure (.str m.top :: c) (.str (φ m.top)) ?_ ⟨b1, rfl⟩ h1 ?_
 ·exact leL_refl _
 (try dsimp only[awp]);conv=>whnf
 refine ACallP.pure _ _ ?_ ⟨rfl, rfl⟩ ch ?_
 ·exact leL_refl _
 (try dsimp only[awp]);conv=>whnf
 refine LoopE.of <| LoopSpec.inv (.growF 2 [2] 11 [] (rsBox m φ .nils .nils .nils) .nils _ rfl rfl (.inl ⟨rfl, rfl⟩) rfl (.refl _ _)) (fun (k : Nat) => k ≤ m.evs.length)
  (fun k => [(31, .int .i64 k)]) (fun k => [(3, .tok 11 k), (2, .box (rsBox m φ (.sl 11 ((m.evs.take k).map Ev.av) (.own 3)) .nils .nils)), (1, .box zMd), (0, .box m.av)]) (fun k => m.evs.length - k) 0 ?_ (fun _ => rfl) ?_ ?_
 ·exact Nat.zero_le _
 ·refine ⟨?_, .mk ?_ (by simp [idsOk])⟩
  ·repeat' first|exact rfl|exact trivial|exact wR|exact lR _|apply aI
  ·repeat' first|exact rfl|exact trivial|exact wR|exact lR _|apply aI
 intro k hk _
 (try dsimp only[awp]);conv=>whnf
 refine And.intro (fun h => ?_) (fun h => ?_)
 ·have hkl : k < m.evs.length := by simpa using h
  have ht := take_one hkl
  have hlen := take_len1 hk
  obtain ⟨x1, x2, x3⟩ := hX.evs _ (List.getElem_mem hkl)
  (try dsimp only[awp]);conv=>whnf
  refine aidx hkl ?_
  generalize m.evs[k] = x at *
  generalize m.evs.take k = L at *
  (try dsimp only[awp]);conv=>whnf
  refine ADraw.auto (by kernel_rfl) ?_;conv=>whnf
  refine ACallP.pure _ _ ?_ ⟨rfl, rfl⟩ (c_clone25 x.p x1) ?_
  ·exact leL_refl _
  (try dsimp only[awp]);conv=>whnf
  refine ACallP.pure _ _ ?_ ⟨rfl, rfl⟩ (c_clone25 x.fail x2) ?_
  ·exact leL_refl _
  (try dsimp only[awp]);conv=>whnf
  refine ACallP.pure _ _ ?_ ⟨rfl, rfl⟩ (c_clone25 x.repair x3) ?_
  ·exact leL_refl _
  (try dsimp only[awp]);conv=>whnf
  refine ⟨by rw [List.length_map]; omega, .mk (by simp [maxL]; omega) (by simp; omega) ?_⟩
  (try dsimp only[awp]);conv=>whnf
  refine zA ?_;conv=>whnf
  refine ⟨k + 1, ?_, ?_, ?_⟩
  ·exact hkl
  ·rw [ht]
   refine ⟨?_, .mk ?_ (by simp [idsOk])⟩
   ·repeat' first|exact rfl|exact trivial|exact wR|exact lR _|apply aI
    all_goals first | (simp; done) | (simp; omega)
   ·repeat' first|exact rfl|exact trivial|exact wR|exact lR _|apply aI
    all_goals first | (refine leRL_of ?_; rw [List.map_append]; rfl) | (simp; done) | (simp; omega)
  ·omega
 have hkl : k = m.evs.length := by have : ¬ k < m.evs.length := by simpa using h
                                   omega
 subst hkl
 rw [List.take_length]
 clear h
 (try dsimp only[awp]);conv=>whnf
 refine LoopE.of <| LoopSpec.inv (.growF 2 [6] 4 [] (rsBox m φ (.sl 11 (m.evs.map Ev.av) (.own 3)) .nils .nils) .nils _ rfl rfl (.inl ⟨rfl, rfl⟩) rfl (.refl _ _)) (fun (k : Nat) => k ≤ m.grs.length)
  (fun k => [(57, .int .i64 k)]) (fun k => [(4, .tok 4 k), (3, .gone), (2, .box (rsBox m φ (.sl 11 (m.evs.map Ev.av) .no) (.sl 4 ((m.grs.take k).map Gr.av) (.own 4)) .nils)), (1, .box zMd), (0, .box m.av)]) (fun k => m.grs.length - k) 0 ?_ (fun _ => rfl) ?_ ?_
 ·exact Nat.zero_le _
 ·refine ⟨?_, .mk ?_ (by simp [idsOk])⟩
  ·repeat' first|exact rfl|exact trivial|exact wR|exact lR _|apply aI
  ·repeat' first|exact rfl|exact trivial|exact wR|exact lR _|apply aI
 intro k hk _
 (try dsimp only[awp]);conv=>whnf
 refine And.intro (fun h => ?_) (fun h => ?_)
 ·have hkl : k < m.grs.length := by simpa using h
  have ht := take_one hkl
  have hlen := take_len1 hk
  have hm := hB.mem _ (List.getElem_mem hkl)
  have cgp := c_cloneStr25 (m.grs[k]).mem (by omega)
  have hf := hX.grs _ (List.getElem_mem hkl)
  (try dsimp only[awp]);conv=>whnf
  refine aidx hkl ?_
  generalize m.grs[k] = x at *
  generalize m.grs.take k = L at *
  (try dsimp only[awp]);conv=>whnf
  refine ADraw.auto (by kernel_rfl) ?_;conv=>whnf
  refine ACallP.pure _ _ ?_ ⟨rfl, rfl⟩ cgp ?_
  ·exact leL_refl _
  (try dsimp only[awp]);conv=>whnf
  refine LoopE.of <| LoopSpec.inv (.growF 6 [3] 3 [] (.ag [.str x.name, .int .i64 x.kind, sL x.mem, .nils]) .nils _ rfl rfl (.inl ⟨rfl, rfl⟩) rfl (.refl _ _)) (fun (j : Nat) => j ≤ x.fac.length)
   (fun j => [(72, .int .i64 j)]) (fun j => [(7, .tok 3 j), (6, .box (.ag [.str x.name, .int .i64 x.kind, sL x.mem, .sl 3 ((x.fac.take j).map Rat.av) (.own 7)])), (5, .gone), (4, .tok 4 k), (3, .gone), (2, .box (rsBox m φ (.sl 11 (m.evs.map Ev.av) .no) (.sl 4 (L.map Gr.av) (.own 4)) .nils)), (1, .box zMd), (0, .box m.av)]) (fun j => x.fac.length - j) 0 ?_ (fun _ => rfl) ?_ ?_
  ·exact Nat.zero_le _
  ·refine ⟨?_, .mk ?_ (by simp [idsOk])⟩
   ·repeat' first|exact rfl|exact trivial|exact wR|exact lR _|apply aI
   ·repeat' first|exact rfl|exact trivial|exact wR|exact lR _|apply aI
  intro j hj _
  (try dsimp only[awp]);conv=>whnf
  refine And.intro (fun hh => ?_) (fun hh => ?_)
  ·have hjl : j < x.fac.length := by simpa using hh
   have ht2 : x.fac.take (j + 1) = x.fac.take j ++ [x.fac[j]] := by rw [List.take_add_one, List.getElem?_eq_getElem hjl]; rfl
   have hlen2 : (x.fac.take j).length = j := by simp; omega
   have y1 := hf _ (List.getElem_mem hjl)
   (try dsimp only[awp]);conv=>whnf
   refine aidx hjl ?_
   generalize x.fac[j] = y at *
   generalize x.fac.take j = L2 at *
   (try dsimp only[awp]);conv=>whnf
   refine ADraw.auto (by kernel_rfl) ?_;conv=>whnf
   refine ACallP.pure _ _ ?_ ⟨rfl, rfl⟩ (c_clone25 y y1) ?_
   ·exact leL_refl _
   (try dsimp only[awp]);conv=>whnf
   refine ⟨by rw [List.length_map]; omega, .mk (by simp [maxL]; omega) (by simp; omega) ?_⟩
   (try dsimp only[awp]);conv=>whnf
   refine zA ?_;conv=>whnf
   refine ⟨j + 1, ?_, ?_, ?_⟩
   ·exact hjl
   ·rw [ht2]
    refine ⟨?_, .mk ?_ (by simp [idsOk])⟩
    ·repeat' first|exact rfl|exact trivial|exact wR|exact lR _|apply aI
    ·repeat' first|exact rfl|exact trivial|exact wR|exact lR _|apply aI
     all_goals first | (refine leRL_of ?_; rw [List.map_append]; rfl) | (simp; done) | (simp; omega)
   ·omega
  have hjl : j = x.fac.length := by have : ¬ j < x.fac.length := by simpa using hh
                                    omega
  subst hjl
  rw [List.take_length]
  clear hh
  (try dsimp only[awp]);conv=>whnf
  refine ⟨by rw [List.length_map]; omega, .mk (by simp [maxL]; omega) (by simp; omega) ?_⟩
  (try dsimp only[awp]);conv=>whnf
  refine zA ?_;conv=>whnf
  refine ⟨k + 1, ?_, ?_, ?_⟩
  ·exact hkl
  ·rw [ht]
   refine ⟨?_, .mk ?_ (by simp [idsOk])⟩
   ·repeat' first|exact rfl|exact trivial|exact wR|exact lR _|apply aI
    all_goals first | (simp; done) | (simp; omega)
   ·repeat' first|exact rfl|exact trivial|exact wR|exact lR _|apply aI
    all_goals first | (refine leRL_of ?_; rw [List.map_append]; rfl) | (simp; done) | (simp; omega)
  ·omega
 have hkl : k = m.grs.length := by have : ¬ k < m.grs.length := by simpa using h
                                   omega
 subst hkl
 rw [List.take_length]
 clear h
 (try dsimp only[awp]);conv=>whnf
 refine LoopE.of <| LoopSpec.inv (.growF 2 [7] 3 [] (rsBox m φ (.sl 11 (m.evs.map Ev.av) .no) (.sl 4 (m.grs.map Gr.av) (.own 4)) .nils) .nils _ rfl rfl (.inl ⟨rfl, rfl⟩) rfl (.refl _ _)) (fun (k : Nat) => k ≤ m.phs.length)
  (fun k => [(94, .int .i64 k)]) (fun k => [(5, .tok 3 k), (4, .gone), (3, .gone), (2, .box (rsBox m φ (.sl 11 (m.evs.map Ev.av) .no) (.sl 4 (m.grs.map Gr.av) .no) (.sl 3 (((m.phs.take k).map (phT φ)).map Ph.av) (.own 5)))), (1, .box zMd), (0, .box m.av)]) (fun k => m.phs.length - k) 0 ?_ (fun _ => rfl) ?_ ?_
 ·exact Nat.zero_le _
 ·refine ⟨?_, .mk ?_ (by simp [idsOk])⟩
  ·repeat' first|exact rfl|exact trivial|exact wR|exact lR _|apply aI
  ·repeat' first|exact rfl|exact trivial|exact wR|exact lR _|apply aI
 intro k hk _
 (try dsimp only[awp]);conv=>whnf
 refine And.intro (fun h => ?_) (fun h => ?_)
 ·have hkl : k < m.phs.length := by simpa using h
  have ht := take_map (f := phT φ) hkl
  have hlen := take_len (f := phT φ) hk
  have hv := hB.vals _ (List.getElem_mem hkl)
  have hf := hX.phs _ (List.getElem_mem hkl)
  have k2 := h2 _ (List.getElem_mem hkl)
  (try dsimp only[awp]);conv=>whnf
  refine aidx hkl ?_
  generalize m.phs[k] = x at *
  generalize (m.phs.take k).map (phT φ) = L at *
  (try dsimp only[awp]);conv=>whnf
  refine ADraw.auto (by kernel_rfl) ?_;conv=>whnf
  refine ACallP.pure (.str x.top :: c) (.str (φ x.top)) ?_ ⟨b1, rfl⟩ k2 ?_
  ·exact leL_refl _
  (try dsimp only[awp]);conv=>whnf
  refine LoopE.of <| LoopSpec.inv (.growF 7 [2] 4 [] (.ag [.str x.name, .str (φ x.top), .nils]) .nils _ rfl rfl (.inl ⟨rfl, rfl⟩) rfl (.refl _ _)) (fun (j : Nat) => j ≤ x.vals.length)
   (fun j => [(108, .int .i64 j)]) (fun j => [(8, .tok 4 j), (7, .box (.ag [.str x.name, .str (φ x.top), .sl 4 ((x.vals.take j).map Pv.av) (.own 8)])), (6, .gone), (5, .tok 3 k), (4, .gone), (3, .gone), (2, .box (rsBox m φ (.sl 11 (m.evs.map Ev.av) .no) (.sl 4 (m.grs.map Gr.av) .no) (.sl 3 (L.map Ph.av) (.own 5)))), (1, .box zMd), (0, .box m.av)]) (fun j => x.vals.length - j) 0 ?_ (fun _ => rfl) ?_ ?_
  ·exact Nat.zero_le _
  ·refine ⟨?_, .mk ?_ (by simp [idsOk])⟩
   ·repeat' first|exact rfl|exact trivial|exact wR|exact lR _|apply aI
   ·repeat' first|exact rfl|exact trivial|exact wR|exact lR _|apply aI
  intro j hj _
  (try dsimp only[awp]);conv=>whnf
  refine And.intro (fun hh => ?_) (fun hh => ?_)
  ·have hjl : j < x.vals.length := by simpa using hh
   have ht2 := take_one hjl
   have hlen2 := take_len1 hj
   have y1 := hf _ (List.getElem_mem hjl)
   (try dsimp only[awp]);conv=>whnf
   refine aidx hjl ?_
   generalize x.vals[j] = y at *
   generalize x.vals.take j = L2 at *
   (try dsimp only[awp]);conv=>whnf
   refine ADraw.auto (by kernel_rfl) ?_;conv=>whnf
   refine ACallP.pure _ _ ?_ ⟨rfl, rfl⟩ (c_clone25 y.p y1) ?_
   ·exact leL_refl _
   (try dsimp only[awp]);conv=>whnf
   refine ⟨by rw [List.length_map]; omega, .mk (by simp [maxL]; omega) (by simp; omega) ?_⟩
   (try dsimp only[awp]);conv=>whnf
   refine zA ?_;conv=>whnf
   refine ⟨j + 1, ?_, ?_, ?_⟩
   ·exact hjl
   ·rw [ht2]
    refine ⟨?_, .mk ?_ (by simp [idsOk])⟩
    ·repeat' first|exact rfl|exact trivial|exact wR|exact lR _|apply aI
    ·repeat' first|exact rfl|exact trivial|exact wR|exact lR _|apply aI
     all_goals first | (refine leRL_of ?_; rw [List.map_append]; rfl) | (simp; done) | (simp; omega)
   ·omega
  have hjl : j = x.vals.length := by have : ¬ j < x.vals.length := by simpa using hh
                                     omega
  subst hjl
  rw [List.take_length]
  clear hh
  (try dsimp only[awp]);conv=>whnf
  refine ⟨by rw [List.length_map]; omega, .mk (by simp [maxL]; omega) (by simp; omega) ?_⟩
  (try dsimp only[awp]);conv=>whnf
  refine zA ?_;conv=>whnf
  refine ⟨k + 1, ?_, ?_, ?_⟩
  ·exact hkl
  ·rw [ht]
   refine ⟨?_, .mk ?_ (by simp [idsOk])⟩
   ·repeat' first|exact rfl|exact trivial|exact wR|exact lR _|apply aI
    all_goals first | (simp; done) | (simp; omega)
   ·repeat' first|exact rfl|exact trivial|exact wR|exact lR _|apply aI
    all_goals first | (refine leRL_of ?_; rw [List.map_append]; rfl) | (simp; done) | (simp; omega)
  ·omega
 have hkl : k = m.phs.length := by have : ¬ k < m.phs.length := by simpa using h
                                   omega
 subst hkl
 rw [List.take_length]
 clear h
 (try dsimp only[awp]);conv=>whnf
 refine fM ?_;(conv=>whnf);refine ⟨?_,rfl⟩;conv=>whnf
 repeat' first|exact rfl|exact trivial|exact wR|exact lR _|apply aI

theorem gIn_all : ∀ (l : List Mg), l.map (gIn id id) = l
 | [] => rfl
 | g :: l => by rw [List.map_cons, gIn_id, gIn_all l]

def erK (l : List Pg) (i k : Nat) : List Pg := (l.take k).eraseIdx i

theorem erK_succ {l : List Pg} {i k : Nat} (h : k < l.length) : erK l i (k + 1) = if k = i then erK l i k else erK l i k ++ [l[k]] := by
 unfold erK
 have hl : (l.take k).length = k := by simp; omega
 rw [take_one h]
 by_cases e : k = i
 ·subst e
  rw [if_pos rfl, List.eraseIdx_append_of_length_le (by omega), hl, Nat.sub_self, List.eraseIdx_of_length_le (l := l.take k) (by omega)]
  simp
 ·rw [if_neg e]
  by_cases h2 : i < k
  ·rw [List.eraseIdx_append_of_lt_length (by omega)]
  ·rw [List.eraseIdx_append_of_length_le (by omega), hl, List.eraseIdx_of_length_le (l := l.take k) (by omega)]
   rw [List.eraseIdx_of_length_le (by simp; omega)]

theorem erK_len {l : List Pg} {i k : Nat} (h : k ≤ l.length) : (erK l i k).length ≤ k := by
 unfold erK
 have := List.length_eraseIdx_le (l.take k) i
 simp at this
 omega

def mgAV (n : Md) (e : Int) : AV := if e = 0 then .tup [n.av, .nilI] else .tup [zMd, .ifc 90 (.int .i64 e)]

abbrev mbox (m : Md) (p : Pg) (t : Tk) (pages : AV) : AV := .ag [.str m.name, .str (inP p m.top), .sl 11 (m.evs.map Ev.av) .no, .sl 2 (m.hs.map Hs.av) .no, .sl 7 ((m.gates.map (gIn id (inP p))).map Mg.av ++ (p.gates.map (gIn (nmP p) (mvP p))).map Mg.av) t, pages, .sl 4 (m.grs.map Gr.av) .no, .sl 3 ((m.phs.map (phT (inP p))).map Ph.av) .no]

theorem c_merge (m : Md) (hm : PgB m) (i : Nat) (hi : i < m.pages.length) (hC : MdC m) (hn : ∀ g ∈ (pgA m i).gates, g.name.length ≤ 24) (ht : totalM m ≤ 64) (R : AV) (hR : R = mgAV (mgM m i (pgA m i)) (mgE m i)) :
  FnH Tryz.prog 79 [m.av, .int .i64 i] [] R [] := by
 have ci := c_inner m hm i
 have hB := hm.B
 have hX := hm.X
 have hpm := pg_mem hi
 have hpn : (pgA m i).name.length ≤ 24 := hm.names _ hpm
 have hpb := hB.pgates _ hpm
 have hpx := hX.pages _ hpm
 have cI := fun s => c_in (pgA m i) s ⟨hpn, hn⟩
 have cV := fun s => c_mv (pgA m i) s ⟨hpn, hn⟩
 have cN := fun s h => c_nm (pgA m i) s ⟨hpn, h⟩
 have cr := c_rest m 141 [.cp (pgA m i).av, .cp (fV (pgA m i))] (inP (pgA m i)) hB hX (cI _) (fun x _ => cI _) rfl
 have cg1 := c_pgatesO m.gates 76 141 [] [.cp (pgA m i).av, .cp (fV (pgA m i))] id (inP (pgA m i)) (by have := hB.gates.1; omega) (fun g hg => by have := hB.gates.2 g hg; omega) hX.gates (fun g _ => c_same25 _) (fun g _ s _ => cI s) rfl rfl
 have cg2 := c_pgates (pgA m i).gates 139 140 [.cp (pgA m i).av] [.cp (fO (pgA m i)), .cp (fN (pgA m i))] (nmP (pgA m i)) (mvP (pgA m i)) (by omega) (fun g hg => by have := hpb.2 g hg; omega) hpx (fun g hg => cN _ (hn g hg)) (fun g _ s _ => cV s) rfl rfl
 have hl1 := hB.gates.1
 have hl2 := hpb.1
 have hpl := hB.pages
 have cc2 := c_mCheck (mgM m i (pgA m i)) (mg_C hi hC) (mg_B hi hB ht) _ rfl
 unfold mgE at hR
 cases hin : innerP m i with
 | true =>
   rw [hin] at ci
   rw [hin, if_pos rfl] at hR
   have ci := ci.weak (R' := .tt) rfl
   subst hR
   refine FnH.intro lay mixed Tryz.func79 (by kernel_rfl) rfl (by kernel_rfl) rfl fun hok => ?_
   (try dsimp only[argC,succC]);(try dsimp only[awp]);conv=>whnf
   refine .pure _ _ ?_ ⟨rfl, rfl⟩ ci fun _ => ?_
   ·exact leL_refl _
   (try dsimp only[awp]);conv=>whnf
   refine fM ?_;(conv=>whnf);refine ⟨?_,rfl⟩;conv=>whnf
   repeat' first|exact rfl|exact trivial|exact wR|exact lR _|apply aI
 | false =>
 rw [hin] at ci
 rw [hin, if_neg (by simp)] at hR
 have ci := ci.weak (R' := .ff) rfl
 have hpa : pgA m i = m.pages[i] := getD_lt hi
 refine FnH.introF [0, 2, 3, 4, 5] 7 lay mixed Tryz.func79 (by kernel_rfl) rfl (by kernel_rfl) rfl fun hok => ?_
 (try dsimp only[argC,succC]);(try dsimp only[awp]);conv=>whnf
 refine .pure _ _ ?_ ⟨rfl, rfl⟩ ci fun _ => ?_
 ·exact leL_refl _
 (try dsimp only[awp]);conv=>whnf
 refine aidx hi ?_
 rw [← hpa]
 generalize pgA m i = p at *
 (try dsimp only[awp]);conv=>whnf
 repeat (refine And.intro ⟨rfl, rfl⟩ ?_; (conv=>whnf))
 refine .pure _ _ ?_ ⟨rfl, rfl⟩ cr fun _ => ?_
 ·exact leL_refl _
 (try dsimp only[awp]);conv=>whnf
 refine ADraw.mk ⟨[true, true, true, false, true, true, true, true, true, false, true, false], by kernel_rfl, ?_⟩
 conv=>whnf
 refine .gen _ _ (FnH.frame [] cg1 ⟨rfl, rfl, rfl, rfl⟩ ?_ ?_) fun _ => ?_
 ·repeat' first|exact rfl|exact trivial|exact wR|exact lR _|apply aI
 ·repeat' first|exact rfl|exact trivial|exact wR|exact lR _|apply aI
 (try dsimp only[awp]);conv=>whnf
 refine ACallP.pure _ _ ?_ ⟨rfl, rfl⟩ cg2 ?_
 ·exact leL_refl _
 (try dsimp only[awp]);conv=>whnf
 refine ⟨by simp, .mk (by simp [maxL]; omega) (by simp; omega) ?_⟩
 (try dsimp only[awp]);conv=>whnf
 refine LoopE.of <| LoopSpec.inv (.growF 6 [5] 3 [] (mbox m p (.own 7) .nils) .nils _ rfl rfl (.inl ⟨rfl, rfl⟩) rfl (.refl _ _)) (fun (k : Nat) => k ≤ m.pages.length)
  (fun k => [(48, .int .i64 k)]) (fun k => [(8, .tok 3 (erK m.pages i k).length), (7, .gone), (6, .box (mbox m p .no (.sl 3 ((erK m.pages i k).map Pg.av) (.own 8)))), (5, .gone), (4, .gone), (3, .gone), (2, .gone), (1, .box zMd), (0, .gone)]) (fun k => m.pages.length - k) 0 ?_ (fun _ => rfl) ?_ ?_
 ·exact Nat.zero_le _
 ·refine ⟨?_, .mk ?_ (by simp [idsOk])⟩
  ·repeat' first|exact rfl|exact trivial|exact wR|exact lR _|apply aI
  ·repeat' first|exact rfl|exact trivial|exact wR|exact lR _|apply aI
 intro k hk _
 have hel := erK_len (i := i) hk
 (try dsimp only[awp]);conv=>whnf
 refine And.intro (fun h => ?_) (fun h => ?_)
 ·have hkl : k < m.pages.length := by simpa using h
  have ht := erK_succ (i := i) hkl
  have hpk := hB.pgates _ (List.getElem_mem hkl)
  have cgp := c_pgates (m.pages[k]).gates 76 76 [] [] id id (by omega) (fun g hg => by have := hpk.2 g hg; omega) (hX.pages _ (List.getElem_mem hkl)) (fun g _ => c_same25 _) (fun g _ s _ => c_same25 s) rfl rfl
  rw [gIn_all] at cgp
  (try dsimp only[awp]);conv=>whnf
  refine aidx hkl ?_
  generalize m.pages[k] = x at *
  generalize erK m.pages i k = L at *
  (try dsimp only[awp]);conv=>whnf
  refine And.intro (fun h1 => ?_) (fun h1 => ?_)
  ·have h1 : ¬ k = i := by intro e; exact h1 (by rw [e])
   rw [if_neg h1] at ht
   (try dsimp only[awp]);conv=>whnf
   refine ADraw.auto (by kernel_rfl) ?_;conv=>whnf
   refine ACallP.pure _ _ ?_ ⟨rfl, rfl⟩ cgp ?_
   ·exact leL_refl _
   (try dsimp only[awp]);conv=>whnf
   refine ⟨by rw [List.length_map], .mk (by simp [maxL]; omega) (by simp; omega) ?_⟩
   (try dsimp only[awp]);conv=>whnf
   refine zA ?_;conv=>whnf
   refine ⟨k + 1, ?_, ?_, ?_⟩
   ·exact hkl
   ·rw [ht]
    refine ⟨?_, .mk ?_ (by simp [idsOk])⟩
    ·repeat' first|exact rfl|exact trivial|exact wR|exact lR _|apply aI
     all_goals first | (simp; done) | (simp; omega)
    ·repeat' first|exact rfl|exact trivial|exact wR|exact lR _|apply aI
     all_goals first | (refine leRL_of ?_; rw [List.map_append]; rfl) | (simp; done) | (simp; omega)
   ·omega
  ·have h1 : k = i := by
    by_cases e : k = i
    ·exact e
    ·exact absurd (fun (e2 : (k : Int) = i) => e (by omega)) h1
   rw [if_pos h1] at ht
   (try dsimp only[awp]);conv=>whnf
   refine zA ?_;conv=>whnf
   refine ⟨k + 1, ?_, ?_, ?_⟩
   ·exact hkl
   ·rw [ht]
    refine ⟨?_, .mk ?_ (by simp [idsOk])⟩
    ·repeat' first|exact rfl|exact trivial|exact wR|exact lR _|apply aI
     all_goals first | (simp; done) | (simp; omega)
    ·repeat' first|exact rfl|exact trivial|exact wR|exact lR _|apply aI
     all_goals first | (refine leRL_of ?_; rw [List.map_append]; rfl) | (simp; done) | (simp; omega)
   ·omega
 have hkl : k = m.pages.length := by have : ¬ k < m.pages.length := by simpa using h
                                     omega
 subst hkl
 rw [show erK m.pages i m.pages.length = m.pages.eraseIdx i by unfold erK; rw [List.take_length]]
 clear h
 (try dsimp only[awp]);conv=>whnf
 refine LoopE.of <| LoopSpec.inv (.refl _ _) (fun (k : Nat) => k ≤ p.gates.length ∧ ∀ (j : Nat) (hj : j < p.gates.length), j < k → ¬ 24 < (nmP p p.gates[j].name).length) (fun (k : Nat) => [(73, .int .i64 k)]) (fun _ => _) (fun (k : Nat) => p.gates.length - k) 0 ?_ (fun _ => rfl) ?_ ?_
 ·exact ⟨Nat.zero_le _, by omega⟩
 ·repeat' first|exact rfl|exact trivial|exact wR|exact lR _|apply aI
 rintro k ⟨hk, hno⟩ _
 (try dsimp only[awp]);conv=>whnf
 refine And.intro (fun h => ?_) (fun h => ?_)
 ·have hkl : k < p.gates.length := by simpa using h
  have cn := cN _ (hn _ (List.getElem_mem hkl))
  (try dsimp only[awp]);conv=>whnf
  refine aidx hkl ?_
  (try dsimp only[awp]);conv=>whnf
  refine .pure _ _ ?_ ⟨rfl, rfl⟩ cn fun _ => ?_
  ·exact leL_refl _
  (try dsimp only[awp]);conv=>whnf
  refine And.intro (fun h1 => ?_) (fun h1 => ?_)
  ·have h1 : 24 < (nmP p p.gates[k].name).length := by omega
   have hlong : longP p = true := List.any_eq_true.2 ⟨_, List.getElem_mem hkl, decide_eq_true h1⟩
   rw [hlong, if_pos rfl] at hR
   subst hR
   (try dsimp only[awp]);conv=>whnf
   refine fM ?_;(conv=>whnf);refine ⟨?_,rfl⟩;conv=>whnf
   repeat' first|exact rfl|exact trivial|exact wR|exact lR _|apply aI
  ·have h1 : ¬ 24 < (nmP p p.gates[k].name).length := by omega
   (try dsimp only[awp]);conv=>whnf
   refine zA ?_;conv=>whnf
   refine ⟨k + 1, ?_, ?_, ?_⟩
   ·refine ⟨hkl, fun j hj hjk => ?_⟩
    by_cases e : j = k
    ·subst e; exact h1
    ·exact hno j hj (by omega)
   ·refine ⟨?_, .mk ?_ (by simp [idsOk])⟩
    ·repeat' first|exact rfl|exact trivial|exact wR|exact lR _|apply aI
    ·repeat' first|exact rfl|exact trivial|exact wR|exact lR _|apply aI
   ·omega
 have hkl : k = p.gates.length := by have : ¬ k < p.gates.length := by simpa using h
                                     omega
 have hlong : longP p = false := by
  unfold longP
  rw [List.any_eq_false]
  intro x hx
  obtain ⟨j, hj, rfl⟩ := List.getElem_of_mem hx
  simpa using hno j hj (by omega)
 rw [hlong, if_neg (by simp)] at hR
 subst hkl
 clear h
 by_cases g1 : checkM (mgM m i p) = 0
 ·rw [g1, errAV_zero] at cc2
  rw [g1] at hR
  subst hR
  (try dsimp only[awp]);conv=>whnf
  refine .pure _ _ ?_ ⟨rfl, rfl⟩ cc2 fun _ => ?_
  ·repeat' first|exact rfl|exact trivial|exact wR|exact lR _|apply aI
   all_goals first | (refine leRL_of ?_; rw [← List.map_append]; rfl) | skip
  (try dsimp only[awp]);conv=>whnf
  refine fM ?_;(conv=>whnf);refine ⟨?_,rfl⟩;conv=>whnf
  repeat' first|exact rfl|exact trivial|exact wR|exact lR _|apply aI
  all_goals first | (refine leRL_of ?_; rw [← List.map_append]; rfl) | skip
 ·rw [errAV_ne g1] at cc2
  have hR : R = .tup [zMd, .ifc 90 (.int .i64 (checkM (mgM m i p)))] := by rw [hR]; unfold mgAV; rw [if_neg g1]
  subst hR
  (try dsimp only[awp]);conv=>whnf
  refine .pure _ _ ?_ ⟨rfl, rfl⟩ cc2 fun _ => ?_
  ·repeat' first|exact rfl|exact trivial|exact wR|exact lR _|apply aI
   all_goals first | (refine leRL_of ?_; rw [← List.map_append]; rfl) | skip
  (try dsimp only[awp]);conv=>whnf
  refine fM ?_;(conv=>whnf);refine ⟨?_,rfl⟩;conv=>whnf
  repeat' first|exact rfl|exact trivial|exact wR|exact lR _|apply aI

section
variable {σ : Type} (kids : Node → List Node) (step : σ → Node → σ) (V : σ → Node → Prop)

structure Inv (s : WS σ) : Prop where
 rank : ∃ rank : Node → Nat, ∀ x, look s.es x = 2 → ∀ y ∈ kids x, y.1 = 2 → look s.es y = 2 ∧ rank y < rank x
 met : ∀ x, look s.es x = 2 → V s.st x ∧ ∀ y ∈ kids x, y.1 ≠ 2 → V s.st y

structure On (s s' : WS σ) : Prop where
 one : ∀ y, look s'.es y = 1 ↔ look s.es y = 1
 two : ∀ y, look s.es y = 2 → look s'.es y = 2
 met : ∀ y, V s.st y → V s'.st y

theorem On.refl (s : WS σ) : On V s s := ⟨fun _ => Iff.rfl, fun _ h => h, fun _ h => h⟩
theorem On.trans {a b c : WS σ} (h : On V a b) (g : On V b c) : On V a c := ⟨fun y => (g.one y).trans (h.one y), fun y e => g.two y (h.two y e), fun y e => g.met y (h.met y e)⟩

structure After (x : Node) (s s' : WS σ) : Prop where
 inv : Inv kids V s'
 on : On V s s'
 done : x.1 = 2 → look s'.es x = 2
 leaf : x.1 ≠ 2 → V s'.st x

variable {kids step V}

theorem kids_after {f : Node → WS σ → Bool × WS σ} (ok : Node → Prop) (m : Nat) (fr : Marks → Nat) (hfr : ∀ y s, fr (f y s).2.es ≤ fr s.es)
  (hf : ∀ y s, ok y → fr s.es ≤ m → Inv kids V s → (f y s).1 = false → After kids V y s (f y s).2) :
  ∀ (l : List Node) (s : WS σ), (∀ y ∈ l, ok y) → fr s.es ≤ m → Inv kids V s → (kidsF f l s).1 = false →
    Inv kids V (kidsF f l s).2 ∧ On V s (kidsF f l s).2 ∧ ∀ y ∈ l, (y.1 = 2 → look (kidsF f l s).2.es y = 2) ∧ (y.1 ≠ 2 → V (kidsF f l s).2.st y)
 | [], s, _, _, hi, _ => ⟨hi, .refl V s, by simp⟩
 | y :: l, s, hl, hm, hi, h => by
   simp only [kidsF] at h ⊢
   by_cases hb : (f y s).1 = true
   ·rw [if_pos hb] at h
    rw [hb] at h; cases h
   ·rw [if_neg hb] at h ⊢
    have hy := hf y s (hl y (by simp)) hm hi (by simpa using hb)
    have hm2 := hfr y s
    obtain ⟨h1, h2, h3⟩ := kids_after ok m fr hfr hf l (f y s).2 (fun z hz => hl z (by simp [hz])) (by omega) hy.inv h
    refine ⟨h1, hy.on.trans V h2, fun z hz => ?_⟩
    rcases List.mem_cons.1 hz with rfl | hz
    ·exact ⟨fun e => h2.two _ (hy.done e), fun e => h2.met _ (hy.leaf e)⟩
    ·exact h3 z hz

theorem sum_ge {rank : Node → Nat} : ∀ {l : List Node} {y : Node}, y ∈ l → rank y ≤ (l.map rank).sum
 | [], _, h => by simp at h
 | x :: l, y, h => by
   simp only [List.map_cons, List.sum_cons]
   rcases List.mem_cons.1 h with rfl | h
   ·omega
   ·have := sum_ge (rank := rank) h; omega

theorem walk_after (all : List Node) (ok : Node → Prop) (hok : ∀ x, ok x → x.1 = 2 → x ∈ all ∧ ∀ y ∈ kids x, ok y) (hV1 : ∀ st x, V (step st x) x) (hV2 : ∀ st x y, V st y → V (step st x) y) :
  ∀ (n : Nat) (x : Node) (s : WS σ), ok x → free all s.es < n → Inv kids V s → (walkF kids step n x s).1 = false → After kids V x s (walkF kids step n x s).2
 | 0, _, _, _, h, _, _ => by omega
 | n + 1, x, s, hx, hf, hi, h => by
   simp only [walkF] at h ⊢
   by_cases h1 : x.1 ≠ 2
   ·rw [if_pos h1]
    exact ⟨⟨hi.rank, fun y hy => ⟨hV2 _ _ _ (hi.met y hy).1, fun z hz e => hV2 _ _ _ ((hi.met y hy).2 z hz e)⟩⟩, ⟨fun _ => Iff.rfl, fun _ h => h, fun y => hV2 _ _ _⟩, fun e => absurd e h1, fun _ => hV1 _ _⟩
   rw [if_neg h1] at h ⊢
   by_cases h2 : look s.es x = 1
   ·rw [if_pos h2] at h; cases h
   rw [if_neg h2] at h ⊢
   by_cases h3 : look s.es x = 2
   ·rw [if_pos h3]
    exact ⟨hi, .refl V s, fun _ => h3, fun e => absurd e h1⟩
   rw [if_neg h3] at h ⊢
   obtain ⟨hm, hk⟩ := hok x hx (by omega)
   have hlt := free_lt (all := all) (v := 1) hm h2 h3 (.inl rfl)
   have hi1 : Inv kids V ⟨mark s.es x 1, step s.st x⟩ := by
    obtain ⟨rank, hr⟩ := hi.rank
    refine ⟨⟨rank, fun y hy z hz e => ?_⟩, fun y hy => ?_⟩
    ·have hy : look (mark s.es x 1) y = 2 := hy
     rw [look_mark] at hy
     split at hy
     ·cases hy
     have := hr y hy z hz e
     refine ⟨?_, this.2⟩
     show look (mark s.es x 1) z = 2
     rw [look_mark, if_neg (fun e => h3 (by rw [e]; exact this.1))]
     exact this.1
    ·have hy : look (mark s.es x 1) y = 2 := hy
     rw [look_mark] at hy
     split at hy
     ·cases hy
     exact ⟨hV2 _ _ _ (hi.met y hy).1, fun z hz e => hV2 _ _ _ ((hi.met y hy).2 z hz e)⟩
   by_cases hb : (kidsF (walkF kids step n) (kids x) ⟨mark s.es x 1, step s.st x⟩).1 = true
   ·rw [if_pos hb] at h
    rw [hb] at h; cases h
   rw [if_neg hb]
   obtain ⟨k1, k2, k3⟩ := kids_after (kids := kids) (V := V) ok (n - 1) (free all) (fun y s => free_le (walkF_mle n y s)) (fun y s hy hs hi hb => walk_after all ok hok hV1 hV2 n y s hy (by omega) hi hb) (kids x) ⟨mark s.es x 1, step s.st x⟩ hk (by show free all (mark s.es x 1) ≤ n - 1; omega) hi1 (by simpa using hb)
   generalize kidsF (walkF kids step n) (kids x) ⟨mark s.es x 1, step s.st x⟩ = r at *
   obtain ⟨rb, rs⟩ := r
   dsimp only at k1 k2 k3 ⊢
   have hx1 : look rs.es x = 1 := (k2.one x).2 (by show look (mark s.es x 1) x = 1; rw [look_mark, if_pos rfl])
   refine ⟨⟨?_, fun y hy => ?_⟩, ⟨fun y => ?_, fun y hy => ?_, fun y hy => k2.met y (hV2 _ _ _ hy)⟩, fun _ => ?_, fun e => absurd e h1⟩
   ·obtain ⟨rank, hr⟩ := k1.rank
    refine ⟨fun z => if z = x then ((kids x).map rank).sum + 1 else rank z, fun y hy z hz e => ?_⟩
    show look (mark rs.es x 2) z = 2 ∧ _
    by_cases hyx : y = x
    ·subst hyx
     have hz2 := (k3 z hz).1 e
     have hzx : z ≠ y := fun e => by rw [e, hx1] at hz2; cases hz2
     rw [look_mark, if_neg (Ne.symm hzx)]
     refine ⟨hz2, ?_⟩
     simp only [if_neg hzx, if_true]
     have := sum_ge (rank := rank) hz
     omega
    ·have hy : look (mark rs.es x 2) y = 2 := hy
     rw [look_mark, if_neg (Ne.symm hyx)] at hy
     have := hr y hy z hz e
     have hzx : z ≠ x := fun e => by rw [e, hx1] at this; cases this.1
     rw [look_mark, if_neg (Ne.symm hzx)]
     refine ⟨this.1, ?_⟩
     simp only [if_neg hzx, if_neg hyx]
     exact this.2
   ·have hy : look (mark rs.es x 2) y = 2 := hy
    rw [look_mark] at hy
    split at hy
    ·rename_i e
     subst e
     exact ⟨k2.met _ (hV1 _ _), fun z hz e => (k3 z hz).2 e⟩
    ·exact k1.met y hy
   ·show look (mark rs.es x 2) y = 1 ↔ look s.es y = 1
    rw [look_mark]
    by_cases hyx : x = y
    ·subst hyx
     rw [if_pos rfl]
     exact ⟨fun e => absurd e (by decide), fun e => absurd e h2⟩
    ·rw [if_neg hyx, k2.one y]
     show look (mark s.es x 1) y = 1 ↔ _
     rw [look_mark, if_neg hyx]
   ·show look (mark rs.es x 2) y = 2
    rw [look_mark]
    split
    ·rfl
    ·rename_i hyx
     refine k2.two y ?_
     show look (mark s.es x 1) y = 2
     rw [look_mark, if_neg hyx]
     exact hy
   ·show look (mark rs.es x 2) x = 2
    rw [look_mark, if_pos rfl]

theorem walk_false (ok : Node → Prop) (hok : ∀ x, ok x → x.1 = 2 → ∀ y ∈ kids x, ok y) (rank : Node → Nat) (hr : ∀ x, ok x → x.1 = 2 → ∀ y ∈ kids x, y.1 = 2 → rank y < rank x) :
  ∀ (n : Nat) (x : Node) (s : WS σ), ok x → (x.1 = 2 → ∀ z, look s.es z = 1 → rank x < rank z) → (walkF kids step n x s).1 = false ∧ ∀ y, look (walkF kids step n x s).2.es y = 1 → look s.es y = 1
 | 0, _, _, _, _ => ⟨rfl, fun _ h => h⟩
 | n + 1, x, s, hx, hz => by
   simp only [walkF]
   by_cases h1 : x.1 ≠ 2
   ·rw [if_pos h1]; exact ⟨rfl, fun _ h => h⟩
   rw [if_neg h1]
   have h1 : x.1 = 2 := by omega
   by_cases h2 : look s.es x = 1
   ·have := hz h1 x h2; omega
   rw [if_neg h2]
   by_cases h3 : look s.es x = 2
   ·rw [if_pos h3]; exact ⟨rfl, fun _ h => h⟩
   rw [if_neg h3]
   have key : ∀ (l : List Node) (t : WS σ), (∀ y ∈ l, y ∈ kids x) → (∀ z, look t.es z = 1 → z = x ∨ look s.es z = 1) →
     (kidsF (walkF kids step n) l t).1 = false ∧ ∀ z, look (kidsF (walkF kids step n) l t).2.es z = 1 → z = x ∨ look s.es z = 1 := by
    intro l
    induction l with
    | nil => intro t _ ht; exact ⟨rfl, ht⟩
    | cons y l ih =>
      intro t hl ht
      have hy := hl y (by simp)
      obtain ⟨w1, w2⟩ := walk_false ok hok rank hr n y t (hok x hx h1 y hy) (fun e z hz1 => by
       have hyx := hr x hx h1 y hy e
       rcases ht z hz1 with rfl | hz2
       ·exact hyx
       ·have := hz h1 z hz2; omega)
      simp only [kidsF]
      rw [if_neg (by rw [w1]; simp)]
      exact ih _ (fun z hz => hl z (by simp [hz])) fun z hz1 => ht z (w2 z hz1)
   obtain ⟨k1, k2⟩ := key (kids x) ⟨mark s.es x 1, step s.st x⟩ (fun y hy => hy) (fun z hz1 => by
    have hz1 : look (mark s.es x 1) z = 1 := hz1
    rw [look_mark] at hz1
    split at hz1
    ·rename_i e; exact .inl e.symm
    ·exact .inr hz1)
   rw [if_neg (by rw [k1]; simp)]
   refine ⟨rfl, fun y hy => ?_⟩
   have hy : look (mark (kidsF (walkF kids step n) (kids x) ⟨mark s.es x 1, step s.st x⟩).2.es x 2) y = 1 := hy
   rw [look_mark] at hy
   split at hy
   ·cases hy
   ·rename_i hne
    rcases k2 y hy with e | e
    ·exact absurd e.symm hne
    ·exact e
end

theorem okN_kids {m : Md} (hc : ClosedM m) {x : Node} (hx : okN m x) (h2 : x.1 = 2) : x ∈ allNodes m ∧ ∀ y ∈ kidsM m x, okN m y := by
 have hm : x ∈ allNodes m := by
  rcases hx with h | h | h
  ·have := h.1; omega
  ·have := h.1; omega
  ·exact h
 refine ⟨hm, fun y hy => ?_⟩
 unfold kidsM at hy
 obtain ⟨s, hs, rfl⟩ := List.mem_map.1 hy
 exact (hc x hm s hs).2.2

def RankM (m : Md) (rank : Node → Nat) : Prop := ∀ x, okN m x → x.1 = 2 → ∀ y ∈ kidsM m x, y.1 = 2 → rank y < rank x

theorem cyc_rank {m : Md} (hc : ClosedM m) (h : cycR m = false) : ∃ rank, RankM m rank := by
 have hi : Inv (kidsM m) (fun (_ : Unit) _ => True) ⟨[], ()⟩ := ⟨⟨fun _ => 0, fun x hx => by simp [look] at hx⟩, fun x hx => by simp [look] at hx⟩
 obtain ⟨k1, _, k3⟩ := kids_after (kids := kidsM m) (V := fun (_ : Unit) _ => True) (okN m) (allNodes m).length (free (allNodes m)) (f := walk0 m) (fun y s => free_le (walkF_mle _ y s))
  (fun y s hy hs hi hb => walk_after (allNodes m) (okN m) (fun x hx h2 => okN_kids hc hx h2) (fun _ _ => trivial) (fun _ _ _ _ => trivial) (fuelM m) y s hy (by unfold fuelM; omega) hi hb)
  (allNodes m) ⟨[], ()⟩ (fun y hy => .inr (.inr hy)) (by have := free_fuel m []; unfold fuelM at this; show free (allNodes m) [] ≤ _; omega) hi h
 obtain ⟨rank, hr⟩ := k1.rank
 refine ⟨rank, fun x hx h2 y hy e => (hr x ?_ y hy e).2⟩
 exact (k3 x (okN_kids hc hx h2).1).1 h2

theorem rank_walk {σ : Type} {m : Md} (hc : ClosedM m) {rank : Node → Nat} (hr : RankM m rank) (step : σ → Node → σ) (n : Nat) (x : Node) (st : σ) (hx : okN m x) : (walkF (kidsM m) step n x ⟨[], st⟩).1 = false :=
 (walk_false (okN m) (fun x hx h2 => (okN_kids hc hx h2).2) rank hr n x ⟨[], st⟩ hx (fun _ z hz => by simp [look] at hz)).1

theorem met_all {m : Md} (hc : ClosedM m) (h : cycR m = false) {x : Node} (hx : okN m x) :
  After (kidsM m) (fun (st : List Node) y => y ∈ st) x ⟨[], []⟩ (walkF (kidsM m) (fun st x => st ++ [x]) (fuelM m) x ⟨[], []⟩).2 := by
 obtain ⟨rank, hr⟩ := cyc_rank hc h
 exact walk_after (V := fun (st : List Node) y => y ∈ st) (allNodes m) (okN m) (fun x hx h2 => okN_kids hc hx h2) (fun _ _ => by simp) (fun _ _ _ h => by simp [h]) (fuelM m) x ⟨[], []⟩ hx (free_fuel m _)
  ⟨⟨fun _ => 0, fun x hx => by simp [look] at hx⟩, fun x hx => by simp [look] at hx⟩ (rank_walk hc hr _ _ x _ hx)

theorem walk_ok {σ : Type} {kids : Node → List Node} {step : σ → Node → σ} (ok : Node → Prop) (A : σ → Prop) (hok : ∀ x, ok x → x.1 = 2 → ∀ y ∈ kids x, ok y) (hA : ∀ st x, ok x → A st → A (step st x)) :
  ∀ (n : Nat) (x : Node) (s : WS σ), ok x → A s.st → A (walkF kids step n x s).2.st
 | 0, _, _, _, h => h
 | n + 1, x, s, hx, h => by
   simp only [walkF]
   split
   ·exact hA _ _ hx h
   rename_i h1
   split
   ·exact h
   split
   ·exact h
   have key : ∀ (l : List Node) (t : WS σ), (∀ y ∈ l, ok y) → A t.st → A (kidsF (walkF kids step n) l t).2.st := by
    intro l
    induction l with
    | nil => intro t _ ht; exact ht
    | cons y l ih =>
      intro t hl ht
      have hy := walk_ok ok A hok hA n y t (hl y (by simp)) ht
      simp only [kidsF]
      split
      ·exact hy
      ·exact ih _ (fun z hz => hl z (by simp [hz])) hy
   have hk := key (kids x) ⟨mark s.es x 1, step s.st x⟩ (hok x hx (by omega)) (hA _ _ hx h)
   split
   ·exact hk
   ·exact hk

theorem bits_bit {i : Nat} : ∀ (l : List Node) (b : Nat), (l.foldl (fun b x => if x.1 = 0 ∧ x.2.2.toNat < 24 then b ||| 2 ^ x.2.2.toNat else b) b).testBit i = (b.testBit i || l.any fun x => decide (x.1 = 0 ∧ x.2.2.toNat < 24 ∧ x.2.2.toNat = i))
 | [], b => by simp
 | x :: l, b => by
   simp only [List.foldl_cons, List.any_cons]
   rw [bits_bit l]
   by_cases h : x.1 = 0 ∧ x.2.2.toNat < 24
   ·rw [if_pos h, Nat.testBit_or, Nat.testBit_two_pow, Bool.or_assoc]
    congr 2
    simp [h]
   ·rw [if_neg h]
    have : decide (x.1 = 0 ∧ x.2.2.toNat < 24 ∧ x.2.2.toNat = i) = false := decide_eq_false fun e => h ⟨e.1, e.2.1⟩
    rw [this, Bool.false_or]

theorem bitsV_bit (l : List Node) (i : Nat) : (bitsV l).testBit i = true ↔ ∃ x ∈ l, x.1 = 0 ∧ x.2.2.toNat < 24 ∧ x.2.2.toNat = i := by
 unfold bitsV
 rw [bits_bit]
 simp

structure GateOk (m : Md) (a : Int) (k : Nat) (x : Mg) : Prop where
 name : nameR x.name = true
 noEv : i_event m.evs x.name < 0
 noHs : i_house m.hs x.name < 0
 first : (k : Int) ≤ i_gate (gatesM m a) x.name
 own : mgErr x = 0

theorem MOk.gate {m : Md} (hM : MOk m) {a : Int} (ha : a = -1 ∨ (0 ≤ a ∧ a < (m.pages.length : Int))) {k : Nat} (hk : k < (gatesM m a).length) : GateOk m a k (gatesM m a)[k] := by
 have h := gatesErrAll_zero hM.gates ha k hk
 unfold gateErrM at h
 split at h
 ·cases h
 rename_i h1
 split at h
 ·cases h
 rename_i h2
 split at h
 ·cases h
 rename_i h3
 split at h
 ·cases h
 rename_i h4
 exact ⟨by simpa using h1, by omega, by omega, by omega, h⟩

theorem idxP_le {α : Type} {p : α → Bool} {l : List α} {k : Nat} (hk : k < l.length) (hp : p l[k] = true) : 0 ≤ idxP p l ∧ idxP p l ≤ k := by
 rcases idxP_cases p l with ⟨_, h2⟩ | ⟨i, hi, h1, _, h3⟩
 ·have := h2 _ (List.getElem_mem hk)
  rw [hp] at this; cases this
 ·refine ⟨by omega, ?_⟩
  rw [h1]
  rcases Nat.lt_or_ge k i with h | h
  ·have := h3 k h
   rw [hp] at this; cases this
  ·omega

theorem name_noAt {s : Str} (h : nameR s = true) : atS s = false := by
 unfold nameR at h
 simp only [Bool.and_eq_true, decide_eq_true_eq] at h
 unfold atS
 rw [Bool.and_eq_false_iff]
 right
 apply decide_eq_false
 intro e
 have := h.1.2
 rw [e] at this
 revert this
 decide

theorem MOk.ins_in {m : Md} (hM : MOk m) {a : Int} (ha : a = -1 ∨ (0 ≤ a ∧ a < (m.pages.length : Int))) {x : Mg} (hx : x ∈ gatesM m a) {s : Str} (hs : s ∈ x.ins) : isInR m a s = true := by
 obtain ⟨sp, h4⟩ := insAll_in hM.ins _ (ats_mem.2 ha)
 exact (pageIns_in h4).1 x hx s hs

theorem MOk.page_top {m : Md} (hM : MOk m) {p : Int} (hp : 0 ≤ p ∧ p < (m.pages.length : Int)) : (0 ≤ i_gate (gatesM m p) (pageTop m p) ∧ i_house m.hs (pageTop m p) < 0) ∨ 0 ≤ i_event m.evs (pageTop m p) := by
 obtain ⟨sp, h4⟩ := insAll_in hM.ins _ (ats_mem.2 (.inr hp))
 rcases (pageIns_in h4).2 (by omega) with h | h
 ·left
  refine ⟨h, ?_⟩
  obtain ⟨i, hi, _, h2⟩ := idx_name h
  have := (hM.gate (.inr hp) hi).noHs
  rw [h2] at this
  exact this
 ·exact .inr h

structure Local (m : Md) (a : Int) (s : Str) (r : Node) : Prop where
 idx : 0 ≤ r.2.2
 kind : r.1 = 0 ∨ r.1 = 1 ∨ r.1 = 2
 ev : r.1 = 0 → r.2.2 < (m.evs.length : Int) ∧ (atS s = false → (m.evs.getD r.2.2.toNat default).name = s)
 hs : r.1 = 1 → r.2.2 < (m.hs.length : Int) ∧ (m.hs.getD r.2.2.toNat default).name = s
 gate : r.1 = 2 → (r.2.1 = -1 ∨ (0 ≤ r.2.1 ∧ r.2.1 < (m.pages.length : Int))) ∧ r.2.2 < ((gatesM m r.2.1).length : Int) ∧
  (atS s = false → r.2.1 = a ∧ ((gatesM m r.2.1).getD r.2.2.toNat default).name = s) ∧
  (atS s = true → 0 ≤ r.2.1 ∧ (m.pages.getD r.2.1.toNat default).name = s.drop 1 ∧ (m.pages.getD r.2.1.toNat default).top = ((gatesM m r.2.1).getD r.2.2.toNat default).name)


theorem idxP_mapr {α β : Type} {f : α → β} {p : β → Bool} : ∀ l : List α, idxP p (l.map f) = idxP (fun x => p (f x)) l
 | [] => rfl
 | x :: l => by simp only [List.map_cons, idxP]; rw [idxP_mapr l]

theorem idxP_ext {α : Type} {p q : α → Bool} : ∀ {l : List α}, (∀ x ∈ l, p x = q x) → idxP p l = idxP q l
 | [], _ => rfl
 | x :: l, h => by simp only [idxP]; rw [h x (by simp), idxP_ext fun y hy => h y (by simp [hy])]

def Fr (old new s : Str) : Prop := s = new → new = old

theorem Fr.back {old new s : Str} (h : Fr old new s) : rnS new old (rnS old new s) = s := by
 unfold rnS
 by_cases e : s = old
 ·rw [if_pos e, if_pos rfl, e]
 ·rw [if_neg e]
  by_cases e2 : s = new
  ·rw [if_pos e2]; exact (e2.trans (h e2)).symm
  ·rw [if_neg e2]

structure FreshM (m : Md) (old new : Str) : Prop where
 ev : 0 ≤ i_event m.evs old
 evs : ∀ x ∈ m.evs, Fr old new x.name
 top : Fr old new m.top
 gates : ∀ g ∈ m.gates, ∀ s ∈ g.ins, Fr old new s
 pages : ∀ p ∈ m.pages, Fr old new p.top ∧ ∀ g ∈ p.gates, ∀ s ∈ g.ins, Fr old new s
 grs : ∀ g ∈ m.grs, ∀ s ∈ g.mem, Fr old new s
 phs : ∀ p ∈ m.phs, Fr old new p.top ∧ ∀ v ∈ p.vals, Fr old new v.ev
 nold : nameR old = true
 nnew : nameR new = true

theorem rnS_inj {old new s t : Str} (hs : Fr old new s) (ht : Fr old new t) : rnS old new s = rnS old new t ↔ s = t := by
 constructor
 ·intro e
  have := congrArg (rnS new old) e
  rwa [hs.back, ht.back] at this
 ·rintro rfl; rfl

theorem rn_event {m : Md} {old new s : Str} (h : FreshM m old new) (hs : Fr old new s) : i_event (rnM m old new).evs (rnS old new s) = i_event m.evs s := by
 unfold i_event
 show idxP _ (m.evs.map (rnE old new)) = _
 rw [idxP_mapr]
 refine idxP_ext fun x hx => ?_
 rw [decide_eq_decide]
 exact rnS_inj (h.evs x hx) hs

theorem rn_gates (m : Md) (old new : Str) (a : Int) : gatesM (rnM m old new) a = (gatesM m a).map (rnG old new) := by
 unfold gatesM
 split
 ·rfl
 ·show ((m.pages.map (rnP old new)).getD a.toNat default).gates = _
  rw [List.getD_eq_getElem?_getD, List.getElem?_map, List.getD_eq_getElem?_getD]
  cases m.pages[a.toNat]? <;> rfl

theorem rn_gate (m : Md) (old new : Str) (a : Int) (s : Str) : i_gate (gatesM (rnM m old new) a) s = i_gate (gatesM m a) s := by
 unfold i_gate
 rw [rn_gates, idxP_mapr]; rfl

theorem rn_page (m : Md) (old new : Str) (s : Str) : i_page (rnM m old new).pages s = i_page m.pages s := by
 unfold i_page
 show idxP _ (m.pages.map (rnP old new)) = _
 rw [idxP_mapr]; rfl

theorem rnS_nil {old new : Str} (h : nameR old = true) : rnS old new [] = [] := by
 unfold rnS
 rw [if_neg]
 intro e
 have := nameR_pos h
 rw [← e] at this
 simp at this

theorem rn_ptop {m : Md} {old new : Str} (h : FreshM m old new) (a : Int) : pageTop (rnM m old new) a = rnS old new (pageTop m a) ∧ Fr old new (pageTop m a) := by
 unfold pageTop
 show ((m.pages.map (rnP old new)).getD a.toNat default).top = _ ∧ _
 rw [List.getD_eq_getElem?_getD, List.getElem?_map, List.getD_eq_getElem?_getD]
 cases hp : m.pages[a.toNat]? with
 | none =>
   refine ⟨(rnS_nil h.nold).symm, fun e => ?_⟩
   have := nameR_pos h.nnew
   rw [← e] at this
   exact absurd this (by decide)
 | some p => exact ⟨rfl, (h.pages p (List.mem_of_getElem? hp)).1⟩

theorem rn_ins {m : Md} {old new : Str} (h : FreshM m old new) (a : Int) : ∀ g ∈ gatesM m a, ∀ s ∈ g.ins, Fr old new s := by
 intro g hg
 unfold gatesM at hg
 split at hg
 ·exact h.gates g hg
 ·rw [List.getD_eq_getElem?_getD] at hg
  cases hp : m.pages[a.toNat]? with
  | none => rw [hp] at hg; exact absurd hg (by show ¬ g ∈ ([] : List Mg); simp)
  | some p => rw [hp] at hg; exact (h.pages p (List.mem_of_getElem? hp)).2 g hg

theorem rn_resOn {m : Md} {old new s : Str} (h : FreshM m old new) (hs : Fr old new s) (a : Int) : resOn (rnM m old new) a (rnS old new s) = resOn m a s := by
 unfold resOn
 rw [rn_event h hs, rn_gate]
 by_cases e : s = old
 ·rw [if_pos (by rw [e]; exact h.ev), if_pos (by rw [e]; exact h.ev)]
 ·rw [show rnS old new s = s from if_neg e]; rfl

theorem rn_at {old new s : Str} (ho : nameR old = true) (hn : nameR new = true) : atS (rnS old new s) = atS s := by
 unfold rnS
 by_cases e : s = old
 ·rw [if_pos e, e, name_noAt ho, name_noAt hn]
 ·rw [if_neg e]

theorem rn_res {m : Md} {old new s : Str} (h : FreshM m old new) (hs : Fr old new s) (a : Int) : resR (rnM m old new) a (rnS old new s) = resR m a s := by
 unfold resR
 rw [rn_at h.nold h.nnew]
 by_cases e : atS s = true
 ·have hne : s ≠ old := by rintro rfl; rw [name_noAt h.nold] at e; cases e
  rw [if_pos e, if_pos e, show rnS old new s = s from if_neg hne, rn_page, (rn_ptop h _).1]
  exact rn_resOn h (rn_ptop h _).2 _
 ·rw [if_neg e, if_neg e]
  exact rn_resOn h hs a

theorem rn_gateAt (m : Md) (old new : Str) (x : Node) : gateAt (rnM m old new) x = rnG old new (gateAt m x) := by
 unfold gateAt
 rw [rn_gates, List.getD_eq_getElem?_getD, List.getElem?_map, List.getD_eq_getElem?_getD]
 cases (gatesM m x.2.1)[x.2.2.toNat]? <;> rfl

theorem rn_kids {m : Md} {old new : Str} (h : FreshM m old new) : kidsM (rnM m old new) = kidsM m := by
 funext x
 unfold kidsM
 rw [rn_gateAt]
 show ((gateAt m x).ins.map (rnS old new)).map _ = _
 rw [List.map_map]
 refine List.map_congr_left fun s hs => rn_res h ?_ _
 unfold gateAt at hs
 rw [List.getD_eq_getElem?_getD] at hs
 cases hg : (gatesM m x.2.1)[x.2.2.toNat]? with
 | none => rw [hg] at hs; exact absurd hs (by show ¬ s ∈ ([] : List Str); simp)
 | some g => rw [hg] at hs; exact rn_ins h _ g (List.mem_of_getElem? hg) s hs

theorem rn_nodes (m : Md) (old new : Str) : allNodes (rnM m old new) = allNodes m := by
 unfold allNodes
 have h1 : atsM (rnM m old new) = atsM m := by
  unfold atsM
  show (List.range ((m.pages.map (rnP old new)).length + 1)).map _ = _
  rw [List.length_map]
 rw [h1]
 congr 1
 funext a
 unfold nodesAt
 rw [rn_gates, List.length_map]

theorem ev_ok {m : Md} (h : eventsErr m = 0) {s : Str} (hs : 0 ≤ i_event m.evs s) : nameR s = true := by
 obtain ⟨i, hi, _, h2⟩ := idx_name hs
 have := (eventsErr_zero h).2.2.1 i hi
 unfold evErr at this
 split at this
 ·cases this
 rename_i h3
 rw [← h2]
 simpa using h3

theorem ev_first {m : Md} (h : eventsErr m = 0) {i : Nat} (hi : i < m.evs.length) : (i : Int) ≤ i_event m.evs m.evs[i].name := by
 have := (eventsErr_zero h).2.2.1 i hi
 unfold evErr at this
 split at this
 ·cases this
 split at this
 ·cases this
 omega

theorem rnS_new {old new : Str} : rnS old new old = new := if_pos rfl

theorem isIn_Fr {m : Md} {old new : Str} {a : Int} {s : Str} (hn : nameR new = true) (h : new ≠ old → i_event m.evs new < 0 ∧ i_house m.hs new < 0 ∧ i_gate (gatesM m a) new < 0) (hs : isInR m a s = true) : Fr old new s := by
 rintro rfl
 apply Classical.byContradiction
 intro hne
 obtain ⟨h1, h2, h3⟩ := h hne
 unfold isInR at hs
 rw [if_neg (by rw [name_noAt hn]; simp)] at hs
 simp only [Bool.or_eq_true, decide_eq_true_eq] at hs
 omega

theorem memErr_in {m : Md} : ∀ {l sp : List Str}, (memErr m l sp).1 = 0 → ∀ s ∈ l, 0 ≤ i_event m.evs s
 | [], _, _, s, hs => by simp at hs
 | x :: l, sp, h, s, hs => by
   simp only [memErr] at h
   split at h
   ·cases h
   rename_i h1
   split at h
   ·cases h
   rcases List.mem_cons.1 hs with rfl | hs
   ·omega
   ·exact memErr_in h s hs

theorem grErr_in {m : Md} {i : Nat} {x : Gr} {sp : List Str} (h : (grErr m i x sp).1 = 0) : ∀ s ∈ x.mem, 0 ≤ i_event m.evs s := by
 have key : (memErr m x.mem sp).1 = 0 := by
  unfold grErr at h
  have step : ∀ {c : Prop} [Decidable c] {n : Int} {A : Int × List Str}, n ≠ 0 → (if c then ((n, []) : Int × List Str) else A).1 = 0 → A.1 = 0 := by
   intro c _ n A hn h
   split at h
   ·exact absurd h hn
   ·exact h
  have h := step (by decide) (step (by decide) (step (by decide) (step (by decide) (step (by decide) (step (by decide) h)))))
  by_cases hm : (memErr m x.mem sp).1 ≠ 0
  ·rw [if_pos hm] at h; exact h
  ·simpa using hm
 exact memErr_in key

theorem grsErr_in {m : Md} : ∀ {l : List Gr} {i : Nat} {sp : List Str}, grsErr m i l sp = 0 → ∀ g ∈ l, ∀ s ∈ g.mem, 0 ≤ i_event m.evs s
 | [], _, _, _, g, hg, _, _ => by simp at hg
 | x :: l, i, sp, h, g, hg, s, hs => by
   simp only [grsErr] at h
   split at h
   ·rename_i hne; exact absurd h hne
   rename_i hne
   rcases List.mem_cons.1 hg with rfl | hg
   ·exact grErr_in (by simpa using hne) s hs
   ·exact grsErr_in h g hg s hs

theorem groups_in {m : Md} (h : groupsErr m = 0) : ∀ g ∈ m.grs, ∀ s ∈ g.mem, 0 ≤ i_event m.evs s := by
 unfold groupsErr at h
 split at h
 ·cases h
 ·exact grsErr_in h

theorem phases_in {m : Md} (h : phasesErr m = 0) : ∀ p ∈ m.phs, isInR m (-1) p.top = true ∧ ∀ v ∈ p.vals, 0 ≤ i_event m.evs v.ev := by
 unfold phasesErr at h
 split at h
 ·cases h
 intro p hp
 obtain ⟨i, hi, rfl⟩ := List.getElem_of_mem hp
 have := errL_zero.1 h i hi
 unfold phErr at this
 split at this
 ·cases this
 split at this
 ·cases this
 split at this
 ·cases this
 rename_i h3
 refine ⟨by simpa using h3, fun v hv => ?_⟩
 obtain ⟨j, hj, rfl⟩ := List.getElem_of_mem hv
 have := errL_zero.1 this j hj
 unfold pvErr at this
 split at this
 ·cases this
 omega

theorem fresh_of {m : Md} {old new : Str} (hM : MOk m) (ho : 0 ≤ i_event m.evs old) (hN : MOk (rnM m old new)) : FreshM m old new := by
 have hev : 0 ≤ i_event (rnM m old new).evs new := by
  unfold i_event
  rw [idxP_nonneg, List.any_eq_true]
  obtain ⟨i, hi, _, h2⟩ := idx_name ho
  exact ⟨rnE old new m.evs[i], List.mem_map.2 ⟨_, List.getElem_mem hi, rfl⟩, by
   show decide (rnS old new m.evs[i].name = new) = true
   rw [h2, rnS_new]; simp⟩
 have nnew := ev_ok hN.evs hev
 have nold := ev_ok hM.evs ho
 have e1 : new ≠ old → i_event m.evs new < 0 := by
  intro hne
  apply Classical.byContradiction
  intro hc
  have hc : 0 ≤ i_event m.evs new := by omega
  obtain ⟨i, hi, _, h2⟩ := idx_name ho
  obtain ⟨j, hj, _, h3⟩ := idx_name hc
  have hi' : i < (rnM m old new).evs.length := by show i < (m.evs.map _).length; rw [List.length_map]; exact hi
  have hj' : j < (rnM m old new).evs.length := by show j < (m.evs.map _).length; rw [List.length_map]; exact hj
  have gi : (rnM m old new).evs[i].name = new := by
   show ((m.evs.map (rnE old new))[i]'(by simpa using hi)).name = new
   rw [List.getElem_map]; show rnS old new _ = _; rw [h2, rnS_new]
  have gj : (rnM m old new).evs[j].name = new := by
   show ((m.evs.map (rnE old new))[j]'(by simpa using hj)).name = new
   rw [List.getElem_map]; show rnS old new _ = _; rw [h3]; exact if_neg hne
  have f1 := ev_first hN.evs hi'
  have f2 := ev_first hN.evs hj'
  rw [gi] at f1
  rw [gj] at f2
  have l1 := (idxP_le (p := fun x => decide (x.name = new)) hi' (by simpa using gi)).2
  have l2 := (idxP_le (p := fun x => decide (x.name = new)) hj' (by simpa using gj)).2
  unfold i_event at f1 f2
  have : i = j := by omega
  subst this
  rw [h2] at h3
  exact hne h3.symm
 have e2 : i_house m.hs new < 0 := by
  apply Classical.byContradiction
  intro hc
  have hc : 0 ≤ i_house (rnM m old new).hs new := by show 0 ≤ i_house m.hs new; omega
  obtain ⟨i, hi, _, h2⟩ := idx_name hc
  have := (eventsErr_zero hN.evs).2.2.2 i hi
  unfold hsErr at this
  split at this
  ·cases this
  split at this
  ·cases this
  rename_i h4
  exact h4 (by rw [h2]; exact hev)
 have e3 : ∀ a : Int, a = -1 ∨ (0 ≤ a ∧ a < (m.pages.length : Int)) → i_gate (gatesM m a) new < 0 := by
  intro a ha
  apply Classical.byContradiction
  intro hc
  have hc : 0 ≤ i_gate (gatesM (rnM m old new) a) new := by rw [rn_gate]; omega
  obtain ⟨i, hi, _, h2⟩ := idx_name hc
  have ha' : a = -1 ∨ (0 ≤ a ∧ a < ((rnM m old new).pages.length : Int)) := by
   show a = -1 ∨ (0 ≤ a ∧ a < ((m.pages.map (rnP old new)).length : Int)); rw [List.length_map]; exact ha
  have := (hN.gate ha' hi).noEv
  rw [h2] at this
  omega
 have fr : ∀ {a : Int} {s : Str}, a = -1 ∨ (0 ≤ a ∧ a < (m.pages.length : Int)) → isInR m a s = true → Fr old new s := fun ha hs => isIn_Fr nnew (fun hne => ⟨e1 hne, e2, e3 _ ha⟩) hs
 have fe : ∀ {s : Str}, 0 ≤ i_event m.evs s → Fr old new s := by
  intro s hs e
  apply Classical.byContradiction
  intro hne
  have := e1 hne
  rw [← e] at this
  omega
 refine ⟨ho, fun x hx => ?_, fr (.inl rfl) hM.top, fun g hg s hs => fr (.inl rfl) (hM.ins_in (.inl rfl) hg hs), fun p hp => ?_, fun g hg s hs => ?_, fun p hp => ?_, nold, nnew⟩
 ·obtain ⟨i, hi, rfl⟩ := List.getElem_of_mem hx
  exact fe (by have := ev_first hM.evs hi; omega)
 ·obtain ⟨i, hi, rfl⟩ := List.getElem_of_mem hp
  have ha : (0 : Int) ≤ i ∧ (i : Int) < (m.pages.length : Int) := by omega
  have hpt : pageTop m i = m.pages[i].top := by unfold pageTop; rw [Int.toNat_natCast, List.getD_eq_getElem?_getD, List.getElem?_eq_getElem hi]; rfl
  have hpg : gatesM m i = m.pages[i].gates := by unfold gatesM; rw [if_neg (by omega), Int.toNat_natCast, List.getD_eq_getElem?_getD, List.getElem?_eq_getElem hi]; rfl
  refine ⟨?_, fun g hg s hs => fr (.inr ha) (hM.ins_in (.inr ha) (by rw [hpg]; exact hg) hs)⟩
  rw [← hpt]
  rcases hM.page_top ha with ⟨h1, _⟩ | h1
  ·intro e
   rw [e] at h1
   have := e3 _ (.inr ha)
   omega
  ·exact fe h1
 ·exact fe (groups_in hM.grs g hg s hs)
 ·obtain ⟨h1, h2⟩ := phases_in hM.phs p hp
  exact ⟨fr (.inl rfl) h1, fun v hv => fe (h2 v hv)⟩

theorem gate_ok {m : Md} (hg : gatesErrAll m = 0) {a : Int} (ha : a = -1 ∨ (0 ≤ a ∧ a < (m.pages.length : Int))) {k : Nat} (hk : k < (gatesM m a).length) : GateOk m a k (gatesM m a)[k] := by
 have h := gatesErrAll_zero hg ha k hk
 unfold gateErrM at h
 split at h
 ·cases h
 rename_i h1
 split at h
 ·cases h
 rename_i h2
 split at h
 ·cases h
 rename_i h3
 split at h
 ·cases h
 rename_i h4
 exact ⟨by simpa using h1, by omega, by omega, by omega, h⟩

theorem gate_idx {m : Md} (hg : gatesErrAll m = 0) {a : Int} (ha : a = -1 ∨ (0 ≤ a ∧ a < (m.pages.length : Int))) {k : Nat} (hk : k < (gatesM m a).length) : i_gate (gatesM m a) (gatesM m a)[k].name = k := by
 have h1 := (gate_ok hg ha hk).first
 have h2 := (idxP_le (p := fun x => decide (x.name = (gatesM m a)[k].name)) hk (by simp)).2
 unfold i_gate at h1 ⊢
 omega

theorem page_idx {m : Md} (hM : MOk m) {k : Nat} (hk : k < m.pages.length) : nameR m.pages[k].name = true ∧ i_page m.pages m.pages[k].name = k := by
 have h := hM.pages
 unfold pagesErr at h
 split at h
 ·cases h
 split at h
 ·cases h
 have h := errL_zero.1 h k hk
 unfold pgErr at h
 split at h
 ·cases h
 rename_i h1
 split at h
 ·cases h
 rename_i h2
 have h3 := (idxP_le (p := fun x : Pg => decide (x.name = m.pages[k].name)) hk (by simp)).2
 refine ⟨by simpa using h1, ?_⟩
 unfold i_page at h2 ⊢
 omega

theorem idxP_erase {α : Type} {p : α → Bool} {l : List α} {i j : Nat} (hi : i < l.length) (hj : idxP p l = j) (hij : j ≠ i) : idxP p (l.eraseIdx i) = if i < j then (j : Int) - 1 else j := by
 rcases idxP_cases p l with ⟨h, _⟩ | ⟨k, hk, h1, h2, h3⟩
 ·omega
 obtain rfl : k = j := by omega
 have hl : (l.eraseIdx i).length = l.length - 1 := by rw [List.length_eraseIdx, if_pos hi]
 by_cases hlt : i < k
 ·rw [if_pos hlt]
  have hk' : k - 1 < (l.eraseIdx i).length := by omega
  rw [show ((k : Int) - 1) = ((k - 1 : Nat) : Int) by omega]
  refine idxP_some hk' ?_ fun j hj => ?_
  ·rw [List.getElem_eraseIdx, dif_neg (by omega)]
   simpa only [show k - 1 + 1 = k by omega] using h2
  ·rw [List.getElem_eraseIdx]
   split
   ·exact h3 _ (by omega)
   ·exact h3 _ (by omega)
 ·rw [if_neg hlt]
  have hk' : k < (l.eraseIdx i).length := by omega
  refine idxP_some hk' ?_ fun j hj => ?_
  ·rw [List.getElem_eraseIdx, dif_pos (by omega)]
   exact h2
  ·rw [List.getElem_eraseIdx, dif_pos (by omega)]
   exact h3 _ hj

structure Mrg (m : Md) (i : Nat) : Prop where
 ok : MOk m
 lt : i < m.pages.length
 free : ∀ q ∈ m.pages, atN (pgA m i) ∉ insG q.gates
 new : gatesErrAll (mgM m i (pgA m i)) = 0

abbrev mgN (m : Md) (i : Nat) : Md := mgM m i (pgA m i)

def phi (m : Md) (i : Nat) (x : Node) : Node :=
 if x.1 = 2 then (if x.2.1 = i then (2, -1, (m.gates.length : Int) + x.2.2) else if (i : Int) < x.2.1 then (2, x.2.1 - 1, x.2.2) else x) else x
def atP (i : Nat) (a : Int) : Int := if a = i then -1 else if (i : Int) < a then a - 1 else a
def tauP (m : Md) (i : Nat) (a : Int) : Str → Str := if a = -1 then inP (pgA m i) else if a = i then mvP (pgA m i) else id
def nuP (m : Md) (i : Nat) (a : Int) : Str → Str := if a = i then nmP (pgA m i) else id

section
variable {m : Md} {i : Nat}

theorem gates_page {a : Nat} : gatesM m (a : Int) = (m.pages.getD a default).gates := by
 unfold gatesM
 rw [if_neg (by omega), Int.toNat_natCast]

theorem mg_pages (h : i < m.pages.length) : (mgN m i).pages.length = m.pages.length - 1 := by
 show (m.pages.eraseIdx i).length = _
 rw [List.length_eraseIdx, if_pos h]

theorem mg_pg (h : i < m.pages.length) {a : Nat} (ha : a < m.pages.length) (hai : a ≠ i) : (mgN m i).pages.getD (atP i a).toNat default = m.pages.getD a default := by
 show (m.pages.eraseIdx i).getD _ _ = _
 rw [List.getD_eq_getElem?_getD, List.getD_eq_getElem?_getD, List.getElem?_eraseIdx]
 have hne : ¬ (a : Int) = i := by omega
 unfold atP
 rw [if_neg hne]
 by_cases h2 : (i : Int) < a
 ·have h3 : ((a : Int) - 1).toNat = a - 1 := by omega
  rw [if_pos h2, h3, if_neg (show ¬ a - 1 < i by omega), show a - 1 + 1 = a by omega]
 ·rw [if_neg h2, Int.toNat_natCast, if_pos (show a < i by omega)]

theorem atP_main : atP i (-1) = -1 := by
 have n1 : ¬ (-1 : Int) = i := by omega
 have n2 : ¬ (i : Int) < -1 := by omega
 unfold atP; rw [if_neg n1, if_neg n2]

theorem mg_gates (h : i < m.pages.length) {a : Nat} (ha : a < m.pages.length) (hai : a ≠ i) : gatesM (mgN m i) (atP i a) = gatesM m a := by
 have h1 := mg_pg h ha hai
 have h2 : 0 ≤ atP i a := by unfold atP; split <;> first | omega | (split <;> omega)
 rw [gates_page, ← h1]
 unfold gatesM
 rw [if_neg (by omega)]

theorem mg_main : gatesM (mgN m i) (-1) = m.gates.map (gIn id (inP (pgA m i))) ++ (pgA m i).gates.map (gIn (nmP (pgA m i)) (mvP (pgA m i))) := if_pos rfl
theorem main_gates : gatesM m (-1) = m.gates := if_pos rfl
theorem page_gates : gatesM m (i : Int) = (pgA m i).gates := gates_page

theorem pg_gate {k : Nat} (h1 : k < (gatesM m (i : Int)).length) (h2 : k < (pgA m i).gates.length) : (gatesM m (i : Int))[k] = (pgA m i).gates[k] := by
 simp only [page_gates]

theorem pg_ok (hg : gatesErrAll m = 0) (hi : i < m.pages.length) {k : Nat} (hk : k < (pgA m i).gates.length) : GateOk m i k (pgA m i).gates[k] := by
 have hkg : k < (gatesM m (i : Int)).length := by rw [page_gates]; exact hk
 have h := gate_ok hg (a := (i : Int)) (.inr ⟨by omega, by omega⟩) hkg
 have e := pg_gate hkg hk
 generalize (gatesM m (i : Int))[k] = y at h e
 subst e; exact h

theorem mg_len (h : i < m.pages.length) {a : Int} (ha : a = -1 ∨ (0 ≤ a ∧ a < (m.pages.length : Int))) {k : Int} (hk : 0 ≤ k ∧ k < ((gatesM m a).length : Int)) :
  0 ≤ (phi m i (2, a, k)).2.2 ∧ (phi m i (2, a, k)).2.2 < ((gatesM (mgN m i) (atP i a)).length : Int) ∧ (phi m i (2, a, k)).2.1 = atP i a ∧
  gateAt (mgN m i) (phi m i (2, a, k)) = gIn (nuP m i a) (tauP m i a) (gateAt m (2, a, k)) := by
 obtain ⟨j, rfl⟩ : ∃ j : Nat, (j : Int) = k := ⟨k.toNat, by omega⟩
 unfold phi gateAt nuP tauP
 dsimp only
 rw [if_pos rfl]
 by_cases e1 : a = -1
 ·subst e1
  have n1 : ¬ (-1 : Int) = i := by omega
  have n2 : ¬ (i : Int) < -1 := by omega
  have e2 : atP i (-1) = -1 := by unfold atP; rw [if_neg n1, if_neg n2]
  rw [main_gates] at hk
  rw [if_neg n1, if_neg n2, e2, if_neg n1, if_pos rfl]
  dsimp only
  rw [mg_main, main_gates, Int.toNat_natCast]
  refine ⟨by omega, by simp only [List.length_append, List.length_map]; omega, rfl, ?_⟩
  rw [List.getD_eq_getElem?_getD, List.getElem?_append_left (by rw [List.length_map]; omega), List.getElem?_map, getD_lt (show j < m.gates.length by omega), List.getElem?_eq_getElem (show j < m.gates.length by omega)]
  rfl
 by_cases e2 : a = i
 ·subst e2
  have e2 : atP i (i : Int) = -1 := by unfold atP; rw [if_pos rfl]
  rw [page_gates] at hk ⊢
  rw [if_pos rfl, e2, if_pos rfl, if_neg e1, if_pos rfl]
  dsimp only
  rw [mg_main]
  refine ⟨by omega, by simp only [List.length_append, List.length_map]; omega, rfl, ?_⟩
  rw [List.getD_eq_getElem?_getD, List.getElem?_append_right (by rw [List.length_map]; omega), List.getElem?_map, List.length_map, Int.toNat_natCast, show ((m.gates.length : Int) + (j : Int)).toNat - m.gates.length = j by omega, getD_lt (show j < (pgA m i).gates.length by omega), List.getElem?_eq_getElem (show j < (pgA m i).gates.length by omega)]
  rfl
 obtain ⟨b, rfl⟩ : ∃ b : Nat, (b : Int) = a := ⟨a.toNat, by omega⟩
 have hb : b < m.pages.length := by omega
 have hbi : b ≠ i := by omega
 have hg := mg_gates h hb hbi
 rw [if_neg e2, if_neg e2, if_neg e1, if_neg e2, gIn_id, hg]
 by_cases e3 : (i : Int) < b
 ·have e4 : atP i (b : Int) = b - 1 := by unfold atP; rw [if_neg e2, if_pos e3]
  rw [if_pos e3]
  dsimp only
  rw [e4] at hg ⊢
  rw [hg]
  exact ⟨hk.1, hk.2, rfl, rfl⟩
 ·have e4 : atP i (b : Int) = b := by unfold atP; rw [if_neg e2, if_neg e3]
  rw [if_neg e3]
  dsimp only
  rw [e4] at hg ⊢
  rw [hg]
  exact ⟨hk.1, hk.2, rfl, rfl⟩

theorem own_idx {p : Pg} {t : Str} : ownP p t = true ↔ 0 ≤ i_gate p.gates t := by
 unfold ownP i_gate
 rw [idxP_nonneg]

theorem phi_of {x : Node} (h : x.1 ≠ 2) : phi m i x = x := if_neg h

theorem phi_gate {a : Int} {k : Int} (hai : a ≠ i) : phi m i (2, a, k) = (2, atP i a, k) := by
 unfold phi atP
 dsimp only
 rw [if_pos rfl, if_neg hai, if_neg hai]
 split <;> rfl

theorem res_own (h : Mrg m i) {t : Str} (hin : 0 ≤ i_gate (pgA m i).gates t ∨ 0 ≤ i_event m.evs t ∨ 0 ≤ i_house m.hs t) : resOn (mgN m i) (-1) (mvP (pgA m i) t) = phi m i (resOn m i t) := by
 unfold mvP
 by_cases ho : ownP (pgA m i) t = true
 ·rw [if_pos ho]
  have hk0 := own_idx.1 ho
  obtain ⟨k, hk, hk1, hk2⟩ := idx_name (f := Mg.name) hk0
  have hk1 : i_gate (pgA m i).gates t = k := hk1
  have hpi : (i : Int) = -1 ∨ (0 ≤ (i : Int) ∧ (i : Int) < (m.pages.length : Int)) := .inr ⟨by omega, by have := h.lt; omega⟩
  have g1 := pg_ok h.ok.gates h.lt hk
  obtain ⟨n1, n2, n3, n4, n5⟩ := g1
  rw [hk2] at n2 n3
  have e1 : resOn m i t = (2, (i : Int), (k : Int)) := by
   unfold resOn
   rw [if_neg (by omega), if_neg (by omega), page_gates, hk1]
  have hkn : m.gates.length + k < (gatesM (mgN m i) (-1)).length := by
   rw [mg_main]; simp only [List.length_append, List.length_map]; omega
  have g2 := gate_ok h.new (.inl rfl) hkn
  have g3 := gate_idx h.new (.inl rfl) hkn
  have hnew : (gatesM (mgN m i) (-1))[m.gates.length + k].name = nmP (pgA m i) t := by
   have : (gatesM (mgN m i) (-1))[m.gates.length + k]? = some (gIn (nmP (pgA m i)) (mvP (pgA m i)) (pgA m i).gates[k]) := by
    rw [mg_main, List.getElem?_append_right (by rw [List.length_map]; omega), List.length_map, Nat.add_sub_cancel_left, List.getElem?_map, List.getElem?_eq_getElem hk]; rfl
   rw [List.getElem?_eq_getElem hkn] at this
   rw [Option.some.inj this]
   show nmP _ (pgA m i).gates[k].name = _
   rw [show (pgA m i).gates[k].name = t from hk2]
  obtain ⟨n1, n2, n3, n4, n5⟩ := g2
  generalize (gatesM (mgN m i) (-1))[m.gates.length + k] = y at hnew n2 n3 g3
  rw [hnew] at n2 n3 g3
  have e2 : resOn (mgN m i) (-1) (nmP (pgA m i) t) = (2, -1, (m.gates.length : Int) + (k : Int)) := by
   unfold resOn
   have k1 : ¬ 0 ≤ i_event (mgN m i).evs (nmP (pgA m i) t) := Int.not_le.2 n2
   have k2 : ¬ 0 ≤ i_house (mgN m i).hs (nmP (pgA m i) t) := Int.not_le.2 n3
   rw [if_neg k1, if_neg k2, g3]
   simp
  rw [e1, e2]
  unfold phi
  dsimp only
  rw [if_pos rfl, if_pos rfl]
 ·rw [if_neg ho]
  have hno : ¬ 0 ≤ i_gate (pgA m i).gates t := fun e => ho (own_idx.2 e)
  unfold resOn
  rw [show (mgN m i).evs = m.evs from rfl, show (mgN m i).hs = m.hs from rfl]
  by_cases he : 0 ≤ i_event m.evs t
  ·rw [if_pos he, if_pos he]; rfl
  rw [if_neg he, if_neg he]
  by_cases hh : 0 ≤ i_house m.hs t
  ·rw [if_pos hh, if_pos hh]; rfl
  ·exfalso
   rcases hin with e | e | e
   ·exact hno e
   ·exact he e
   ·exact hh e

theorem main_gate {s : Str} (hg : 0 ≤ i_gate m.gates s) : i_gate (gatesM (mgN m i) (-1)) s = i_gate m.gates s := by
 obtain ⟨k, hk, hk1, hk2⟩ := idx_name (f := Mg.name) hg
 have hk1 : i_gate m.gates s = k := hk1
 rw [hk1, mg_main]
 unfold i_gate at hk1 ⊢
 rcases idxP_cases (fun x : Mg => decide (x.name = s)) m.gates with ⟨e, _⟩ | ⟨j, hj, e1, e2, e3⟩
 ·omega
 obtain rfl : j = k := by omega
 refine idxP_some (by simp only [List.length_append, List.length_map]; omega) ?_ fun l hl => ?_
 ·rw [List.getElem_append_left (by rw [List.length_map]; omega), List.getElem_map]
  exact e2
 ·rw [List.getElem_append_left (by rw [List.length_map]; omega), List.getElem_map]
  exact e3 l hl

theorem noAt_mv {t : Str} (h : Mrg m i) (ht : nameR t = true) : atS (mvP (pgA m i) t) = false := by
 unfold mvP
 split
 ·have hp := (page_idx h.ok h.lt).1
  have hil := h.lt
  have e : pgA m i = m.pages[i] := getD_lt hil
  have hn := name_noAt hp
  rw [← e] at hn hp
  unfold nmP
  unfold nameR at hp
  simp only [Bool.and_eq_true, decide_eq_true_eq] at hp
  unfold atS at hn ⊢
  cases hnm : (pgA m i).name with
  | nil => rw [hnm] at hp; simp at hp
  | cons c r =>
    rw [hnm] at hn
    simpa using hn
 ·exact name_noAt ht

theorem atN_iff {m : Md} (hM : MOk m) {i : Nat} (hi : i < m.pages.length) {s : Str} (hat : atS s = true) : s = atN (pgA m i) ↔ i_page m.pages (s.drop 1) = i := by
 have hcons : s = 64 :: s.drop 1 := by
  cases s with
  | nil => simp [atS] at hat
  | cons c r =>
    unfold atS at hat
    simp only [List.length_cons, List.getD_cons_zero, Bool.and_eq_true, decide_eq_true_eq] at hat
    have : c = 64 := by
     apply UInt8.toNat.inj
     have := hat.2
     show c.toNat = 64
     omega
    rw [this]; rfl
 have hp := page_idx hM hi
 have e : pgA m i = m.pages[i] := getD_lt hi
 constructor
 ·intro h
  rw [h]
  show i_page m.pages (pgA m i).name = i
  rw [e]; exact hp.2
 ·intro h
  obtain ⟨j, hj, h1, h2⟩ := idx_name (f := Pg.name) (l := m.pages) (s := s.drop 1) (by show 0 ≤ i_page m.pages (s.drop 1); omega)
  have h1 : i_page m.pages (s.drop 1) = j := h1
  obtain rfl : j = i := by omega
  rw [hcons, ← h2, e]; rfl

theorem page_tp {m : Md} {j : Nat} : pageTop m (j : Int) = (m.pages.getD j default).top := by unfold pageTop; rw [Int.toNat_natCast]

theorem res_other (h : Mrg m i) {s : Str} {a : Int} (hat : atS s = true) (hp : 0 ≤ i_page m.pages (s.drop 1)) (hs : s ≠ atN (pgA m i)) (a' : Int) : resR (mgN m i) a' s = phi m i (resR m a s) := by
 have hne : i_page m.pages (s.drop 1) ≠ i := fun e => hs ((atN_iff h.ok h.lt hat).2 e)
 have hlt : i_page m.pages (s.drop 1) < (m.pages.length : Int) := idxP_lt _ _
 obtain ⟨j, hj⟩ : ∃ j : Nat, i_page m.pages (s.drop 1) = j := ⟨(i_page m.pages (s.drop 1)).toNat, by omega⟩
 have hjl : j < m.pages.length := by omega
 have hji : j ≠ i := by omega
 have hn : i_page (mgN m i).pages (s.drop 1) = atP i j := by
  show idxP _ (m.pages.eraseIdx i) = _
  unfold i_page at hj
  rw [idxP_erase h.lt hj hji]
  have n1 : ¬ (j : Int) = i := by omega
  unfold atP
  rw [if_neg n1]
  by_cases e : i < j
  ·have e' : (i : Int) < j := by omega
   rw [if_pos e, if_pos e']
  ·have e' : ¬ (i : Int) < j := by omega
   rw [if_neg e, if_neg e']
 have h0 : 0 ≤ atP i (j : Int) := by
  have n1 : ¬ (j : Int) = i := by omega
  unfold atP
  rw [if_neg n1]
  split <;> omega
 have htop : pageTop (mgN m i) (atP i j) = pageTop m j := by
  rw [page_tp]
  unfold pageTop
  rw [mg_pg h.lt hjl hji]
 unfold resR
 rw [if_pos hat, if_pos hat, hn, hj, htop]
 generalize pageTop m j = t
 unfold resOn
 rw [show (mgN m i).evs = m.evs from rfl, show (mgN m i).hs = m.hs from rfl]
 split
 ·rfl
 split
 ·rfl
 rw [mg_gates h.lt hjl hji, phi_gate (by omega)]

theorem mg_res (h : Mrg m i) {a : Int} (ha : a = -1 ∨ (0 ≤ a ∧ a < (m.pages.length : Int))) {s : Str} (hs : isInR m a s = true) (hf : a = -1 ∨ s ≠ atN (pgA m i)) : resR (mgN m i) (atP i a) (tauP m i a s) = phi m i (resR m a s) := by
 have hpi : (0 ≤ (i : Int) ∧ (i : Int) < (m.pages.length : Int)) := ⟨by omega, by have := h.lt; omega⟩
 unfold isInR at hs
 by_cases hat : atS s = true
 ·rw [if_pos hat] at hs
  have hs : 0 ≤ i_page m.pages (s.drop 1) := of_decide_eq_true hs
  by_cases he : s = atN (pgA m i)
  ·have ha1 : a = -1 := by
    rcases hf with e | e
    ·exact e
    ·exact absurd he e
   subst ha1
   have hi := (atN_iff h.ok h.lt hat).1 he
   have e1 : resR m (-1) s = resOn m i (pgA m i).top := by
    unfold resR
    rw [if_pos hat, hi, page_tp]; rfl
   have htop := h.ok.page_top hpi
   rw [page_gates, page_tp] at htop
   have hin : 0 ≤ i_gate (pgA m i).gates (pgA m i).top ∨ 0 ≤ i_event m.evs (pgA m i).top ∨ 0 ≤ i_house m.hs (pgA m i).top := by
    rcases htop with e | e
    ·exact .inl e.1
    ·exact .inr (.inl e)
   have hname : nameR (pgA m i).top = true := by
    rcases htop with e | e
    ·obtain ⟨k, hk, hk1, hk2⟩ := idx_name (f := Mg.name) e.1
     have g1 := (pg_ok h.ok.gates h.lt hk).name
     rw [show (pgA m i).gates[k].name = _ from hk2] at g1
     exact g1
    ·exact ev_ok h.ok.evs e
   have e2 : tauP m i (-1) s = mvP (pgA m i) (pgA m i).top := by
    unfold tauP inP
    rw [if_pos rfl, if_pos he]
   rw [e1, e2, show atP i (-1) = -1 from atP_main]
   unfold resR
   rw [if_neg (by rw [noAt_mv h hname]; simp)]
   exact res_own h hin
  ·have e2 : tauP m i a s = s := by
    unfold tauP
    split
    ·unfold inP; rw [if_neg he]
    split
    ·unfold mvP
     rw [if_neg]
     intro ho
     obtain ⟨k, hk, hk1, hk2⟩ := idx_name (f := Mg.name) (own_idx.1 ho)
     have g1 := (pg_ok h.ok.gates h.lt hk).name
     rw [show (pgA m i).gates[k].name = _ from hk2] at g1
     rw [name_noAt g1] at hat
     cases hat
    ·rfl
   rw [e2]
   exact res_other h hat hs he _
 ·rw [if_neg hat] at hs
  have hat : atS s = false := by simpa using hat
  have hs : 0 ≤ i_event m.evs s ∨ 0 ≤ i_house m.hs s ∨ 0 ≤ i_gate (gatesM m a) s := by
   simp only [Bool.or_eq_true, decide_eq_true_eq] at hs
   rcases hs with (h | h) | h
   ·exact .inl h
   ·exact .inr (.inl h)
   ·exact .inr (.inr h)
  have hne : s ≠ atN (pgA m i) := by
   intro e
   rw [e] at hat
   simp [atS, atN] at hat
  rw [show resR m a s = resOn m a s by unfold resR; rw [if_neg (by rw [hat]; simp)]]
  by_cases e1 : a = -1
  ·subst e1
   rw [show tauP m i (-1) s = s by unfold tauP inP; rw [if_pos rfl, if_neg hne], show atP i (-1) = -1 from atP_main]
   rw [show resR (mgN m i) (-1) s = resOn (mgN m i) (-1) s by unfold resR; rw [if_neg (by rw [hat]; simp)]]
   unfold resOn
   rw [show (mgN m i).evs = m.evs from rfl, show (mgN m i).hs = m.hs from rfl]
   split
   ·rfl
   rename_i n1
   split
   ·rfl
   rename_i n2
   rw [main_gates] at hs
   have hg : 0 ≤ i_gate m.gates s := by rcases hs with e | e | e <;> first | exact absurd e n1 | exact absurd e n2 | exact e
   have n0 : ¬ (-1 : Int) = i := by omega
   rw [show gatesM m (-1) = m.gates from main_gates, main_gate hg, phi_gate n0, atP_main]
  by_cases e2 : a = i
  ·subst e2
   rw [page_gates] at hs
   have hm : atS (mvP (pgA m i) s) = false := by
    unfold mvP
    by_cases ho : ownP (pgA m i) s = true
    ·obtain ⟨k, hk, hk1, hk2⟩ := idx_name (f := Mg.name) (own_idx.1 ho)
     have g1 := (pg_ok h.ok.gates h.lt hk).name
     rw [show (pgA m i).gates[k].name = _ from hk2] at g1
     exact noAt_mv h g1
    ·rw [if_neg ho]; exact hat
   rw [show tauP m i (i : Int) s = mvP (pgA m i) s by unfold tauP; rw [if_neg e1, if_pos rfl], show atP i (i : Int) = -1 by unfold atP; rw [if_pos rfl]]
   rw [show resR (mgN m i) (-1) (mvP (pgA m i) s) = resOn (mgN m i) (-1) (mvP (pgA m i) s) by unfold resR; rw [if_neg (by rw [hm]; simp)]]
   refine res_own h ?_
   rcases hs with e | e | e
   ·exact .inr (.inl e)
   ·exact .inr (.inr e)
   ·exact .inl e
  obtain ⟨b, rfl⟩ : ∃ b : Nat, (b : Int) = a := ⟨a.toNat, by omega⟩
  rw [show tauP m i (b : Int) s = s by unfold tauP; rw [if_neg e1, if_neg e2]; rfl]
  rw [show resR (mgN m i) (atP i b) s = resOn (mgN m i) (atP i b) s by unfold resR; rw [if_neg (by rw [hat]; simp)]]
  unfold resOn
  rw [show (mgN m i).evs = m.evs from rfl, show (mgN m i).hs = m.hs from rfl]
  split
  ·rfl
  split
  ·rfl
  rw [mg_gates h.lt (by omega) (by omega), phi_gate e2]

theorem mg_kids (h : Mrg m i) {x : Node} (hx : x ∈ allNodes m) : kidsM (mgN m i) (phi m i x) = (kidsM m x).map (phi m i) := by
 obtain ⟨x1, a, k⟩ := x
 obtain ⟨h1, ha, hk⟩ := mem_all.1 hx
 dsimp only at h1 ha hk
 subst h1
 obtain ⟨_, _, g3, g4⟩ := mg_len h.lt ha hk
 unfold kidsM
 rw [g3, g4]
 simp only [gIn, List.map_map]
 refine List.map_congr_left fun s hs => ?_
 have hmem : gateAt m (2, a, k) ∈ gatesM m a := getD_mem (by obtain ⟨k1, k2⟩ := hk; show k.toNat < _; omega)
 refine mg_res h ha (h.ok.ins_in ha hmem hs) ?_
 by_cases e1 : a = -1
 ·exact .inl e1
 right
 intro e
 obtain ⟨b, rfl⟩ : ∃ b : Nat, (b : Int) = a := ⟨a.toNat, by omega⟩
 have hb : b < m.pages.length := by omega
 rw [gates_page] at hmem
 refine h.free (m.pages.getD b default) (by rw [getD_lt hb]; exact List.getElem_mem hb) ?_
 exact List.mem_flatMap.2 ⟨_, hmem, by rw [← e]; exact hs⟩
end

theorem pgB_of {m : Md} (hB : MdB m) (hX : MdX m) (hM : MOk m) : PgB m := by
 refine ⟨hB, hX, fun p hp => ?_⟩
 obtain ⟨k, hk, rfl⟩ := List.getElem_of_mem hp
 have := (page_idx hM hk).1
 unfold nameR at this
 simp only [Bool.and_eq_true, decide_eq_true_eq] at this
 exact this.1.1.2

theorem pg_names {m : Md} (hM : MOk m) {i : Nat} (hi : i < m.pages.length) : ∀ g ∈ (pgA m i).gates, g.name.length ≤ 24 := by
 intro g hg
 obtain ⟨k, hk, rfl⟩ := List.getElem_of_mem hg
 have := (pg_ok hM.gates hi hk).name
 unfold nameR at this
 simp only [Bool.and_eq_true, decide_eq_true_eq] at this
 exact this.1.1.2



def inlAV (r : Md × Int) : AV := if r.2 = 0 then .tup [r.1.av, .nilI] else .tup [zMd, .ifc 90 (.int .i64 r.2)]
def inlineAV (m : Md) : AV := if checkM m ≠ 0 then .tup [zMd, .ifc 90 (.int .i64 (checkM m))] else inlAV (inlP m.pages.length m)

theorem phT_all : ∀ (l : List Ph), l.map (phT id) = l
 | [] => rfl
 | x :: l => by rw [List.map_cons, phT_all l]; rfl

abbrev inBox (m : Md) (gates pages : AV) : AV := .ag [.str m.name, .str m.top, .sl 11 (m.evs.map Ev.av) .no, .sl 2 (m.hs.map Hs.av) .no, gates, pages, .sl 4 (m.grs.map Gr.av) .no, .sl 3 (m.phs.map Ph.av) .no]

theorem idxN_step {m : Md} {k : Nat} (h : k < m.pages.length) : freeP.idxN m k (m.pages.length - k) = if innerP m k = true then freeP.idxN m (k + 1) (m.pages.length - (k + 1)) else k := by
 obtain ⟨n, hn⟩ : ∃ n, m.pages.length - k = n + 1 := ⟨m.pages.length - k - 1, by omega⟩
 rw [hn, show m.pages.length - (k + 1) = n by omega]
 rfl

theorem idxN_end {m : Md} {k n : Nat} (h : n = 0) : freeP.idxN m k n = k := by subst h; rfl

theorem inlP_end {m : Md} (h : m.pages.length = 0) : inlP m.pages.length m = (m, 0) := by rw [h]; rfl

theorem inlP_step {m : Md} (h : m.pages.length ≠ 0) : inlP m.pages.length m = if freeP m = m.pages.length then (m, 14) else
      if mgE m (freeP m) = 0 then inlP (m.pages.length - 1) (mgN m (freeP m)) else (m, mgE m (freeP m)) := by
 obtain ⟨n, hn⟩ : ∃ n, m.pages.length = n + 1 := ⟨m.pages.length - 1, by omega⟩
 rw [hn]
 show (if m.pages.length = 0 then _ else _) = _
 rw [if_neg (by omega), hn]
 rfl

theorem mgE_zero {m : Md} {i : Nat} (h : mgE m i = 0) : innerP m i = false ∧ longP (pgA m i) = false ∧ checkM (mgN m i) = 0 := by
 unfold mgE at h
 split at h
 ·cases h
 rename_i h1
 split at h
 ·cases h
 rename_i h2
 exact ⟨by simpa using h1, by simpa using h2, h⟩

theorem c_Inline (m : Md) (hC : MdC m) (hB : MdB m) (hX : MdX m) (R : AV) (hR : R = inlineAV m) : FnH Tryz.prog 29 [m.av] [] R [] := by
 have cc := c_mCheck m hC hB _ rfl
 unfold inlineAV at hR
 by_cases h0 : checkM m ≠ 0
 ·rw [errAV_ne h0] at cc
  rw [if_pos h0] at hR
  subst hR
  refine FnH.intro lay mixed Tryz.func29 (by kernel_rfl) rfl (by kernel_rfl) rfl fun hok => ?_
  (try dsimp only[argC,succC]);(try dsimp only[awp]);conv=>whnf
  refine .pure _ _ ?_ ⟨rfl, rfl⟩ cc fun _ => ?_
  ·exact leL_refl _
  (try dsimp only[awp]);conv=>whnf
  refine fM ?_;(conv=>whnf);refine ⟨?_,rfl⟩;conv=>whnf
  repeat' first|exact rfl|exact trivial|exact wR|exact lR _|apply aI
 have h0 : checkM m = 0 := by simpa using h0
 rw [h0, errAV_zero] at cc
 rw [if_neg (by rw [h0]; simp)] at hR
 have hM := checkM_ok h0
 have hm := pgB_of hB hX hM
 have hpl := hB.pages
 have cr := c_rest m 76 [] id hB hX (c_same25 _) (fun x _ => c_same25 _) rfl
 unfold rsAV rsBox at cr
 rw [phT_all] at cr
 have cg := c_pgates m.gates 76 76 [] [] id id (by have := hB.gates.1; omega) (fun g hg => by have := hB.gates.2 g hg; omega) hX.gates (fun g _ => c_same25 _) (fun g _ s _ => c_same25 s) rfl rfl
 rw [gIn_all] at cg
 refine FnH.intro lay mixed Tryz.func29 (by kernel_rfl) rfl (by kernel_rfl) rfl fun hok => ?_
 (try dsimp only[argC,succC]);(try dsimp only[awp]);conv=>whnf
 refine .pure _ _ ?_ ⟨rfl, rfl⟩ cc fun _ => ?_
 ·exact leL_refl _
 (try dsimp only[awp]);conv=>whnf
 refine .pure _ _ ?_ ⟨rfl, rfl⟩ cr fun _ => ?_
 ·exact leL_refl _
 (try dsimp only[awp]);conv=>whnf
 refine .pure _ _ ?_ ⟨rfl, rfl⟩ cg fun _ => ?_
 ·exact leL_refl _
 (try dsimp only[awp]);conv=>whnf
 refine LoopE.of <| LoopSpec.inv (.growF 2 [5] 3 [] (inBox m (gL m.gates) .nils) .nils _ rfl rfl (.inl ⟨rfl, rfl⟩) rfl (.refl _ _)) (fun (k : Nat) => k ≤ m.pages.length)
  (fun k => [(26, .int .i64 k)]) (fun k => [(3, .tok 3 k), (2, .box (inBox m (gL m.gates) (.sl 3 ((m.pages.take k).map Pg.av) (.own 3)))), (1, .box zMd), (0, .box m.av)]) (fun k => m.pages.length - k) 0 ?_ (fun _ => rfl) ?_ ?_
 ·exact Nat.zero_le _
 ·refine ⟨?_, .mk ?_ (by simp [idsOk])⟩
  ·repeat' first|exact rfl|exact trivial|exact wR|exact lR _|apply aI
  ·repeat' first|exact rfl|exact trivial|exact wR|exact lR _|apply aI
 intro k hk _
 (try dsimp only[awp]);conv=>whnf
 refine And.intro (fun h => ?_) (fun h => ?_)
 ·have hkl : k < m.pages.length := by simpa using h
  have ht := take_one hkl
  have hlen := take_len1 hk
  have hpk := hB.pgates _ (List.getElem_mem hkl)
  have cgp := c_pgates (m.pages[k]).gates 76 76 [] [] id id (by omega) (fun g hg => by have := hpk.2 g hg; omega) (hX.pages _ (List.getElem_mem hkl)) (fun g _ => c_same25 _) (fun g _ s _ => c_same25 s) rfl rfl
  rw [gIn_all] at cgp
  (try dsimp only[awp]);conv=>whnf
  refine aidx hkl ?_
  generalize m.pages[k] = x at *
  generalize m.pages.take k = L at *
  (try dsimp only[awp]);conv=>whnf
  refine ADraw.auto (by kernel_rfl) ?_;conv=>whnf
  refine ACallP.pure _ _ ?_ ⟨rfl, rfl⟩ cgp ?_
  ·exact leL_refl _
  (try dsimp only[awp]);conv=>whnf
  refine ⟨by rw [List.length_map]; omega, .mk (by simp [maxL]; omega) (by simp; omega) ?_⟩
  (try dsimp only[awp]);conv=>whnf
  refine zA ?_;conv=>whnf
  refine ⟨k + 1, ?_, ?_, ?_⟩
  ·exact hkl
  ·rw [ht]
   refine ⟨?_, .mk ?_ (by simp [idsOk])⟩
   ·repeat' first|exact rfl|exact trivial|exact wR|exact lR _|apply aI
    all_goals first | (simp; done) | (simp; omega)
   ·repeat' first|exact rfl|exact trivial|exact wR|exact lR _|apply aI
    all_goals first | (refine leRL_of ?_; rw [List.map_append]; rfl) | (simp; done) | (simp; omega)
  ·omega
 have hkl : k = m.pages.length := by have : ¬ k < m.pages.length := by simpa using h
                                     omega
 subst hkl
 rw [List.take_length]
 clear h
 (try dsimp only[awp]);conv=>whnf
 refine LoopE.of <| LoopSpec.inv (.refl _ _) (fun (q : Md) => PgB q ∧ MdC q ∧ checkM q = 0 ∧ inlP m.pages.length m = inlP q.pages.length q)
  (fun _ => []) (fun q => [(3, .gone), (2, .box q.av), (1, .box zMd), (0, .box m.av)]) (fun q => q.pages.length) m ?_ (fun _ => rfl) ?_ ?_
 ·exact ⟨hm, hC, h0, rfl⟩
 ·refine ⟨?_, .mk ?_ (by simp [idsOk])⟩
  ·repeat' first|exact rfl|exact trivial|exact wR|exact lR _|apply aI
  ·repeat' first|exact rfl|exact trivial|exact wR|exact lR _|apply aI
 rintro q ⟨hq, hqC, hq0, hqI⟩ _
 rw [hqI] at hR
 have hqM := checkM_ok hq0
 have hql := hq.B.pages
 (try dsimp only[awp]);conv=>whnf
 refine And.intro (fun h => ?_) (fun h => ?_)
 ·have hq1 : q.pages.length ≠ 0 := by simp at h; intro e; rw [e] at h; simp at h
  rw [inlP_step hq1] at hR
  (try dsimp only[awp]);conv=>whnf
  refine LoopE.of <| LoopSpec.inv (.refl _ _) (fun (k : Nat) => k ≤ q.pages.length ∧ freeP q = freeP.idxN q k (q.pages.length - k)) (fun (k : Nat) => [(8, .int .i64 k)]) (fun _ => _) (fun (k : Nat) => q.pages.length - k) 0 ?_ (fun _ => rfl) ?_ ?_
  ·exact ⟨Nat.zero_le _, rfl⟩
  ·repeat' first|exact rfl|exact trivial|exact wR|exact lR _|apply aI
  rintro k ⟨hk, hfr⟩ _
  (try dsimp only[awp]);conv=>whnf
  refine And.intro (fun h2 => ?_) (fun h2 => ?_)
  ·have hkl : k < q.pages.length := by simpa using h2
   rw [idxN_step hkl] at hfr
   have ci := c_inner q hq k
   cases hin : innerP q k with
   | true =>
     rw [hin] at ci
     have ci := ci.weak (R' := .tt) rfl
     rw [hin, if_pos rfl] at hfr
     (try dsimp only[awp]);conv=>whnf
     refine .pure _ _ ?_ ⟨rfl, rfl⟩ ci fun _ => ?_
     ·exact leL_refl _
     (try dsimp only[awp]);conv=>whnf
     refine zA ?_;conv=>whnf
     refine ⟨k + 1, ?_, ?_, ?_⟩
     ·exact ⟨hkl, hfr⟩
     ·repeat' first|exact rfl|exact trivial|exact wR|exact lR _|apply aI
     ·omega
   | false =>
     rw [hin] at ci
     have ci := ci.weak (R' := .ff) rfl
     rw [hin, if_neg (by simp)] at hfr
     rw [hfr, if_neg (by omega)] at hR
     have cm := c_merge q hq k hkl hqC (pg_names hqM hkl) (total64 hq0) _ rfl
     unfold mgAV at cm
     (try dsimp only[awp]);conv=>whnf
     refine .pure _ _ ?_ ⟨rfl, rfl⟩ ci fun _ => ?_
     ·exact leL_refl _
     (try dsimp only[awp]);conv=>whnf
     refine And.intro (fun h3 => ?_) (fun h3 => ?_)
     ·exfalso; simp at h3; omega
     by_cases h4 : mgE q k = 0
     ·rw [if_pos h4] at cm hR
      obtain ⟨_, _, h5⟩ := mgE_zero h4
      have hn := checkM_ok h5
      have nB := mg_B hkl hq.B (total64 hq0)
      have nl := mg_pages hkl
      (try dsimp only[awp]);conv=>whnf
      refine .pure _ _ ?_ ⟨rfl, rfl⟩ cm fun _ => ?_
      ·exact leL_refl _
      (try dsimp only[awp]);conv=>whnf
      refine ⟨mgN q k, ?_, ?_, ?_⟩
      ·exact ⟨pgB_of nB (mg_X hkl hq.X) hn, mg_C hkl hqC, h5, by rw [hqI, inlP_step hq1, hfr, if_neg (by omega), if_pos h4, nl]⟩
      ·refine ⟨?_, .mk ?_ (by simp [idsOk])⟩
       ·repeat' first|exact rfl|exact trivial|exact wR|exact lR _|apply aI
       ·repeat' first|exact rfl|exact trivial|exact wR|exact lR _|apply aI
      ·omega
     ·rw [if_neg h4] at cm hR
      (try dsimp only[awp]);conv=>whnf
      refine .pure _ _ ?_ ⟨rfl, rfl⟩ cm fun _ => ?_
      ·exact leL_refl _
      have hR : R = .tup [zMd, .ifc 90 (.int .i64 (mgE q k))] := by rw [hR]; unfold inlAV; rw [if_neg h4]
      subst hR
      (try dsimp only[awp]);conv=>whnf
      refine fM ?_;(conv=>whnf);refine ⟨?_,rfl⟩;conv=>whnf
      repeat' first|exact rfl|exact trivial|exact wR|exact lR _|apply aI
  ·have hkl : k = q.pages.length := by have : ¬ k < q.pages.length := by simpa using h2
                                       omega
   rw [idxN_end (by omega), hkl] at hfr
   rw [if_pos hfr] at hR
   have hR : R = .tup [zMd, .ifc 90 (.int .i64 14)] := by rw [hR]; unfold inlAV; rw [if_neg (show ¬ ((14 : Int) = 0) by decide)]
   subst hR
   (try dsimp only[awp]);conv=>whnf
   refine And.intro (fun h3 => ?_) (fun h3 => ?_)
   ·(try dsimp only[awp]);conv=>whnf
    refine fM ?_;(conv=>whnf);refine ⟨?_,rfl⟩;conv=>whnf
    repeat' first|exact rfl|exact trivial|exact wR|exact lR _|apply aI
   ·exfalso; simp at h3; omega
 ·have hq1 : q.pages.length = 0 := by simp at h; rw [h]; rfl
  rw [inlP_end hq1] at hR
  have hR : R = .tup [q.av, .nilI] := hR
  subst hR
  (try dsimp only[awp]);conv=>whnf
  refine fM ?_;(conv=>whnf);refine ⟨?_,rfl⟩;conv=>whnf
  repeat' first|exact rfl|exact trivial|exact wR|exact lR _|apply aI

section
variable {m : Md} {i : Nat}

def psi (m : Md) (i : Nat) (x : Node) : Node :=
 if x.1 = 2 then (if x.2.1 = -1 then (if x.2.2 < (m.gates.length : Int) then x else (2, (i : Int), x.2.2 - m.gates.length)) else if (i : Int) ≤ x.2.1 then (2, x.2.1 + 1, x.2.2) else x) else x

theorem psi_phi {x : Node} (hx : okN m x) : psi m i (phi m i x) = x := by
 obtain ⟨x1, a, k⟩ := x
 by_cases h2 : x1 = 2
 ·subst h2
  have hm : ((2, a, k) : Node) ∈ allNodes m := by
   rcases hx with h | h | h
   ·have := h.1; simp at this
   ·have := h.1; simp at this
   ·exact h
  obtain ⟨_, ha, hk⟩ := mem_all.1 hm
  dsimp only at ha hk
  unfold phi
  dsimp only
  rw [if_pos rfl]
  by_cases e1 : a = i
  ·rw [if_pos e1]
   unfold psi
   dsimp only
   have n1 : ¬ ((m.gates.length : Int) + k < (m.gates.length : Int)) := by omega
   rw [if_pos rfl, if_pos rfl, if_neg n1, ← e1]
   congr 2
   omega
  rw [if_neg e1]
  by_cases e2 : (i : Int) < a
  ·rw [if_pos e2]
   unfold psi
   dsimp only
   have n1 : ¬ (a - 1 = -1) := by omega
   have n2 : (i : Int) ≤ a - 1 := by omega
   rw [if_pos rfl, if_neg n1, if_pos n2]
   congr 2
   omega
  rw [if_neg e2]
  unfold psi
  dsimp only
  rw [if_pos rfl]
  by_cases e3 : a = -1
  ·subst e3
   rw [main_gates] at hk
   rw [if_pos rfl, if_pos hk.2]
  ·have n2 : ¬ (i : Int) ≤ a := by omega
   rw [if_neg e3, if_neg n2]
 ·rw [phi_of h2]
  exact if_neg h2

theorem phi_kind (x : Node) : (phi m i x).1 = x.1 := by
 unfold phi
 split
 ·rename_i h
  split
  ·exact h.symm
  ·split
   ·exact h.symm
   ·rfl
 ·rfl

end

end S

open Go Go.AL Go.Proofs
namespace Go.AL
section
variable {P : Program} {ops : Array Oper} {Q : Exit → Act → World → Prop} {a : Act} {w : World} {o : Oper} {l : List Oper}

structure Ext (w w' : World) : Prop where
 size : w.heap.size ≤ w'.heap.size
 old : ∀ b, b < w.heap.size → w'.heap[b]? = w.heap[b]?
 os : w'.os = w.os
 tape : w'.tape = w.tape
 output : w'.output = w.output

end
end Go.AL

namespace S
set_option maxRecDepth 100000

def exEv : Array Value := #[.string ⟨#[97]⟩, .bool false, .slice none 0 0, .slice none 0 0, .bool false, .slice none 0 0, .slice none 0 0, .bool false, .slice none 0 0, .slice none 0 0, .int .i64 0, .string ⟨#[98]⟩, .bool false, .slice none 0 0, .slice none 0 0, .bool false, .slice none 0 0, .slice none 0 0, .bool false, .slice none 0 0, .slice none 0 0, .int .i64 0, .string ⟨#[99]⟩, .bool false, .slice none 0 0, .slice none 0 0, .bool false, .slice none 0 0, .slice none 0 0, .bool false, .slice none 0 0, .slice none 0 0, .int .i64 0]
def exI0 : Array Value := #[.string ⟨#[97]⟩, .string ⟨#[64, 112]⟩]
def exG0 (n : Nat) : Array Value := #[.string ⟨#[103]⟩, .int .i64 0, .int .i64 0, .slice (some ⟨n, 0, none⟩) 2 2, .bool false, .slice none 0 0, .slice none 0 0]
def exI1 : Array Value := #[.string ⟨#[98]⟩, .string ⟨#[99]⟩]
def exG1 (n : Nat) : Array Value := #[.string ⟨#[104]⟩, .int .i64 1, .int .i64 0, .slice (some ⟨n, 0, none⟩) 2 2, .bool false, .slice none 0 0, .slice none 0 0]
def exP (n : Nat) : Array Value := #[.string ⟨#[112]⟩, .string ⟨#[104]⟩, .slice (some ⟨n, 0, none⟩) 1 1]
structure ExW (w w' : World) : Prop where
 ext : Ext w w'
 size : w'.heap.size = w.heap.size + 7
 ev : w'.heap[w.heap.size + 1]? = some (.cells exEv 68)
 i0 : w'.heap[w.heap.size + 2]? = some (.cells exI0 9)
 g0 : w'.heap[w.heap.size + 3]? = some (.cells (exG0 (w.heap.size + 2)) 84)
 i1 : w'.heap[w.heap.size + 4]? = some (.cells exI1 9)
 g1 : w'.heap[w.heap.size + 5]? = some (.cells (exG1 (w.heap.size + 4)) 84)
 pg : w'.heap[w.heap.size + 6]? = some (.cells (exP (w.heap.size + 5)) 82)

end S

open Go Go.AL Go.Proofs
namespace Go.AL
section
variable {P : Program} {L : Lay} {ops : Array Oper} {Q : Exit → Act → World → Prop} {a : Act} {w : World} {o : Oper} {l : List Oper}

structure PutA (a a' : Act) (d : Nat) (v : Value) : Prop where
 size : a'.tmps.size = a.tmps.size
 defers : a'.defers = a.defers
 new : a'.eval (.tmp d) = v
 old : ∀ t : Nat, t ≠ d → a'.eval (.tmp t) = a.eval (.tmp t)

end
end Go.AL

namespace S
set_option maxRecDepth 100000

section
variable {w : World} {Im : Nat → Nat → Prop}

end







theorem c_Num (e : Int) : FnH Tryz.prog 17 [errAV e] [] (.int .i64 e) [] := by
 by_cases h0 : e = 0
 ·subst h0
  rw [errAV_zero]
  refine FnH.intro lay mixed Tryz.func17 (by kernel_rfl) rfl (by kernel_rfl) rfl fun hok => ?_
  (try dsimp only[argC,succC]);(try dsimp only[awp]);conv=>whnf
  refine fM ?_;(conv=>whnf);refine ⟨?_,rfl⟩;conv=>whnf
  repeat' first|exact rfl|exact trivial|exact wR|exact lR _|apply aI
 ·rw [errAV_ne h0]
  refine FnH.intro lay mixed Tryz.func17 (by kernel_rfl) rfl (by kernel_rfl) rfl fun hok => ?_
  (try dsimp only[argC,succC]);(try dsimp only[awp]);conv=>whnf
  refine fM ?_;(conv=>whnf);refine ⟨?_,rfl⟩;conv=>whnf
  repeat' first|exact rfl|exact trivial|exact wR|exact lR _|apply aI



theorem freeP_le {m : Md} : freeP m ≤ m.pages.length := by
 have key : ∀ (n k : Nat), freeP.idxN m k n ≤ k + n := by
  intro n
  induction n with
  | zero => intro k; exact Nat.le_refl _
  | succ n ih =>
    intro k
    have e : freeP.idxN m k (n + 1) = if innerP m k = true then freeP.idxN m (k + 1) n else k := rfl
    rw [e]
    split
    ·have := ih (k + 1); omega
    ·omega
 have := key m.pages.length 0
 show freeP.idxN m 0 m.pages.length ≤ _
 omega























theorem list_of {α : Type} {f : α → AV} : ∀ {l : List AV}, (∀ x ∈ l, ∃ y, x = f y) → ∃ m : List α, l = m.map f
 | [], _ => ⟨[], rfl⟩
 | x :: l, h => by
   obtain ⟨y, rfl⟩ := h x (by simp)
   obtain ⟨m, rfl⟩ := list_of (l := l) fun z hz => h z (by simp [hz])
   exact ⟨y :: m, rfl⟩

theorem ints_of {sz : Nat} {k : IntKind} {A : AV} (h : (Sh.sl sz (.int k)).In A) : ∃ l : List Int, A = .sl sz (l.map (.int k)) .no := by
 simp only [Sh.In] at h
 obtain ⟨l, rfl, hl⟩ := h
 obtain ⟨m, rfl⟩ := list_of hl
 exact ⟨m, rfl⟩

abbrev shRat : Sh := .st [.bool, .sl 1 (.int .u32), .sl 1 (.int .u32)]
theorem Rat.of {A : AV} (h : shRat.In A) : ∃ r : Rat, A = r.av := by
 simp only [Sh.In, InL] at h
 obtain ⟨_, rfl, _, _, rfl, ⟨b, rfl⟩, _, _, rfl, h1, _, _, rfl, h2, rfl⟩ := h
 obtain ⟨n, rfl⟩ := ints_of (sz := 1) (k := .u32) (by simp only [Sh.In]; exact h1)
 obtain ⟨d, rfl⟩ := ints_of (sz := 1) (k := .u32) (by simp only [Sh.In]; exact h2)
 exact ⟨⟨b, n, d⟩, rfl⟩

theorem rats_of {A : AV} (h : (Sh.sl 3 shRat).In A) : ∃ l : List Rat, A = .sl 3 (l.map Rat.av) .no := by
 unfold Sh.In at h
 obtain ⟨l, rfl, hl⟩ := h
 obtain ⟨m, rfl⟩ := list_of fun x hx => Rat.of (hl x hx)
 exact ⟨m, rfl⟩

theorem int_of {k : IntKind} {A : AV} (h : (Sh.int k).In A) : ∃ n : Int, A = .int k n := by
 simpa only [Sh.In] using h

theorem str_of {A : AV} (h : Sh.str.In A) : ∃ s : List UInt8, A = .str s := by
 simpa only [Sh.In] using h

theorem sl_of {α : Type} {f : α → AV} {sh : Sh} {sz : Nat} {A : AV} (hf : ∀ x, sh.In x → ∃ y, x = f y) (h : (Sh.sl sz sh).In A) : ∃ l : List α, A = .sl sz (l.map f) .no := by
 unfold Sh.In at h
 obtain ⟨l, rfl, hl⟩ := h
 obtain ⟨m, rfl⟩ := list_of fun x hx => hf x (hl x hx)
 exact ⟨m, rfl⟩

abbrev shEv : Sh := .st [.str, shRat, shRat, shRat, .int .i64]
abbrev shHs : Sh := .st [.str, .bool]
abbrev shMg : Sh := .st [.str, .int .i64, .int .i64, .sl 1 .str, shRat]
abbrev shPg : Sh := .st [.str, .str, .sl 7 shMg]
abbrev shGr : Sh := .st [.str, .int .i64, .sl 1 .str, .sl 3 shRat]
abbrev shPv : Sh := .st [.str, shRat]
abbrev shPh : Sh := .st [.str, .str, .sl 4 shPv]
abbrev shMd : Sh := .st [.str, .str, .sl 11 shEv, .sl 2 shHs, .sl 7 shMg, .sl 3 shPg, .sl 4 shGr, .sl 3 shPh]

theorem strs_of {A : AV} (h : (Sh.sl 1 .str).In A) : ∃ l : List Str, A = sL l := sl_of (f := AV.str) (fun _ hx => str_of hx) h

theorem Ev.of {A : AV} (h : shEv.In A) : ∃ x : Ev, A = x.av := by
 unfold Sh.In at h
 simp only [InL] at h
 obtain ⟨_, rfl, _, _, rfl, h0, _, _, rfl, h1, _, _, rfl, h2, _, _, rfl, h3, _, _, rfl, h4, rfl⟩ := h
 obtain ⟨a, rfl⟩ := str_of h0
 obtain ⟨b, rfl⟩ := Rat.of h1
 obtain ⟨c, rfl⟩ := Rat.of h2
 obtain ⟨d, rfl⟩ := Rat.of h3
 obtain ⟨e, rfl⟩ := int_of h4
 exact ⟨⟨a, b, c, d, e⟩, rfl⟩

theorem Hs.of {A : AV} (h : shHs.In A) : ∃ x : Hs, A = x.av := by
 unfold Sh.In at h
 simp only [InL] at h
 obtain ⟨_, rfl, _, _, rfl, h0, _, _, rfl, h1, rfl⟩ := h
 obtain ⟨a, rfl⟩ := str_of h0
 simp only [Sh.In] at h1
 obtain ⟨b, rfl⟩ := h1
 exact ⟨⟨a, b⟩, rfl⟩

theorem Mg.of {A : AV} (h : shMg.In A) : ∃ x : Mg, A = x.av := by
 unfold Sh.In at h
 simp only [InL] at h
 obtain ⟨_, rfl, _, _, rfl, h0, _, _, rfl, h1, _, _, rfl, h2, _, _, rfl, h3, _, _, rfl, h4, rfl⟩ := h
 obtain ⟨a, rfl⟩ := str_of h0
 obtain ⟨b, rfl⟩ := int_of h1
 obtain ⟨c, rfl⟩ := int_of h2
 obtain ⟨d, rfl⟩ := strs_of h3
 obtain ⟨e, rfl⟩ := Rat.of h4
 exact ⟨⟨a, b, c, d, e⟩, rfl⟩

theorem Pg.of {A : AV} (h : shPg.In A) : ∃ x : Pg, A = x.av := by
 unfold Sh.In at h
 simp only [InL] at h
 obtain ⟨_, rfl, _, _, rfl, h0, _, _, rfl, h1, _, _, rfl, h2, rfl⟩ := h
 obtain ⟨a, rfl⟩ := str_of h0
 obtain ⟨b, rfl⟩ := str_of h1
 obtain ⟨c, rfl⟩ := sl_of (f := Mg.av) (fun _ hx => Mg.of hx) h2
 exact ⟨⟨a, b, c⟩, rfl⟩

theorem Gr.of {A : AV} (h : shGr.In A) : ∃ x : Gr, A = x.av := by
 unfold Sh.In at h
 simp only [InL] at h
 obtain ⟨_, rfl, _, _, rfl, h0, _, _, rfl, h1, _, _, rfl, h2, _, _, rfl, h3, rfl⟩ := h
 obtain ⟨a, rfl⟩ := str_of h0
 obtain ⟨b, rfl⟩ := int_of h1
 obtain ⟨c, rfl⟩ := strs_of h2
 obtain ⟨d, rfl⟩ := rats_of h3
 exact ⟨⟨a, b, c, d⟩, rfl⟩

theorem Pv.of {A : AV} (h : shPv.In A) : ∃ x : Pv, A = x.av := by
 unfold Sh.In at h
 simp only [InL] at h
 obtain ⟨_, rfl, _, _, rfl, h0, _, _, rfl, h1, rfl⟩ := h
 obtain ⟨a, rfl⟩ := str_of h0
 obtain ⟨b, rfl⟩ := Rat.of h1
 exact ⟨⟨a, b⟩, rfl⟩

theorem Ph.of {A : AV} (h : shPh.In A) : ∃ x : Ph, A = x.av := by
 unfold Sh.In at h
 simp only [InL] at h
 obtain ⟨_, rfl, _, _, rfl, h0, _, _, rfl, h1, _, _, rfl, h2, rfl⟩ := h
 obtain ⟨a, rfl⟩ := str_of h0
 obtain ⟨b, rfl⟩ := str_of h1
 obtain ⟨c, rfl⟩ := sl_of (f := Pv.av) (fun _ hx => Pv.of hx) h2
 exact ⟨⟨a, b, c⟩, rfl⟩

theorem Md.of {A : AV} (h : shMd.In A) : ∃ x : Md, A = x.av := by
 unfold Sh.In at h
 simp only [InL] at h
 obtain ⟨_, rfl, _, _, rfl, h0, _, _, rfl, h1, _, _, rfl, h2, _, _, rfl, h3, _, _, rfl, h4, _, _, rfl, h5, _, _, rfl, h6, _, _, rfl, h7, rfl⟩ := h
 obtain ⟨a, rfl⟩ := str_of h0
 obtain ⟨b, rfl⟩ := str_of h1
 obtain ⟨c, rfl⟩ := sl_of (f := Ev.av) (fun _ hx => Ev.of hx) h2
 obtain ⟨d, rfl⟩ := sl_of (f := Hs.av) (fun _ hx => Hs.of hx) h3
 obtain ⟨e, rfl⟩ := sl_of (f := Mg.av) (fun _ hx => Mg.of hx) h4
 obtain ⟨f, rfl⟩ := sl_of (f := Pg.av) (fun _ hx => Pg.of hx) h5
 obtain ⟨g, rfl⟩ := sl_of (f := Gr.av) (fun _ hx => Gr.of hx) h6
 obtain ⟨i, rfl⟩ := sl_of (f := Ph.av) (fun _ hx => Ph.of hx) h7
 exact ⟨⟨a, b, c, d, e, f, g, i⟩, rfl⟩

structure Ak where
 page : Int
 inp : Str
 old : Str
 new : Str





inductive Reach (m : Md) (r : Node) : Node → Prop
 | root : Reach m r r
 | step {x y : Node} (h : Reach m r x) (h2 : x.1 = 2) (hy : y ∈ kidsM m x) : Reach m r y

theorem Reach.ok {m : Md} {r x : Node} (hc : ClosedM m) (hr : okN m r) (h : Reach m r x) : okN m x := by
 induction h with
 | root => exact hr
 | step h h2 hy ih => exact (okN_kids hc ih h2).2 _ hy

theorem visited_reach {m : Md} (hM : MOk m) (x : Node) : x ∈ visitedM m ↔ Reach m (resR m (-1) m.top) x := by
 have hin := hM.inOk (.inl rfl) hM.top
 constructor
 ·have := walk_ok (kids := kidsM m) (step := fun (st : List Node) x => st ++ [x]) (fun x => Reach m (resR m (-1) m.top) x) (fun st => ∀ y ∈ st, Reach m (resR m (-1) m.top) y) (fun x hx h2 y hy => .step hx h2 hy) (fun st x hx h y hy => by
   rcases List.mem_append.1 hy with hy | hy
   ·exact h y hy
   ·obtain rfl : y = x := by simpa using hy
    exact hx) (fuelM m) (resR m (-1) m.top) ⟨[], []⟩ .root (by simp)
  exact this x
 ·intro h
  have haf := met_all hM.closed hM.cyc hin.ok
  have key : (x.1 = 2 → look (walkF (kidsM m) (fun st x => st ++ [x]) (fuelM m) (resR m (-1) m.top) ⟨[], []⟩).2.es x = 2) ∧ x ∈ (walkF (kidsM m) (fun st x => st ++ [x]) (fuelM m) (resR m (-1) m.top) ⟨[], []⟩).2.st := by
   induction h with
   | root =>
     refine ⟨haf.done, ?_⟩
     by_cases e : (resR m (-1) m.top).1 = 2
     ·exact (haf.inv.met _ (haf.done e)).1
     ·exact haf.leaf e
   | step h h2 hy ih =>
     obtain ⟨rank, hr⟩ := haf.inv.rank
     have hd := ih.1 h2
     refine ⟨fun e => (hr _ hd _ hy e).1, ?_⟩
     rename_i a b
     by_cases e : b.1 = 2
     ·exact (haf.inv.met _ (hr _ hd _ hy e).1).1
     ·exact (haf.inv.met _ hd).2 _ hy e
  exact key.2

inductive RI (us : List (List Int)) (f : Nat) : Nat → Prop
 | root : RI us f f
 | step {i : Nat} {k : Int} (h : RI us f i) (hk : k ∈ us.getD i []) : RI us f k.toNat

theorem set_same {d : List Bool} {k : Nat} : d.set k (d.getD k false) = d := by
 by_cases h : k < d.length
 ·rw [getD_lt' h]; exact List.set_getElem_self h
 ·exact List.set_eq_of_length_le (by omega)

end S
