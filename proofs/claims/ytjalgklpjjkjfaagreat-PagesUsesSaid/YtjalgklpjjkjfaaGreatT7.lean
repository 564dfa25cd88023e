/-
  Contracts of functions of the program, over the logic of the texts before. Nothing is assumed.
-/
import Derived.Test.YtjalgklpjjkjfaaGreatT6

open Go Go.AL Go.Proofs
namespace S
set_option maxRecDepth 100000

theorem c_groups (h1c : OneC) (m : Md) (hX : MdX m) (hB : MdB m) (R : AV) (hR : R = .int .i64 (groupsErr m)) : FnH Tryz.prog 49 [m.av] [] R [] := by
 have ce := fun s => c_revent m s
 have hgl := hB.grs
 refine FnH.intro lay mixed Tryz.func49 (by kernel_rfl) rfl (by kernel_rfl) rfl fun hok => ?_
 (try dsimp only[argC,succC]);(try dsimp only[awp]);conv=>whnf
 refine And.intro (fun h1 => ?_) (fun h1 => ?_)
 ·have h1 : 8 < m.grs.length := by simp only [List.length_map] at h1; omega
  obtain rfl : R = .int .i64 4 := by rw [hR, show groupsErr m = 4 from if_pos h1]
  (try dsimp only[awp]);conv=>whnf
  refine fM ?_;(conv=>whnf);refine ⟨?_,rfl⟩;conv=>whnf
  repeat' first|exact rfl|exact trivial|exact wR|exact lR _|apply aI
 have h1 : ¬ 8 < m.grs.length := by simp only [List.length_map] at h1; omega
 have hge : groupsErr m = grsErr m 0 m.grs [] := if_neg h1
 (try dsimp only[awp]);conv=>whnf
 refine LoopE.of <| LoopSpec.inv (.grow 3 1 [] _ rfl (.inl ⟨rfl, rfl⟩) (.refl _ _)) (fun (s : Nat × List Str) => s.1 ≤ m.grs.length ∧ grsErr m 0 m.grs [] = grsErr m s.1 (m.grs.drop s.1) s.2 ∧ s.2.length ≤ 60 * s.1)
  (fun s => [(23, .int .i64 s.1), (3, .sl 1 (s.2.map .str) (.own 1))]) (fun s => [(1, .tok 1 s.2.length), (0, .box m.av)]) (fun s => m.grs.length - s.1) (0, []) ?_ (fun _ => rfl) ?_ ?_
 ·exact ⟨Nat.zero_le _, rfl, by simp⟩
 ·refine ⟨?_, .mk ?_ ⟨by simp, by simp, trivial⟩⟩
  ·repeat' first|exact rfl|exact trivial|exact wR|exact lR _|apply aI
  ·repeat' first|exact rfl|exact trivial|exact wR|exact lR _|apply aI
 rintro ⟨i, sp⟩ ⟨hi, hn, hs1⟩ _
 dsimp only at hi hn hs1
 (try dsimp only[awp]);conv=>whnf
 refine And.intro (fun h => ?_) (fun h => ?_)
 ·have hlt : i < m.grs.length := by simpa using h
  have hml := hB.mem _ (List.getElem_mem hlt)
  have hfc := hX.grs _ (List.getElem_mem hlt)
  rw [List.drop_eq_getElem_cons hlt] at hn
  simp only [grsErr] at hn
  have bad : ∀ e : Int, e ≠ 0 → (grErr m i m.grs[i] sp).1 = e → groupsErr m = e := by
   intro e he h
   rw [h, if_pos he] at hn
   rw [hge, hn]
  (try dsimp only[awp]);conv=>whnf
  refine aidx hlt ?_
  generalize hx0 : m.grs[i] = x at *
  (try dsimp only[awp]);conv=>whnf
  refine .pure _ _ ?_ ⟨rfl, rfl⟩ (c_Name21 x.name) fun _ => ?_
  ·exact leL_refl _
  (try dsimp only[awp]);conv=>whnf
  refine And.intro (fun g1 => ?_) (fun g1 => ?_)
  ·have g1 : nameR x.name = false := by simpa using g1
   obtain rfl : R = .int .i64 5 := by rw [hR, bad 5 (by decide) (by unfold grErr; rw [if_pos g1])]
   (try dsimp only[awp]);conv=>whnf
   refine fM ?_;(conv=>whnf);refine ⟨?_,rfl⟩;conv=>whnf
   repeat' first|exact rfl|exact trivial|exact wR|exact lR _|apply aI
  have g1 : ¬ nameR x.name = false := by simpa using g1
  (try dsimp only[awp]);conv=>whnf
  refine ⟨⟨by simp, by simp, by simp; omega⟩, ?_⟩
  rw [cut0]
  (try dsimp only[awp]);conv=>whnf
  refine LoopE.of <| LoopSpec.inv (.refl _ _) (fun (q : Nat) => q ≤ i ∧ ∀ (y : Nat) (hy : y < m.grs.length), y < q → m.grs[y].name ≠ x.name) (fun (q : Nat) => [(37, .int .i64 q)]) (fun _ => _) (fun (q : Nat) => i - q) 0 ?_ (fun _ => rfl) ?_ ?_
  ·exact ⟨Nat.zero_le _, by omega⟩
  ·repeat' first|exact rfl|exact trivial|exact wR|exact lR _|apply aI
  rintro q ⟨hq, hnq⟩ _
  (try dsimp only[awp]);conv=>whnf
  refine And.intro (fun hz => ?_) (fun hz => ?_)
  ·have hql : q < (m.grs.take i).length := by simpa using hz
   have hqi : q < i := by rw [List.length_take] at hql; omega
   have hqe : (m.grs.take i)[q] = m.grs[q]'(by omega) := List.getElem_take
   (try dsimp only[awp]);conv=>whnf
   refine aidx hql ?_
   rw [hqe]
   (try dsimp only[awp]);conv=>whnf
   refine And.intro (fun he => ?_) (fun he => ?_)
   ·have g2 : idxP (fun y => decide (y.name = x.name)) m.grs < i := by
     have := (idxP_le (p := fun y => decide (y.name = x.name)) (l := m.grs) (k := q) (by omega) (by simpa using he)).2
     omega
    obtain rfl : R = .int .i64 6 := by rw [hR, bad 6 (by decide) (by unfold grErr; rw [if_neg g1, if_pos g2])]
    (try dsimp only[awp]);conv=>whnf
    refine fM ?_;(conv=>whnf);refine ⟨?_,rfl⟩;conv=>whnf
    repeat' first|exact rfl|exact trivial|exact wR|exact lR _|apply aI
   (try dsimp only[awp]);conv=>whnf
   refine zA ?_;conv=>whnf
   refine ⟨q + 1, ?_, ?_, ?_⟩
   ·refine ⟨hqi, fun y hy hyq => ?_⟩
    by_cases hyq' : y = q
    ·subst hyq'; exact he
    ·exact hnq y hy (by omega)
   ·refine ⟨?_, .mk ?_ ⟨by simp, by simp, by simp, trivial⟩⟩
    ·repeat' first|exact rfl|exact trivial|exact wR|exact lR _|apply aI
    ·repeat' first|exact rfl|exact trivial|exact wR|exact lR _|apply aI
   ·omega
  have hql : q = i := by have : ¬ q < (m.grs.take i).length := by simpa using hz
                         rw [List.length_take] at this
                         omega
  have g2 : ¬ idxP (fun y => decide (y.name = x.name)) m.grs < i := by
   rw [idxP_some (p := fun y => decide (y.name = x.name)) hlt (by simp [hx0]) fun y hy => by simpa using hnq y (by omega) (by omega)]
   omega
  clear hz hql hnq hq
  (try dsimp only[awp]);conv=>whnf
  refine And.intro (fun k0 => ?_) (fun k0 => ?_)
  ·(try dsimp only[awp]);conv=>whnf
   refine And.intro (fun k1 => ?_) (fun k1 => ?_)
   ·obtain rfl : R = .int .i64 7 := by rw [hR, bad 7 (by decide) (by unfold grErr; rw [if_neg g1, if_neg g2, if_pos ⟨k0, k1⟩])]
    (try dsimp only[awp]);conv=>whnf
    refine fM ?_;(conv=>whnf);refine ⟨?_,rfl⟩;conv=>whnf
    repeat' first|exact rfl|exact trivial|exact wR|exact lR _|apply aI
   have k1 : x.kind = 1 := by omega
   have g3 : ¬ (x.kind ≠ 0 ∧ x.kind ≠ 1) := fun h => h.2 k1
   (try dsimp only[awp]);conv=>whnf
   refine And.intro (fun _ => ?_) (fun h => absurd k1 h)
   (try dsimp only[awp]);conv=>whnf
   refine ADraw.auto (by kernel_rfl) ?_;conv=>whnf
   refine ⟨inr64 (by simp; omega) (by simp; omega), ?_⟩
   rw [show ((x.mem.map AV.str).length : Int) = (x.mem.length : Int) by simp]
   have e1 : (if x.kind = 1 then (4 : Int) else 24) = 4 := if_pos k1
   have e2 : (if x.kind = 1 then (x.mem.length : Int) - 1 else 1) = (x.mem.length : Int) - 1 := if_pos k1
   (try dsimp only[awp]);conv=>whnf
   refine And.intro (fun g4 => ?_) (fun g4 => ?_)
   ·have g4 : x.mem.length < 2 := by simp only [List.length_map] at g4; omega
    obtain rfl : R = .int .i64 11 := by rw [hR, bad 11 (by decide) (by unfold grErr; rw [if_neg g1, if_neg g2, if_neg g3, if_pos g4])]
    (try dsimp only[awp]);conv=>whnf
    refine fM ?_;(conv=>whnf);refine ⟨?_,rfl⟩;conv=>whnf
    repeat' first|exact rfl|exact trivial|exact wR|exact lR _|apply aI
   have g4 : ¬ x.mem.length < 2 := by simp only [List.length_map] at g4; omega
   (try dsimp only[awp]);conv=>whnf
   refine And.intro (fun g5 => ?_) (fun g5 => ?_)
   ·rw [show ((x.mem.map AV.str).length : Int) = (x.mem.length : Int) by simp, ← e1] at g5
    obtain rfl : R = .int .i64 11 := by rw [hR, bad 11 (by decide) (by unfold grErr; rw [if_neg g1, if_neg g2, if_neg g3, if_neg g4, if_pos g5])]
    (try dsimp only[awp]);conv=>whnf
    refine fM ?_;(conv=>whnf);refine ⟨?_,rfl⟩;conv=>whnf
    repeat' first|exact rfl|exact trivial|exact wR|exact lR _|apply aI
   rw [show ((x.mem.map AV.str).length : Int) = (x.mem.length : Int) by simp, ← e1] at g5
   (try dsimp only[awp]);conv=>whnf
   refine And.intro (fun g6 => ?_) (fun g6 => ?_)
   ·rw [show ((x.fac.map Rat.av).length : Int) = (x.fac.length : Int) by simp, ← e2] at g6
    obtain rfl : R = .int .i64 11 := by rw [hR, bad 11 (by decide) (by unfold grErr; rw [if_neg g1, if_neg g2, if_neg g3, if_neg g4, if_neg g5, if_pos g6])]
    (try dsimp only[awp]);conv=>whnf
    refine fM ?_;(conv=>whnf);refine ⟨?_,rfl⟩;conv=>whnf
    repeat' first|exact rfl|exact trivial|exact wR|exact lR _|apply aI
   rw [show ((x.fac.map Rat.av).length : Int) = (x.fac.length : Int) by simp, ← e2] at g6
   have hgr : grErr m i x sp = if (memErr m x.mem sp).1 ≠ 0 then memErr m x.mem sp else if (x.fac.any fun f => !prob f) = true then (3, []) else memErr m x.mem sp := by
    unfold grErr; rw [if_neg g1, if_neg g2, if_neg g3, if_neg g4, if_neg g5, if_neg g6]
   (try dsimp only[awp]);conv=>whnf
   refine LoopE.of <| LoopSpec.inv (.refl _ _) (fun (s : Nat × List Str) => s.1 ≤ x.mem.length ∧ memErr m x.mem sp = memErr m (x.mem.drop s.1) s.2 ∧ s.2.length ≤ sp.length + s.1)
    (fun s => [(83, .int .i64 s.1), (3, .sl 1 (s.2.map .str) (.own 1))]) (fun s => [(2, .box x.av), (1, .tok 1 s.2.length), (0, .box m.av)]) (fun s => x.mem.length - s.1) (0, sp) ?_ (fun _ => rfl) ?_ ?_
   ·exact ⟨Nat.zero_le _, rfl, by simp⟩
   ·refine ⟨?_, .mk ?_ ⟨by simp, by simp, by simp, trivial⟩⟩
    ·repeat' first|exact rfl|exact trivial|exact wR|exact lR _|apply aI
    ·repeat' first|exact rfl|exact trivial|exact wR|exact lR _|apply aI
   rintro ⟨j, s2⟩ ⟨hj, hnj, hs2⟩ _
   dsimp only at hj hnj hs2
   (try dsimp only[awp]);conv=>whnf
   refine And.intro (fun hh => ?_) (fun hh => ?_)
   ·have hjl : j < x.mem.length := by simpa using hh
    rw [List.drop_eq_getElem_cons hjl] at hnj
    simp only [memErr] at hnj
    (try dsimp only[awp]);conv=>whnf
    refine aidx hjl ?_
    generalize x.mem[j] = y at *
    (try dsimp only[awp]);conv=>whnf
    refine .pure _ _ ?_ ⟨rfl, rfl⟩ (ce y) fun _ => ?_
    ·exact leL_refl _
    (try dsimp only[awp]);conv=>whnf
    refine And.intro (fun q1 => ?_) (fun q1 => ?_)
    ·rw [if_pos q1] at hnj
     obtain rfl : R = .int .i64 5 := by rw [hR, bad 5 (by decide) (by rw [hgr, hnj]; rfl)]
     (try dsimp only[awp]);conv=>whnf
     refine fM ?_;(conv=>whnf);refine ⟨?_,rfl⟩;conv=>whnf
     repeat' first|exact rfl|exact trivial|exact wR|exact lR _|apply aI
    rw [if_neg q1] at hnj
    (try dsimp only[awp]);conv=>whnf
    refine LoopE.of <| LoopSpec.inv (.refl _ _) (fun (q : Nat) => q ≤ s2.length ∧ ∀ (z : Nat) (hz : z < s2.length), z < q → s2[z] ≠ y) (fun (q : Nat) => [(93, .int .i64 q)]) (fun _ => _) (fun (q : Nat) => s2.length - q) 0 ?_ (fun _ => rfl) ?_ ?_
    ·exact ⟨Nat.zero_le _, by omega⟩
    ·repeat' first|exact rfl|exact trivial|exact wR|exact lR _|apply aI
    rintro q ⟨hq, hnq⟩ _
    (try dsimp only[awp]);conv=>whnf
    refine And.intro (fun hz => ?_) (fun hz => ?_)
    ·have hql : q < s2.length := by simpa using hz
     (try dsimp only[awp]);conv=>whnf
     refine aidx hql ?_
     (try dsimp only[awp]);conv=>whnf
     refine And.intro (fun he => ?_) (fun he => ?_)
     ·rw [if_pos (any_eq_mem hql he)] at hnj
      obtain rfl : R = .int .i64 6 := by rw [hR, bad 6 (by decide) (by rw [hgr, hnj]; rfl)]
      (try dsimp only[awp]);conv=>whnf
      refine fM ?_;(conv=>whnf);refine ⟨?_,rfl⟩;conv=>whnf
      repeat' first|exact rfl|exact trivial|exact wR|exact lR _|apply aI
     (try dsimp only[awp]);conv=>whnf
     refine zA ?_;conv=>whnf
     refine ⟨q + 1, ?_, ?_, ?_⟩
     ·refine ⟨hql, fun z hz hzq => ?_⟩
      by_cases hzq' : z = q
      ·subst hzq'; exact he
      ·exact hnq z hz (by omega)
     ·refine ⟨?_, .mk ?_ ⟨by simp, by simp, by simp, trivial⟩⟩
      ·repeat' first|exact rfl|exact trivial|exact wR|exact lR _|apply aI
      ·repeat' first|exact rfl|exact trivial|exact wR|exact lR _|apply aI
     ·omega
    have hql : q = s2.length := by have : ¬ q < s2.length := by simpa using hz
                                   omega
    subst hql
    rw [if_neg (by rw [any_eq_take fun z hz _ => hnq z hz hz]; simp)] at hnj
    clear hz
    (try dsimp only[awp]);conv=>whnf
    refine ⟨by rw [List.length_map], .mk (by simp [maxL]; omega) (by simp; omega) ?_⟩
    (try dsimp only[awp]);conv=>whnf
    refine zA ?_;conv=>whnf
    refine ⟨(j + 1, s2 ++ [y]), ?_, ?_, ?_⟩
    ·exact ⟨hjl, hnj, by show (s2 ++ [y]).length ≤ sp.length + (j + 1); simp; omega⟩
    ·refine ⟨?_, .mk ?_ ⟨by simp, by simp, by simp, trivial⟩⟩
     ·repeat' first|exact rfl|exact trivial|exact wR|exact lR _|apply aI
      all_goals first | (refine leRL_of ?_; simp [strip]; done) | (simp; done) | (simp; omega)
     ·repeat' first|exact rfl|exact trivial|exact wR|exact lR _|apply aI
      all_goals first | (refine leRL_of ?_; simp [strip]; done) | (simp; done) | (simp; omega)
    ·show x.mem.length - (j + 1) < x.mem.length - j
     omega
   have hjl : j = x.mem.length := by have : ¬ j < x.mem.length := by simpa using hh
                                     omega
   rw [List.drop_eq_nil_of_le (by omega)] at hnj
   simp only [memErr] at hnj
   rw [hnj, if_neg (by simp)] at hgr
   clear hh
   (try dsimp only[awp]);conv=>whnf
   refine LoopE.of <| LoopSpec.inv (.refl _ _) (fun (q : Nat) => q ≤ x.fac.length ∧ ∀ (z : Nat) (hz : z < x.fac.length), z < q → prob x.fac[z] = true) (fun (q : Nat) => [(109, .int .i64 q)]) (fun _ => _) (fun (q : Nat) => x.fac.length - q) 0 ?_ (fun _ => rfl) ?_ ?_
   ·exact ⟨Nat.zero_le _, by omega⟩
   ·repeat' first|exact rfl|exact trivial|exact wR|exact lR _|apply aI
   rintro q ⟨hq, hnq⟩ _
   (try dsimp only[awp]);conv=>whnf
   refine And.intro (fun hz => ?_) (fun hz => ?_)
   ·have hql : q < x.fac.length := by simpa using hz
    have hp := c_rProbX h1c _ (hfc _ (List.getElem_mem hql))
    (try dsimp only[awp]);conv=>whnf
    refine aidx hql ?_
    (try dsimp only[awp]);conv=>whnf
    refine .pure _ _ ?_ ⟨rfl, rfl⟩ hp fun _ => ?_
    ·exact leL_refl _
    (try dsimp only[awp]);conv=>whnf
    refine And.intro (fun q3 => ?_) (fun q3 => ?_)
    ·rw [if_pos (List.any_eq_true.2 ⟨_, List.getElem_mem hql, by simpa using q3⟩)] at hgr
     obtain rfl : R = .int .i64 3 := by rw [hR, bad 3 (by decide) (by rw [hgr])]
     (try dsimp only[awp]);conv=>whnf
     refine fM ?_;(conv=>whnf);refine ⟨?_,rfl⟩;conv=>whnf
     repeat' first|exact rfl|exact trivial|exact wR|exact lR _|apply aI
    (try dsimp only[awp]);conv=>whnf
    refine zA ?_;conv=>whnf
    refine ⟨q + 1, ?_, ?_, ?_⟩
    ·refine ⟨hql, fun z hz hzq => ?_⟩
     by_cases hzq' : z = q
     ·subst hzq'; simpa using q3
     ·exact hnq z hz (by omega)
    ·refine ⟨?_, .mk ?_ ⟨by simp, by simp, by simp, trivial⟩⟩
     ·repeat' first|exact rfl|exact trivial|exact wR|exact lR _|apply aI
     ·repeat' first|exact rfl|exact trivial|exact wR|exact lR _|apply aI
    ·omega
   have hql : q = x.fac.length := by have : ¬ q < x.fac.length := by simpa using hz
                                     omega
   subst hql
   rw [if_neg (by
    rw [Bool.not_eq_true, List.any_eq_false]
    intro f hf
    obtain ⟨z, hz, rfl⟩ := List.getElem_of_mem hf
    simp [hnq z hz hz])] at hgr
   rw [hgr, if_neg (by simp)] at hn
   (try dsimp only[awp]);conv=>whnf
   refine zA ?_;conv=>whnf
   refine ⟨(i + 1, s2), ?_, ?_, ?_⟩
   ·exact ⟨hlt, hn, by show s2.length ≤ 60 * (i + 1); omega⟩
   ·refine ⟨?_, .mk ?_ ⟨by simp, by simp, trivial⟩⟩
    ·repeat' first|exact rfl|exact trivial|exact wR|exact lR _|apply aI
    ·repeat' first|exact rfl|exact trivial|exact wR|exact lR _|apply aI
   ·show m.grs.length - (i + 1) < m.grs.length - i
    omega
  ·have k0 : x.kind = 0 := by omega
   have g3 : ¬ (x.kind ≠ 0 ∧ x.kind ≠ 1) := fun h => h.1 k0
   (try dsimp only[awp]);conv=>whnf
   refine And.intro (fun h => by exfalso; omega) (fun h1 => ?_)
   have e1 : (if x.kind = 1 then (4 : Int) else 24) = 24 := if_neg h1
   have e2 : (if x.kind = 1 then (x.mem.length : Int) - 1 else 1) = 1 := if_neg h1
   (try dsimp only[awp]);conv=>whnf
   refine And.intro (fun g4 => ?_) (fun g4 => ?_)
   ·have g4 : x.mem.length < 2 := by simp only [List.length_map] at g4; omega
    obtain rfl : R = .int .i64 11 := by rw [hR, bad 11 (by decide) (by unfold grErr; rw [if_neg g1, if_neg g2, if_neg g3, if_pos g4])]
    (try dsimp only[awp]);conv=>whnf
    refine fM ?_;(conv=>whnf);refine ⟨?_,rfl⟩;conv=>whnf
    repeat' first|exact rfl|exact trivial|exact wR|exact lR _|apply aI
   have g4 : ¬ x.mem.length < 2 := by simp only [List.length_map] at g4; omega
   (try dsimp only[awp]);conv=>whnf
   refine And.intro (fun g5 => ?_) (fun g5 => ?_)
   ·rw [show ((x.mem.map AV.str).length : Int) = (x.mem.length : Int) by simp, ← e1] at g5
    obtain rfl : R = .int .i64 11 := by rw [hR, bad 11 (by decide) (by unfold grErr; rw [if_neg g1, if_neg g2, if_neg g3, if_neg g4, if_pos g5])]
    (try dsimp only[awp]);conv=>whnf
    refine fM ?_;(conv=>whnf);refine ⟨?_,rfl⟩;conv=>whnf
    repeat' first|exact rfl|exact trivial|exact wR|exact lR _|apply aI
   rw [show ((x.mem.map AV.str).length : Int) = (x.mem.length : Int) by simp, ← e1] at g5
   (try dsimp only[awp]);conv=>whnf
   refine And.intro (fun g6 => ?_) (fun g6 => ?_)
   ·rw [show ((x.fac.map Rat.av).length : Int) = (x.fac.length : Int) by simp, ← e2] at g6
    obtain rfl : R = .int .i64 11 := by rw [hR, bad 11 (by decide) (by unfold grErr; rw [if_neg g1, if_neg g2, if_neg g3, if_neg g4, if_neg g5, if_pos g6])]
    (try dsimp only[awp]);conv=>whnf
    refine fM ?_;(conv=>whnf);refine ⟨?_,rfl⟩;conv=>whnf
    repeat' first|exact rfl|exact trivial|exact wR|exact lR _|apply aI
   rw [show ((x.fac.map Rat.av).length : Int) = (x.fac.length : Int) by simp, ← e2] at g6
   have hgr : grErr m i x sp = if (memErr m x.mem sp).1 ≠ 0 then memErr m x.mem sp else if (x.fac.any fun f => !prob f) = true then (3, []) else memErr m x.mem sp := by
    unfold grErr; rw [if_neg g1, if_neg g2, if_neg g3, if_neg g4, if_neg g5, if_neg g6]
   (try dsimp only[awp]);conv=>whnf
   refine LoopE.of <| LoopSpec.inv (.refl _ _) (fun (s : Nat × List Str) => s.1 ≤ x.mem.length ∧ memErr m x.mem sp = memErr m (x.mem.drop s.1) s.2 ∧ s.2.length ≤ sp.length + s.1)
    (fun s => [(83, .int .i64 s.1), (3, .sl 1 (s.2.map .str) (.own 1))]) (fun s => [(2, .box x.av), (1, .tok 1 s.2.length), (0, .box m.av)]) (fun s => x.mem.length - s.1) (0, sp) ?_ (fun _ => rfl) ?_ ?_
   ·exact ⟨Nat.zero_le _, rfl, by simp⟩
   ·refine ⟨?_, .mk ?_ ⟨by simp, by simp, by simp, trivial⟩⟩
    ·repeat' first|exact rfl|exact trivial|exact wR|exact lR _|apply aI
    ·repeat' first|exact rfl|exact trivial|exact wR|exact lR _|apply aI
   rintro ⟨j, s2⟩ ⟨hj, hnj, hs2⟩ _
   dsimp only at hj hnj hs2
   (try dsimp only[awp]);conv=>whnf
   refine And.intro (fun hh => ?_) (fun hh => ?_)
   ·have hjl : j < x.mem.length := by simpa using hh
    rw [List.drop_eq_getElem_cons hjl] at hnj
    simp only [memErr] at hnj
    (try dsimp only[awp]);conv=>whnf
    refine aidx hjl ?_
    generalize x.mem[j] = y at *
    (try dsimp only[awp]);conv=>whnf
    refine .pure _ _ ?_ ⟨rfl, rfl⟩ (ce y) fun _ => ?_
    ·exact leL_refl _
    (try dsimp only[awp]);conv=>whnf
    refine And.intro (fun q1 => ?_) (fun q1 => ?_)
    ·rw [if_pos q1] at hnj
     obtain rfl : R = .int .i64 5 := by rw [hR, bad 5 (by decide) (by rw [hgr, hnj]; rfl)]
     (try dsimp only[awp]);conv=>whnf
     refine fM ?_;(conv=>whnf);refine ⟨?_,rfl⟩;conv=>whnf
     repeat' first|exact rfl|exact trivial|exact wR|exact lR _|apply aI
    rw [if_neg q1] at hnj
    (try dsimp only[awp]);conv=>whnf
    refine LoopE.of <| LoopSpec.inv (.refl _ _) (fun (q : Nat) => q ≤ s2.length ∧ ∀ (z : Nat) (hz : z < s2.length), z < q → s2[z] ≠ y) (fun (q : Nat) => [(93, .int .i64 q)]) (fun _ => _) (fun (q : Nat) => s2.length - q) 0 ?_ (fun _ => rfl) ?_ ?_
    ·exact ⟨Nat.zero_le _, by omega⟩
    ·repeat' first|exact rfl|exact trivial|exact wR|exact lR _|apply aI
    rintro q ⟨hq, hnq⟩ _
    (try dsimp only[awp]);conv=>whnf
    refine And.intro (fun hz => ?_) (fun hz => ?_)
    ·have hql : q < s2.length := by simpa using hz
     (try dsimp only[awp]);conv=>whnf
     refine aidx hql ?_
     (try dsimp only[awp]);conv=>whnf
     refine And.intro (fun he => ?_) (fun he => ?_)
     ·rw [if_pos (any_eq_mem hql he)] at hnj
      obtain rfl : R = .int .i64 6 := by rw [hR, bad 6 (by decide) (by rw [hgr, hnj]; rfl)]
      (try dsimp only[awp]);conv=>whnf
      refine fM ?_;(conv=>whnf);refine ⟨?_,rfl⟩;conv=>whnf
      repeat' first|exact rfl|exact trivial|exact wR|exact lR _|apply aI
     (try dsimp only[awp]);conv=>whnf
     refine zA ?_;conv=>whnf
     refine ⟨q + 1, ?_, ?_, ?_⟩
     ·refine ⟨hql, fun z hz hzq => ?_⟩
      by_cases hzq' : z = q
      ·subst hzq'; exact he
      ·exact hnq z hz (by omega)
     ·refine ⟨?_, .mk ?_ ⟨by simp, by simp, by simp, trivial⟩⟩
      ·repeat' first|exact rfl|exact trivial|exact wR|exact lR _|apply aI
      ·repeat' first|exact rfl|exact trivial|exact wR|exact lR _|apply aI
     ·omega
    have hql : q = s2.length := by have : ¬ q < s2.length := by simpa using hz
                                   omega
    subst hql
    rw [if_neg (by rw [any_eq_take fun z hz _ => hnq z hz hz]; simp)] at hnj
    clear hz
    (try dsimp only[awp]);conv=>whnf
    refine ⟨by rw [List.length_map], .mk (by simp [maxL]; omega) (by simp; omega) ?_⟩
    (try dsimp only[awp]);conv=>whnf
    refine zA ?_;conv=>whnf
    refine ⟨(j + 1, s2 ++ [y]), ?_, ?_, ?_⟩
    ·exact ⟨hjl, hnj, by show (s2 ++ [y]).length ≤ sp.length + (j + 1); simp; omega⟩
    ·refine ⟨?_, .mk ?_ ⟨by simp, by simp, by simp, trivial⟩⟩
     ·repeat' first|exact rfl|exact trivial|exact wR|exact lR _|apply aI
      all_goals first | (refine leRL_of ?_; simp [strip]; done) | (simp; done) | (simp; omega)
     ·repeat' first|exact rfl|exact trivial|exact wR|exact lR _|apply aI
      all_goals first | (refine leRL_of ?_; simp [strip]; done) | (simp; done) | (simp; omega)
    ·show x.mem.length - (j + 1) < x.mem.length - j
     omega
   have hjl : j = x.mem.length := by have : ¬ j < x.mem.length := by simpa using hh
                                     omega
   rw [List.drop_eq_nil_of_le (by omega)] at hnj
   simp only [memErr] at hnj
   rw [hnj, if_neg (by simp)] at hgr
   clear hh
   (try dsimp only[awp]);conv=>whnf
   refine LoopE.of <| LoopSpec.inv (.refl _ _) (fun (q : Nat) => q ≤ x.fac.length ∧ ∀ (z : Nat) (hz : z < x.fac.length), z < q → prob x.fac[z] = true) (fun (q : Nat) => [(109, .int .i64 q)]) (fun _ => _) (fun (q : Nat) => x.fac.length - q) 0 ?_ (fun _ => rfl) ?_ ?_
   ·exact ⟨Nat.zero_le _, by omega⟩
   ·repeat' first|exact rfl|exact trivial|exact wR|exact lR _|apply aI
   rintro q ⟨hq, hnq⟩ _
   (try dsimp only[awp]);conv=>whnf
   refine And.intro (fun hz => ?_) (fun hz => ?_)
   ·have hql : q < x.fac.length := by simpa using hz
    have hp := c_rProbX h1c _ (hfc _ (List.getElem_mem hql))
    (try dsimp only[awp]);conv=>whnf
    refine aidx hql ?_
    (try dsimp only[awp]);conv=>whnf
    refine .pure _ _ ?_ ⟨rfl, rfl⟩ hp fun _ => ?_
    ·exact leL_refl _
    (try dsimp only[awp]);conv=>whnf
    refine And.intro (fun q3 => ?_) (fun q3 => ?_)
    ·rw [if_pos (List.any_eq_true.2 ⟨_, List.getElem_mem hql, by simpa using q3⟩)] at hgr
     obtain rfl : R = .int .i64 3 := by rw [hR, bad 3 (by decide) (by rw [hgr])]
     (try dsimp only[awp]);conv=>whnf
     refine fM ?_;(conv=>whnf);refine ⟨?_,rfl⟩;conv=>whnf
     repeat' first|exact rfl|exact trivial|exact wR|exact lR _|apply aI
    (try dsimp only[awp]);conv=>whnf
    refine zA ?_;conv=>whnf
    refine ⟨q + 1, ?_, ?_, ?_⟩
    ·refine ⟨hql, fun z hz hzq => ?_⟩
     by_cases hzq' : z = q
     ·subst hzq'; simpa using q3
     ·exact hnq z hz (by omega)
    ·refine ⟨?_, .mk ?_ ⟨by simp, by simp, by simp, trivial⟩⟩
     ·repeat' first|exact rfl|exact trivial|exact wR|exact lR _|apply aI
     ·repeat' first|exact rfl|exact trivial|exact wR|exact lR _|apply aI
    ·omega
   have hql : q = x.fac.length := by have : ¬ q < x.fac.length := by simpa using hz
                                     omega
   subst hql
   rw [if_neg (by
    rw [Bool.not_eq_true, List.any_eq_false]
    intro f hf
    obtain ⟨z, hz, rfl⟩ := List.getElem_of_mem hf
    simp [hnq z hz hz])] at hgr
   rw [hgr, if_neg (by simp)] at hn
   (try dsimp only[awp]);conv=>whnf
   refine zA ?_;conv=>whnf
   refine ⟨(i + 1, s2), ?_, ?_, ?_⟩
   ·exact ⟨hlt, hn, by show s2.length ≤ 60 * (i + 1); omega⟩
   ·refine ⟨?_, .mk ?_ ⟨by simp, by simp, trivial⟩⟩
    ·repeat' first|exact rfl|exact trivial|exact wR|exact lR _|apply aI
    ·repeat' first|exact rfl|exact trivial|exact wR|exact lR _|apply aI
   ·show m.grs.length - (i + 1) < m.grs.length - i
    omega
 ·have hil : i = m.grs.length := by have : ¬ i < m.grs.length := by simpa using h
                                    omega
  rw [List.drop_eq_nil_of_le (by omega)] at hn
  simp only [grsErr] at hn
  rw [hge, hn] at hR
  subst hR
  (try dsimp only[awp]);conv=>whnf
  refine fM ?_;(conv=>whnf);refine ⟨?_,rfl⟩;conv=>whnf
  repeat' first|exact rfl|exact trivial|exact wR|exact lR _|apply aI

def offR (m : Md) : Nat → Nat
 | 0 => 0
 | k + 1 => offR m k + (gatesM m ((k : Int) - 1)).length

def numR (m : Md) (x : Node) : Int := x.2.2 + offR m (x.2.1 + 1).toNat

theorem offR_le {m : Md} (hB : MdB m) : ∀ {k : Nat}, k ≤ m.pages.length + 1 → offR m k ≤ 100 * k
 | 0, _ => by simp [offR]
 | k + 1, h => by
   have := offR_le hB (k := k) (by omega)
   have h2 := (hB.gatesM (a := (k : Int) - 1) (by omega)).1
   simp only [offR]
   omega

theorem c_number (m : Md) (hB : MdB m) (x : Node) (ha : x.2.1 = -1 ∨ (0 ≤ x.2.1 ∧ x.2.1 < (m.pages.length : Int))) (hi : 0 ≤ x.2.2 ∧ x.2.2 < 1000000) : FnH Tryz.prog 106 [m.av, .int .i64 x.2.1, .int .i64 x.2.2] [] (.int .i64 (numR m x)) [] := by
 obtain ⟨xk, a, i⟩ := x
 dsimp only at ha hi ⊢
 have hpl := hB.pages
 obtain ⟨K, hK⟩ : ∃ K : Nat, (K : Int) = a + 1 := ⟨(a + 1).toNat, by omega⟩
 have hnum : numR m (xk, a, i) = i + (offR m K : Nat) := by unfold numR; dsimp only; rw [show (a + 1).toNat = K from by omega]
 rw [hnum]
 have haK : a = (K : Int) - 1 := by omega
 subst haK
 refine FnH.intro lay mixed Tryz.func106 (by kernel_rfl) rfl (by kernel_rfl) rfl fun hok => ?_
 (try dsimp only[argC,succC]);(try dsimp only[awp]);conv=>whnf
 refine LoopE.of <| LoopSpec.inv (.refl _ _) (fun (k : Nat) => k ≤ K) (fun (k : Nat) => [(8, .int .i64 ((k : Int) - 1)), (7, .int .i64 (i + (offR m k : Nat)))]) (fun _ => _) (fun (k : Nat) => K - k) 0 ?_ (fun _ => rfl) ?_ ?_
 ·exact Nat.zero_le _
 ·repeat' first|exact rfl|exact trivial|exact wR|exact lR _|apply aI
  all_goals first | (simp [offR]; done) | skip
 rintro k hk _
 (try dsimp only[awp]);conv=>whnf
 refine And.intro (fun h => ?_) (fun h => ?_)
 ·have hkl : k < K := by omega
  have hak : (k : Int) - 1 = -1 ∨ (0 ≤ (k : Int) - 1 ∧ (k : Int) - 1 < (m.pages.length : Int)) := by omega
  have ho := offR_le hB (k := k + 1) (by omega)
  have hs : offR m (k + 1) = offR m k + (gatesM m ((k : Int) - 1)).length := rfl
  (try dsimp only[awp]);conv=>whnf
  refine .pure _ _ ?_ ⟨rfl, rfl⟩ (c_rGates m _ hak) fun _ => ?_
  ·exact leL_refl _
  (try dsimp only[awp]);conv=>whnf
  refine ⟨inr64 (by simp; omega) (by simp; omega), ?_⟩
  (try dsimp only[awp]);conv=>whnf
  refine zA ?_;conv=>whnf
  refine ⟨k + 1, ?_, ?_, ?_⟩
  ·exact hkl
  ·rw [hs]
   refine ⟨?_, .mk ?_ ⟨by simp, trivial⟩⟩
   ·repeat' first|exact rfl|exact trivial|exact wR|exact lR _|apply aI
    all_goals (show (_ : Int) = _; first | omega | (rw [List.length_map]; omega))
   ·repeat' first|exact rfl|exact trivial|exact wR|exact lR _|apply aI
  ·omega
 have hkl : k = K := by omega
 subst hkl
 (try dsimp only[awp]);conv=>whnf
 refine fM ?_;(conv=>whnf);refine ⟨?_,rfl⟩;conv=>whnf
 repeat' first|exact rfl|exact trivial|exact wR|exact lR _|apply aI

def usesL (m : Md) (a : Int) (l : List Str) : List Int := ((l.map (findX m a)).filter fun x => decide (x.1 = 2)).map (numR m)
def usesAt (m : Md) (x : Node) : List Int := usesL m x.2.1 (gateAt m x).ins
def usesM (m : Md) : List (List Int) := (allNodes m).map (usesAt m)

theorem usesL_cons {m : Md} {a : Int} {s : Str} {l : List Str} : usesL m a (s :: l) = if (findX m a s).1 = 2 then numR m (findX m a s) :: usesL m a l else usesL m a l := by
 unfold usesL
 rw [List.map_cons, List.filter_cons]
 by_cases h : (findX m a s).1 = 2
 ·rw [if_pos h, if_pos (by simpa using h), List.map_cons]
 ·rw [if_neg h, if_neg (by simpa using h)]

abbrev zL (l : List Int) : AV := .sl 1 (l.map (AV.int .i64)) .no
abbrev uL (l : List (List Int)) : AV := .sl 1 (l.map zL) .no

theorem findX_gate {m : Md} {a : Int} {s : Str} (ha : a = -1 ∨ (0 ≤ a ∧ a < (m.pages.length : Int))) (h : (findX m a s).1 = 2) : findX m a s ∈ allNodes m := by
 have key : ∀ b t, (b = -1 ∨ (0 ≤ b ∧ b < (m.pages.length : Int))) → (findR m b t).1 = 2 → findR m b t ∈ allNodes m := by
  intro b t hb h
  unfold findR at h ⊢
  by_cases h1 : 0 ≤ i_event m.evs t
  ·rw [if_pos h1] at h; cases h
  rw [if_neg h1] at h ⊢
  by_cases h2 : 0 ≤ i_house m.hs t
  ·rw [if_pos h2] at h; cases h
  rw [if_neg h2] at h ⊢
  by_cases h3 : 0 ≤ i_gate (gatesM m b) t
  ·rw [if_pos h3]
   exact mem_all.2 ⟨rfl, hb, h3, idxP_lt _ _⟩
  ·rw [if_neg h3] at h; cases h
 unfold findX at h ⊢
 by_cases h1 : atS s = true
 ·rw [if_pos h1] at h ⊢
  by_cases h2 : i_page m.pages (s.drop 1) < 0
  ·rw [if_pos h2] at h; cases h
  rw [if_neg h2] at h ⊢
  exact key _ _ (.inr ⟨by omega, idxP_lt _ _⟩) h
 ·rw [if_neg h1] at h ⊢
  exact key _ _ ha h

theorem c_uses (m : Md) (hB : MdB m) (ht : ∀ p : Int, 0 ≤ p → p < (m.pages.length : Int) → atS (pageTop m p) = false) (R : AV) (hR : R = uL (usesM m)) : FnH Tryz.prog 104 [m.av] [] R [] := by
 have hpl := hB.pages
 refine FnH.intro lay mixed Tryz.func104 (by kernel_rfl) rfl (by kernel_rfl) rfl fun hok => ?_
 (try dsimp only[argC,succC]);(try dsimp only[awp]);conv=>whnf
 refine LoopE.of <| LoopSpec.inv (.grow 3 1 [] _ rfl (.inl ⟨rfl, rfl⟩) (.refl _ _)) (fun (q : Nat × List (List Int)) => q.1 ≤ m.pages.length + 1 ∧ q.2 ++ (nodesFrom m q.1).map (usesAt m) = usesM m ∧ q.2.length ≤ 100 * q.1)
  (fun q => [(4, .int .i64 ((q.1 : Int) - 1)), (3, .sl 1 (q.2.map zL) (.own 1))]) (fun q => [(1, .tok 1 q.2.length), (0, .box m.av)]) (fun q => m.pages.length + 1 - q.1) (0, []) ?_ (fun _ => rfl) ?_ ?_
 ·exact ⟨Nat.zero_le _, rfl, by simp⟩
 ·refine ⟨?_, .mk ?_ ⟨by simp, by simp, trivial⟩⟩
  ·repeat' first|exact rfl|exact trivial|exact wR|exact lR _|apply aI
  ·repeat' first|exact rfl|exact trivial|exact wR|exact lR _|apply aI
 rintro ⟨k, us⟩ ⟨hk, hn, hu⟩ _
 dsimp only at hk hn hu
 (try dsimp only[awp]);conv=>whnf
 refine And.intro (fun h => ?_) (fun h => ?_)
 ·have hkl : k < m.pages.length + 1 := by simp only [List.length_map] at h; omega
  have ha : (k : Int) - 1 = -1 ∨ (0 ≤ (k : Int) - 1 ∧ (k : Int) - 1 < (m.pages.length : Int)) := by omega
  have hBa := hB.gatesM ha
  have cG := c_rGates m _ ha
  have cF := fun s => c_Find m _ s ha ht
  have hfg := fun s => findX_gate (m := m) (s := s) ha
  have hNl := fun i (h : i < (gatesM m ((k : Int) - 1)).length) => drop_of_get? (nodesAt_get (m := m) (a := (k : Int) - 1) h)
  have hga : ∀ (i : Nat) (h : i < (gatesM m ((k : Int) - 1)).length), usesAt m (2, (k : Int) - 1, (i : Int)) = usesL m ((k : Int) - 1) (gatesM m ((k : Int) - 1))[i].ins := by
   intro i h
   unfold usesAt gateAt
   dsimp only
   rw [Int.toNat_natCast, List.getD_eq_getElem?_getD, List.getElem?_eq_getElem h]; rfl
  rw [nodesFrom_step hkl] at hn
  clear h
  generalize hrest : nodesFrom m (k + 1) = rest at *
  have hle := nodesAt_len m ((k : Int) - 1)
  generalize hage : (k : Int) - 1 = a at *
  generalize hnod : nodesAt m a = nod at *
  generalize hgs : gatesM m a = gs at *
  (try dsimp only[awp]);conv=>whnf
  refine .pure _ _ ?_ ⟨rfl, rfl⟩ cG fun hokl => ?_
  ·exact leL_refl _
  (try dsimp only[awp]);conv=>whnf
  refine LoopE.of <| LoopSpec.inv (.refl _ _) (fun (q : Nat × List (List Int)) => q.1 ≤ gs.length ∧ q.2 ++ (nod.drop q.1 ++ rest).map (usesAt m) = usesM m ∧ q.2.length ≤ us.length + q.1)
   (fun q => [(24, .int .i64 q.1), (3, .sl 1 (q.2.map zL) (.own 1))]) (fun q => [(1, .tok 1 q.2.length), (0, .box m.av)]) (fun q => gs.length - q.1) (0, us) ?_ (fun _ => rfl) ?_ ?_
  ·exact ⟨Nat.zero_le _, hn, by simp⟩
  ·refine ⟨?_, .mk ?_ ⟨by simp, by simp, trivial⟩⟩
   ·repeat' first|exact rfl|exact trivial|exact wR|exact lR _|apply aI
   ·repeat' first|exact rfl|exact trivial|exact wR|exact lR _|apply aI
  rintro ⟨i, u1⟩ ⟨hi, hni, hu1⟩ _
  dsimp only at hi hni hu1
  (try dsimp only[awp]);conv=>whnf
  refine And.intro (fun h => ?_) (fun h => ?_)
  ·have hlt : i < gs.length := by simpa using h
   have hxi := hBa.2 _ (List.getElem_mem hlt)
   rw [hNl i hlt, List.cons_append, List.map_cons, hga i hlt] at hni
   (try dsimp only[awp]);conv=>whnf
   refine aidx hlt ?_
   generalize gs[i] = g at *
   (try dsimp only[awp]);conv=>whnf
   refine LoopE.of <| LoopSpec.inv (.grow 7 1 [] _ rfl (.inl ⟨rfl, rfl⟩) (.refl _ _)) (fun (q : Nat × List Int) => q.1 ≤ g.ins.length ∧ q.2 ++ usesL m a (g.ins.drop q.1) = usesL m a g.ins ∧ q.2.length ≤ q.1)
    (fun q => [(31, .int .i64 q.1), (7, .sl 1 (q.2.map (AV.int .i64)) (.own 3))]) (fun q => [(3, .tok 1 q.2.length), (2, .box g.av), (1, .tok 1 u1.length), (0, .box m.av)]) (fun q => g.ins.length - q.1) (0, []) ?_ (fun _ => rfl) ?_ ?_
   ·exact ⟨Nat.zero_le _, rfl, by simp⟩
   ·refine ⟨?_, .mk ?_ ⟨by simp, by simp, by simp, by simp, trivial⟩⟩
    ·repeat' first|exact rfl|exact trivial|exact wR|exact lR _|apply aI
    ·repeat' first|exact rfl|exact trivial|exact wR|exact lR _|apply aI
   rintro ⟨j, l⟩ ⟨hj, hnj, hl⟩ _
   dsimp only at hj hnj hl
   (try dsimp only[awp]);conv=>whnf
   refine And.intro (fun hh => ?_) (fun hh => ?_)
   ·have hjl : j < g.ins.length := by simpa using hh
    rw [List.drop_eq_getElem_cons hjl, usesL_cons] at hnj
    (try dsimp only[awp]);conv=>whnf
    refine aidx hjl ?_
    generalize g.ins[j] = x at *
    have hfg := hfg x
    have cF := cF x
    generalize findX m a x = y at *
    obtain ⟨y1, y2, y3⟩ := y
    (try dsimp only[awp]);conv=>whnf
    refine .pure _ _ ?_ ⟨rfl, rfl⟩ cF fun _ => ?_
    ·exact leL_refl _
    (try dsimp only[awp]);conv=>whnf
    refine And.intro (fun g1 => ?_) (fun g1 => ?_)
    ·obtain ⟨_, hy2, hy3, hy4⟩ := mem_all.1 (hfg g1)
     have hb4 := (hB.gatesM hy2).1
     have cN := c_number m hB (y1, y2, y3) hy2 ⟨hy3, by show y3 < 1000000; have : y3 < ((gatesM m y2).length : Int) := hy4; have : (gatesM m y2).length ≤ 100 := hb4; omega⟩
     rw [if_pos g1] at hnj
     generalize numR m (y1, y2, y3) = z at *
     (try dsimp only[awp]);conv=>whnf
     refine .pure _ _ ?_ ⟨rfl, rfl⟩ cN fun _ => ?_
     ·exact leL_refl _
     (try dsimp only[awp]);conv=>whnf
     refine ⟨by rw [List.length_map], .mk (by simp [maxL]; omega) (by simp; omega) ?_⟩
     (try dsimp only[awp]);conv=>whnf
     refine zA ?_;conv=>whnf
     refine ⟨(j + 1, l ++ [z]), ?_, ?_, ?_⟩
     ·exact ⟨hjl, by rw [← hnj]; simp, by show (l ++ [z]).length ≤ j + 1; simp; omega⟩
     ·refine ⟨?_, .mk ?_ ⟨by simp, by simp, by simp, by simp, trivial⟩⟩
      ·repeat' first|exact rfl|exact trivial|exact wR|exact lR _|apply aI
       all_goals first | (refine leRL_of ?_; simp [strip]; done) | (simp; done) | (simp; omega)
      ·repeat' first|exact rfl|exact trivial|exact wR|exact lR _|apply aI
       all_goals first | (refine leRL_of ?_; simp [strip]; done) | (simp; done) | (simp; omega)
     ·show g.ins.length - (j + 1) < g.ins.length - j
      omega
    ·rw [if_neg g1] at hnj
     (try dsimp only[awp]);conv=>whnf
     refine zA ?_;conv=>whnf
     refine ⟨(j + 1, l), ?_, ?_, ?_⟩
     ·exact ⟨hjl, hnj, by show l.length ≤ j + 1; omega⟩
     ·refine ⟨?_, .mk ?_ ⟨by simp, by simp, by simp, by simp, trivial⟩⟩
      ·repeat' first|exact rfl|exact trivial|exact wR|exact lR _|apply aI
      ·repeat' first|exact rfl|exact trivial|exact wR|exact lR _|apply aI
     ·show g.ins.length - (j + 1) < g.ins.length - j
      omega
   have hjl : j = g.ins.length := by have : ¬ j < g.ins.length := by simpa using hh
                                     omega
   subst hjl
   rw [List.drop_length, show usesL m a [] = [] from rfl, List.append_nil] at hnj
   subst hnj
   generalize usesL m a g.ins = l at *
   (try dsimp only[awp]);conv=>whnf
   refine ⟨by rw [List.length_map], .mk (by simp [maxL]; omega) (by simp; omega) ?_⟩
   (try dsimp only[awp]);conv=>whnf
   refine zA ?_;conv=>whnf
   refine ⟨(i + 1, u1 ++ [l]), ?_, ?_, ?_⟩
   ·exact ⟨hlt, by rw [← hni]; simp, by show (u1 ++ [l]).length ≤ us.length + (i + 1); simp; omega⟩
   ·refine ⟨?_, .mk ?_ ⟨by simp, by simp, trivial⟩⟩
    ·repeat' first|exact rfl|exact trivial|exact wR|exact lR _|apply aI
     all_goals first | (refine leRL_of ?_; simp [strip]; done) | (simp; done) | (simp; omega)
    ·repeat' first|exact rfl|exact trivial|exact wR|exact lR _|apply aI
     all_goals first | (refine leRL_of ?_; simp [strip]; done) | (simp; done) | (simp; omega)
   ·show gs.length - (i + 1) < gs.length - i
    omega
  have hil : i = gs.length := by have : ¬ i < gs.length := by simpa using h
                                 omega
  rw [List.drop_eq_nil_of_le (by omega), List.nil_append] at hni
  (try dsimp only[awp]);conv=>whnf
  refine zA ?_;conv=>whnf
  refine ⟨(k + 1, u1), ?_, ?_, ?_⟩
  ·exact ⟨hkl, by show u1 ++ (nodesFrom m (k + 1)).map (usesAt m) = _; rw [hrest]; exact hni, by show u1.length ≤ 100 * (k + 1); have := hBa.1; omega⟩
  ·refine ⟨?_, .mk ?_ ⟨by simp, by simp, trivial⟩⟩
   ·repeat' first|exact rfl|exact trivial|exact wR|exact lR _|apply aI
    all_goals (show _ = _; congr 1 <;> omega)
   ·repeat' first|exact rfl|exact trivial|exact wR|exact lR _|apply aI
  ·show m.pages.length + 1 - (k + 1) < m.pages.length + 1 - k
   omega
 have hkl : m.pages.length + 1 ≤ k := by simp only [List.length_map] at h; omega
 rw [nodesFrom_end hkl, List.map_nil, List.append_nil] at hn
 subst hn
 subst hR
 (try dsimp only[awp]);conv=>whnf
 refine fM ?_;(conv=>whnf);refine ⟨?_,rfl⟩;conv=>whnf
 repeat' first|exact rfl|exact trivial|exact wR|exact lR _|apply aI

def rdyD (d : List Bool) (l : List Int) : Bool := l.all fun k => d.getD k.toNat false
def stepD (d : List Bool) (i : Nat) (l : List Int) : List Bool := d.set i (d.getD i false || rdyD d l)
def passD : Nat → List (List Int) → List Bool → List Bool
 | _, [], d => d
 | i, l :: us, d => passD (i + 1) us (stepD d i l)
def roundsD (us : List (List Int)) : Nat → List Bool → List Bool
 | 0, d => d
 | r + 1, d => roundsD us r (passD 0 us d)
def doneD (us : List (List Int)) : List Bool := roundsD us us.length (List.replicate us.length false)
def cycU (us : List (List Int)) : Bool := (doneD us).any fun b => !b

theorem stepD_len {d : List Bool} {i : Nat} {l : List Int} : (stepD d i l).length = d.length := by simp [stepD]

theorem rdyD_take {d : List Bool} {l : List Int} {i : Nat} (h : i < l.length) : rdyD d (l.take (i + 1)) = (rdyD d (l.take i) && d.getD (l[i]).toNat false) := by
 unfold rdyD
 rw [List.take_add_one, List.getElem?_eq_getElem h, List.all_append]; simp

theorem drop_off {m : Md} : ∀ {k : Nat}, k ≤ m.pages.length + 1 → (allNodes m).drop (offR m k) = nodesFrom m k
 | 0, _ => rfl
 | k + 1, h => by
   simp only [offR]
   rw [← List.drop_drop, drop_off (by omega : k ≤ _), nodesFrom_step (by omega), ← nodesAt_len, List.drop_left]

theorem num_get {m : Md} {x : Node} (hx : x ∈ allNodes m) : 0 ≤ numR m x ∧ (allNodes m)[(numR m x).toNat]? = some x := by
 obtain ⟨h1, h2, h3, h4⟩ := mem_all.1 hx
 obtain ⟨xk, a, i⟩ := x
 dsimp only at h1 h2 h3 h4
 subst h1
 have hb : (a + 1).toNat < m.pages.length + 1 := by omega
 have e := drop_off (m := m) (k := (a + 1).toNat) (by omega)
 have ha : (((a + 1).toNat : Nat) : Int) - 1 = a := by omega
 rw [nodesFrom_step hb, ha] at e
 have hi : i.toNat < (gatesM m a).length := by omega
 have g : ((allNodes m).drop (offR m (a + 1).toNat))[i.toNat]? = some (2, a, i) := by
  rw [e, List.getElem?_append_left (by rw [nodesAt_len]; exact hi), nodesAt_get hi, Int.toNat_of_nonneg h3]
 rw [List.getElem?_drop] at g
 have hn : numR m (2, a, i) = i + offR m (a + 1).toNat := rfl
 refine ⟨by rw [hn]; omega, ?_⟩
 rw [hn, show (i + (offR m (a + 1).toNat : Int)).toNat = offR m (a + 1).toNat + i.toNat by omega]
 exact g

theorem uses_lt {m : Md} : ∀ l ∈ usesM m, ∀ k ∈ l, 0 ≤ k ∧ k < ((usesM m).length : Int) := by
 intro l hl k hk
 unfold usesM at hl
 obtain ⟨x, hx, rfl⟩ := List.mem_map.1 hl
 unfold usesAt usesL at hk
 obtain ⟨y, hy, rfl⟩ := List.mem_map.1 hk
 obtain ⟨hy, h2⟩ := List.mem_filter.1 hy
 obtain ⟨s, _, rfl⟩ := List.mem_map.1 hy
 obtain ⟨g1, g2⟩ := num_get (findX_gate (mem_all.1 hx).2.1 (of_decide_eq_true h2))
 have := (List.getElem?_eq_some_iff.1 g2).1
 refine ⟨g1, ?_⟩
 simp only [usesM, List.length_map]
 omega

theorem leRL_false : ∀ (n : Nat), leRL (List.replicate n AV.ff) ((List.replicate n false).map AV.bool)
 | 0 => trivial
 | n + 1 => ⟨rfl, leRL_false n⟩

theorem leRL_set {A : AV} {b : Bool} (h : leR A (.bool b)) : ∀ (d : List Bool) (i : Nat), leRL ((d.map AV.bool).set i A) ((d.set i b).map AV.bool)
 | [], _ => trivial
 | _ :: _, 0 => ⟨h, leRL_refl _⟩
 | x :: d, i + 1 => ⟨leR_refl _, leRL_set h d i⟩

theorem c_cycle (m : Md) (hB : MdB m) (ht : ∀ p : Int, 0 ≤ p → p < (m.pages.length : Int) → atS (pageTop m p) = false) (hn : (usesM m).length ≤ 100000) : FnH Tryz.prog 51 [m.av] [] (.bool (cycU (usesM m))) [] := by
 have cu := c_uses m hB ht _ rfl
 have hlt := uses_lt (m := m)
 refine FnH.intro lay mixed Tryz.func51 (by kernel_rfl) rfl (by kernel_rfl) rfl fun hok => ?_
 (try dsimp only[argC,succC]);(try dsimp only[awp]);conv=>whnf
 refine .pure _ _ ?_ ⟨rfl, rfl⟩ cu fun hoku => ?_
 ·exact leL_refl _
 generalize usesM m = us at *
 (try dsimp only[awp]);conv=>whnf
 rw [show (((us.map zL).length : Nat) : Int) = (us.length : Int) by simp]
 refine ⟨⟨by omega, by omega, by simp; omega, by omega⟩, .wr ?_⟩
 (try dsimp only[awp]);conv=>whnf
 refine LoopE.of <| LoopSpec.inv (.refl _ _) (fun (q : Nat × List Bool) => q.1 ≤ us.length ∧ q.2.length = us.length ∧ roundsD us (us.length - q.1) q.2 = doneD us)
  (fun q => [(19, .int .i64 q.1)]) (fun q => [(1, .arr 1 us.length (q.2.map .bool)), (0, .box m.av)]) (fun q => us.length - q.1) (0, List.replicate us.length false) ?_ (fun _ => rfl) ?_ ?_
 ·exact ⟨Nat.zero_le _, by simp, rfl⟩
 ·refine ⟨?_, .mk ?_ ⟨by simp, by simp, trivial⟩⟩
  ·repeat' first|exact rfl|exact trivial|exact wR|exact lR _|apply aI
  ·repeat' first|exact rfl|exact trivial|exact wR|exact lR _|apply aI
   all_goals first | (simp; done) | exact leRL_false _
 rintro ⟨r, d⟩ ⟨hr, hd, hF⟩ _
 dsimp only at hr hd hF
 (try dsimp only[awp]);conv=>whnf
 refine And.intro (fun h => ?_) (fun h => ?_)
 ·have hrl : r < us.length := by simpa using h
  rw [show us.length - r = (us.length - (r + 1)) + 1 by omega] at hF
  simp only [roundsD] at hF
  clear h
  (try dsimp only[awp]);conv=>whnf
  refine LoopE.of <| LoopSpec.inv (.refl _ _) (fun (q : Nat × List Bool) => q.1 ≤ us.length ∧ q.2.length = us.length ∧ passD 0 us d = passD q.1 (us.drop q.1) q.2)
   (fun q => [(23, .int .i64 q.1)]) (fun q => [(1, .arr 1 us.length (q.2.map .bool)), (0, .box m.av)]) (fun q => us.length - q.1) (0, d) ?_ (fun _ => rfl) ?_ ?_
  ·exact ⟨Nat.zero_le _, hd, rfl⟩
  ·refine ⟨?_, .mk ?_ ⟨by simp, by simp, trivial⟩⟩
   ·repeat' first|exact rfl|exact trivial|exact wR|exact lR _|apply aI
   ·repeat' first|exact rfl|exact trivial|exact wR|exact lR _|apply aI
  rintro ⟨i, d1⟩ ⟨hi, hd1, hP⟩ _
  dsimp only at hi hd1 hP
  (try dsimp only[awp]);conv=>whnf
  refine And.intro (fun h => ?_) (fun h => ?_)
  ·have hil : i < us.length := by simpa using h
   have hul := hlt _ (List.getElem_mem hil)
   have hll : (us[i]).length ≤ 9223372036854775807 := by
    have := OkL_map hoku.2 _ (List.getElem_mem hil)
    simp only [Ok] at this
    simpa [maxL] using this.1
   rw [List.drop_eq_getElem_cons hil] at hP
   simp only [passD] at hP
   (try dsimp only[awp]);conv=>whnf
   refine aidx hil ?_
   generalize us[i] = l at *
   (try dsimp only[awp]);conv=>whnf
   refine LoopE.of <| LoopSpec.inv (.refl _ _) (fun (q : Nat) => q ≤ l.length)
    (fun q => [(30, .int .i64 q), (7, .bool (rdyD d1 (l.take q)))]) (fun q => [(1, .arr 1 us.length (d1.map .bool)), (0, .box m.av)]) (fun q => l.length - q) 0 ?_ (fun _ => rfl) ?_ ?_
   ·exact Nat.zero_le _
   ·refine ⟨?_, .mk ?_ ⟨by simp, by simp, trivial⟩⟩
    ·repeat' first|exact rfl|exact trivial|exact wR|exact lR _|apply aI
    ·repeat' first|exact rfl|exact trivial|exact wR|exact lR _|apply aI
   rintro q hq _
   (try dsimp only[awp]);conv=>whnf
   refine And.intro (fun hh => ?_) (fun hh => ?_)
   ·have hql : q < l.length := by simpa using hh
    have hrt := rdyD_take (d := d1) hql
    have hk := hul _ (List.getElem_mem hql)
    (try dsimp only[awp]);conv=>whnf
    refine aidx hql ?_
    generalize l[q] = k at *
    (try dsimp only[awp]);conv=>whnf
    refine And.intro (fun hy => ?_) (fun hy => ?_)
    ·(try dsimp only[awp]);conv=>whnf
     refine ⟨by simp; omega, ?_⟩
     (try dsimp only[awp]);conv=>whnf
     refine aidxN' false (i := k.toNat) (by simp) (by omega) ?_
     refine ⟨rfl, ?_⟩
     (try dsimp only[awp]);conv=>whnf
     refine zA ?_;conv=>whnf
     refine ⟨q + 1, ?_, ?_, ?_⟩
     ·exact hql
     ·rw [hrt, hy, Bool.true_and]
      refine ⟨?_, .mk ?_ ⟨by simp, by simp, trivial⟩⟩
      ·repeat' first|exact rfl|exact trivial|exact wR|exact lR _|apply aI
      ·repeat' first|exact rfl|exact trivial|exact wR|exact lR _|apply aI
     ·omega
    ·(try dsimp only[awp]);conv=>whnf
     refine zA ?_;conv=>whnf
     refine ⟨q + 1, ?_, ?_, ?_⟩
     ·exact hql
     ·rw [hrt, hy, Bool.false_and]
      refine ⟨?_, .mk ?_ ⟨by simp, by simp, trivial⟩⟩
      ·repeat' first|exact rfl|exact trivial|exact wR|exact lR _|apply aI
      ·repeat' first|exact rfl|exact trivial|exact wR|exact lR _|apply aI
     ·omega
   ·have hql : q = l.length := by have : ¬ q < l.length := by simpa using hh
                                  omega
    subst hql
    rw [List.take_length]
    (try dsimp only[awp]);conv=>whnf
    refine ⟨by simp; omega, ?_⟩
    (try dsimp only[awp]);conv=>whnf
    refine aidxN' false (i := i) (by simp) (by omega) ?_
    refine ⟨rfl, ?_⟩
    (try dsimp only[awp]);conv=>whnf
    refine And.intro (fun hy => ?_) (fun hy => ?_)
    ·(try dsimp only[awp]);conv=>whnf
     refine ⟨by omega, ?_⟩
     (try dsimp only[awp]);conv=>whnf
     refine ⟨by simp; omega, rfl, ?_⟩
     have hsd : stepD d1 i l = d1.set i true := by unfold stepD; rw [hy]; rfl
     (try dsimp only[awp]);conv=>whnf
     refine zA ?_;conv=>whnf
     refine ⟨(i + 1, stepD d1 i l), ?_, ?_, ?_⟩
     ·exact ⟨hil, by show (stepD d1 i l).length = _; rw [stepD_len]; exact hd1, hP⟩
     ·rw [hsd]
      refine ⟨?_, .mk ?_ ⟨by simp, by simp, trivial⟩⟩
      ·repeat' first|exact rfl|exact trivial|exact wR|exact lR _|apply aI
      ·repeat' first|exact rfl|exact trivial|exact wR|exact lR _|apply aI
       all_goals first | (simp; done) | (rw [show 0 + ((i : Nat) : Int).toNat = i by simp]; exact leRL_set (A := .tt) (b := true) rfl d1 i)
     ·show us.length - (i + 1) < us.length - i
      omega
    ·(try dsimp only[awp]);conv=>whnf
     refine ⟨by omega, ?_⟩
     (try dsimp only[awp]);conv=>whnf
     refine ⟨by simp; omega, rfl, ?_⟩
     have hsd : stepD d1 i l = d1.set i (rdyD d1 l) := by unfold stepD; rw [hy]; rw [Bool.false_or]
     (try dsimp only[awp]);conv=>whnf
     refine zA ?_;conv=>whnf
     refine ⟨(i + 1, stepD d1 i l), ?_, ?_, ?_⟩
     ·exact ⟨hil, by show (stepD d1 i l).length = _; rw [stepD_len]; exact hd1, hP⟩
     ·rw [hsd]
      refine ⟨?_, .mk ?_ ⟨by simp, by simp, trivial⟩⟩
      ·repeat' first|exact rfl|exact trivial|exact wR|exact lR _|apply aI
      ·repeat' first|exact rfl|exact trivial|exact wR|exact lR _|apply aI
       all_goals first | (simp; done) | (rw [show 0 + ((i : Nat) : Int).toNat = i by simp]; exact leRL_set (A := .bool (rdyD d1 l)) (b := (rdyD d1 l)) rfl d1 i)
     ·show us.length - (i + 1) < us.length - i
      omega
  have hil : i = us.length := by have : ¬ i < us.length := by simpa using h
                                 omega
  rw [List.drop_eq_nil_of_le (by omega)] at hP
  simp only [passD] at hP
  rw [hP] at hF
  (try dsimp only[awp]);conv=>whnf
  refine zA ?_;conv=>whnf
  refine ⟨(r + 1, d1), ?_, ?_, ?_⟩
  ·exact ⟨hrl, hd1, hF⟩
  ·refine ⟨?_, .mk ?_ ⟨by simp, by simp, trivial⟩⟩
   ·repeat' first|exact rfl|exact trivial|exact wR|exact lR _|apply aI
   ·repeat' first|exact rfl|exact trivial|exact wR|exact lR _|apply aI
  ·show us.length - (r + 1) < us.length - r
   omega
 have hrl : r = us.length := by have : ¬ r < us.length := by simpa using h
                                omega
 rw [hrl, Nat.sub_self] at hF
 simp only [roundsD] at hF
 have hcy : cycU us = d.any fun b => !b := by unfold cycU; rw [hF]
 rw [hcy]
 clear h
 (try dsimp only[awp]);conv=>whnf
 refine LoopE.of <| LoopSpec.inv (.refl _ _) (fun (q : Nat) => q ≤ us.length ∧ ∀ (z : Nat) (hz : z < d.length), z < q → d[z] = true)
  (fun q => [(56, .int .i64 q)]) (fun q => [(1, .arr 1 us.length (d.map .bool)), (0, .box m.av)]) (fun q => us.length - q) 0 ?_ (fun _ => rfl) ?_ ?_
 ·exact ⟨Nat.zero_le _, by omega⟩
 ·refine ⟨?_, .mk ?_ ⟨by simp, by simp, trivial⟩⟩
  ·repeat' first|exact rfl|exact trivial|exact wR|exact lR _|apply aI
  ·repeat' first|exact rfl|exact trivial|exact wR|exact lR _|apply aI
 rintro q ⟨hq, hz⟩ _
 (try dsimp only[awp]);conv=>whnf
 refine And.intro (fun hh => ?_) (fun hh => ?_)
 ·have hql : q < us.length := by simpa using hh
  have hqd : q < d.length := by omega
  (try dsimp only[awp]);conv=>whnf
  refine ⟨by omega, ?_⟩
  (try dsimp only[awp]);conv=>whnf
  refine aidxN' false (i := q) (by simp) hqd ?_
  refine ⟨rfl, ?_⟩
  rw [getD_lt' hqd]
  (try dsimp only[awp]);conv=>whnf
  refine And.intro (fun hy => ?_) (fun hy => ?_)
  ·rw [show (d.any fun b => !b) = true from List.any_eq_true.2 ⟨d[q], List.getElem_mem hqd, by simpa using hy⟩]
   (try dsimp only[awp]);conv=>whnf
   refine fM ?_;(conv=>whnf);refine ⟨?_,rfl⟩;conv=>whnf
   repeat' first|exact rfl|exact trivial|exact wR|exact lR _|apply aI
  ·(try dsimp only[awp]);conv=>whnf
   refine zA ?_;conv=>whnf
   refine ⟨q + 1, ?_, ?_, ?_⟩
   ·refine ⟨hql, fun z hz1 hzq => ?_⟩
    by_cases e : z = q
    ·subst e; simpa using hy
    ·exact hz z hz1 (by omega)
   ·refine ⟨?_, .mk ?_ ⟨by simp, by simp, trivial⟩⟩
    ·repeat' first|exact rfl|exact trivial|exact wR|exact lR _|apply aI
    ·repeat' first|exact rfl|exact trivial|exact wR|exact lR _|apply aI
   ·omega
 have hql : q = us.length := by have : ¬ q < us.length := by simpa using hh
                                omega
 rw [show (d.any fun b => !b) = false from List.any_eq_false.2 fun b hb => by
  obtain ⟨z, hz1, rfl⟩ := List.getElem_of_mem hb
  simp [hz z hz1 (by omega)]]
 (try dsimp only[awp]);conv=>whnf
 refine fM ?_;(conv=>whnf);refine ⟨?_,rfl⟩;conv=>whnf
 repeat' first|exact rfl|exact trivial|exact wR|exact lR _|apply aI

theorem findR_res {m : Md} {a : Int} {s : Str} (h : okN m (resOn m a s)) : findR m a s = resOn m a s := by
 unfold findR
 by_cases h1 : 0 ≤ i_event m.evs s
 ·rw [if_pos h1]; unfold resOn; rw [if_pos h1]
 by_cases h2 : 0 ≤ i_house m.hs s
 ·rw [if_neg h1, if_pos h2]; unfold resOn; rw [if_neg h1, if_pos h2]
 have e : resOn m a s = (2, a, i_gate (gatesM m a) s) := by unfold resOn; rw [if_neg h1, if_neg h2]
 rw [e] at h ⊢
 have h3 : 0 ≤ i_gate (gatesM m a) s := by
  rcases h with h | h | h
  ·exact absurd (show (2 : Int) = 0 from h.1) (by decide)
  ·exact absurd (show (2 : Int) = 1 from h.1) (by decide)
  ·exact (mem_all.1 h).2.2.1
 rw [if_neg h1, if_neg h2, if_pos h3]

theorem find_res {m : Md} {a : Int} {s : Str} (h : okN m (resR m a s)) (hp : atS s = true → 0 ≤ i_page m.pages (s.drop 1)) : findX m a s = resR m a s := by
 unfold findX
 by_cases e : atS s = true
 ·have hr : resR m a s = resOn m (i_page m.pages (s.drop 1)) (pageTop m (i_page m.pages (s.drop 1))) := if_pos e
  have := hp e
  rw [hr] at h ⊢
  rw [if_pos e, if_neg (by omega), findR_res h]
 ·have hr : resR m a s = resOn m a s := if_neg e
  rw [hr] at h ⊢
  rw [if_neg e, findR_res h]

theorem uses_kids {m : Md} (hc : ClosedM m) {x : Node} (hx : x ∈ allNodes m) : usesAt m x = ((kidsM m x).filter fun y => decide (y.1 = 2)).map (numR m) := by
 unfold usesAt usesL kidsM
 have : (gateAt m x).ins.map (findX m x.2.1) = (gateAt m x).ins.map (resR m x.2.1) := List.map_congr_left fun s hs => find_res (hc x hx s hs).2.2 (hc x hx s hs).2.1
 rw [this]

def LeD (d e : List Bool) : Prop := ∀ i : Nat, d.getD i false = true → e.getD i false = true

theorem LeD.refl (d : List Bool) : LeD d d := fun _ h => h
theorem LeD.trans {a b c : List Bool} (h : LeD a b) (g : LeD b c) : LeD a c := fun i e => g i (h i e)

theorem getD_set {d : List Bool} {i j : Nat} {b : Bool} : (d.set i b).getD j false = if i = j ∧ j < d.length then b else d.getD j false := by
 rw [List.getD_eq_getElem?_getD, List.getElem?_set, List.getD_eq_getElem?_getD]
 by_cases e : i = j
 ·subst e
  by_cases h : i < d.length
  ·simp [h]
  ·simp [h]
 ·simp [e]

theorem rdyD_le {d e : List Bool} (h : LeD d e) {l : List Int} (hr : rdyD d l = true) : rdyD e l = true := by
 unfold rdyD at hr ⊢
 exact List.all_eq_true.2 fun k hk => h _ (List.all_eq_true.1 hr k hk)

theorem stepD_le {d : List Bool} {i : Nat} {l : List Int} : LeD d (stepD d i l) := by
 intro j h
 unfold stepD
 rw [getD_set]
 split
 ·rename_i e; rw [e.1, h, Bool.true_or]
 ·exact h

theorem passD_le : ∀ (us : List (List Int)) (i : Nat) (d : List Bool), LeD d (passD i us d)
 | [], _, d => .refl d
 | l :: us, i, d => stepD_le.trans (passD_le us (i + 1) _)

theorem passD_len : ∀ (us : List (List Int)) (i : Nat) (d : List Bool), (passD i us d).length = d.length
 | [], _, _ => rfl
 | l :: us, i, d => by simp only [passD]; rw [passD_len us, stepD_len]

theorem pass_ready : ∀ (us : List (List Int)) (j : Nat) (d : List Bool) (k : Nat) (h : k < us.length), j + k < d.length → rdyD d us[k] = true → (passD j us d).getD (j + k) false = true
 | [], _, _, _, h, _, _ => absurd h (by simp)
 | l :: us, j, d, 0, _, hd, hr => by
   simp only [passD]
   refine passD_le us (j + 1) _ _ ?_
   unfold stepD
   rw [getD_set, if_pos ⟨rfl, hd⟩]
   have hr : rdyD d l = true := hr
   rw [hr, Bool.or_true]
 | l :: us, j, d, k + 1, h, hd, hr => by
   simp only [passD]
   have := pass_ready us (j + 1) (stepD d j l) k (by simpa using h) (by rw [stepD_len]; omega) (rdyD_le stepD_le hr)
   rw [show j + (k + 1) = j + 1 + k by omega]
   exact this

theorem cnt_lt : ∀ (d e : List Bool), d.length = e.length → LeD d e → e.count false ≤ d.count false ∧ ((∃ i : Nat, i < d.length ∧ d.getD i false = false ∧ e.getD i false = true) → e.count false < d.count false)
 | [], [], _, _ => ⟨Nat.le_refl _, by rintro ⟨i, h, _⟩; simp at h⟩
 | [], _ :: _, h, _ => by simp at h
 | _ :: _, [], h, _ => by simp at h
 | x :: d, y :: e, h, hl => by
   obtain ⟨h1, h2⟩ := cnt_lt d e (by simpa using h) fun i hi => by simpa using hl (i + 1) (by simpa using hi)
   have h0 : x = true → y = true := fun hx => by simpa using hl 0 (by simpa using hx)
   simp only [List.count_cons]
   refine ⟨?_, ?_⟩
   ·cases x <;> cases y <;> simp_all <;> omega
   ·rintro ⟨i, hi, hd, he⟩
    cases i with
    | zero =>
      have hd : x = false := by simpa using hd
      have he : y = true := by simpa using he
      subst hd; subst he
      simp; omega
    | succ i =>
      have h3 := h2 ⟨i, by simpa using hi, by simpa using hd, by simpa using he⟩
      cases x <;> cases y <;> simp_all <;> omega

theorem ready_min {us : List (List Int)} {d : List Bool} {rk : Nat → Nat} (hrk : ∀ (i : Nat) (h : i < us.length), ∀ k ∈ us[i], k.toNat < us.length ∧ rk k.toNat < rk i) :
  ∀ (R i : Nat), i < us.length → rk i ≤ R → d.getD i false = false → ∃ (j : Nat) (h : j < us.length), d.getD j false = false ∧ rdyD d us[j] = true
 | R, i, hi, hR, hd => by
   by_cases hr : rdyD d us[i] = true
   ·exact ⟨i, hi, hd, hr⟩
   have : ∃ k ∈ us[i], d.getD k.toNat false = false := by
    unfold rdyD at hr
    rw [Bool.not_eq_true, List.all_eq_false] at hr
    obtain ⟨k, hk, h⟩ := hr
    exact ⟨k, hk, by simpa using h⟩
   obtain ⟨k, hk, hkd⟩ := this
   obtain ⟨h1, h2⟩ := hrk i hi k hk
   match R, hR with
   | 0, hR => omega
   | R + 1, hR => exact ready_min hrk R k.toNat h1 (by omega) hkd

theorem count_pos {d : List Bool} (h : d.count false ≠ 0) : ∃ i : Nat, i < d.length ∧ d.getD i false = false := by
 have : false ∈ d := List.count_pos_iff.1 (by omega)
 obtain ⟨i, hi, e⟩ := List.getElem_of_mem this
 exact ⟨i, hi, by rw [getD_lt' hi]; exact e⟩

theorem rounds_cnt {us : List (List Int)} {rk : Nat → Nat} (hrk : ∀ (i : Nat) (h : i < us.length), ∀ k ∈ us[i], k.toNat < us.length ∧ rk k.toNat < rk i) :
  ∀ (r : Nat) (d : List Bool), d.length = us.length → d.count false ≤ r → (roundsD us r d).count false = 0
 | 0, d, _, h => by simp only [roundsD]; omega
 | r + 1, d, hd, h => by
   simp only [roundsD]
   refine rounds_cnt hrk r _ (by rw [passD_len]; exact hd) ?_
   obtain ⟨h1, h2⟩ := cnt_lt d (passD 0 us d) (passD_len us 0 d).symm (passD_le us 0 d)
   by_cases h0 : d.count false = 0
   ·omega
   obtain ⟨i, hi, hid⟩ := count_pos h0
   obtain ⟨j, hj, hjd, hjr⟩ := ready_min hrk (rk i) i (by omega) (Nat.le_refl _) hid
   have := h2 ⟨j, by omega, hjd, by have := pass_ready us 0 d j hj (by omega) hjr; rwa [Nat.zero_add] at this⟩
   omega

theorem cycU_false {us : List (List Int)} {rk : Nat → Nat} (hrk : ∀ (i : Nat) (h : i < us.length), ∀ k ∈ us[i], k.toNat < us.length ∧ rk k.toNat < rk i) : cycU us = false := by
 have := rounds_cnt hrk us.length (List.replicate us.length false) (by simp) (by rw [List.count_replicate_self]; exact Nat.le_refl _)
 unfold cycU doneD
 rw [List.any_eq_false]
 intro b hb
 have h0 := List.count_eq_zero.1 this
 cases b
 ·exact absurd hb h0
 ·simp

def InvD (us : List (List Int)) (d : List Bool) : Prop := ∃ rk : Nat → Nat, ∀ i, d.getD i false = true → ∀ k ∈ us.getD i [], d.getD k.toNat false = true ∧ rk k.toNat < rk i

theorem sumI_ge {rk : Nat → Nat} : ∀ {l : List Int} {k : Int}, k ∈ l → rk k.toNat ≤ (l.map fun k => rk k.toNat).sum
 | [], _, h => by simp at h
 | x :: l, k, h => by
   simp only [List.map_cons, List.sum_cons]
   rcases List.mem_cons.1 h with rfl | h
   ·omega
   ·have := sumI_ge (rk := rk) h; omega

theorem InvD.step {us : List (List Int)} {d : List Bool} (h : InvD us d) {i : Nat} {l : List Int} (hl : us.getD i [] = l) : InvD us (stepD d i l) := by
 obtain ⟨rk, hr⟩ := h
 by_cases h0 : d.getD i false = false ∧ rdyD d l = true
 ·obtain ⟨h1, h2⟩ := h0
  have hne : ∀ j, d.getD j false = true → j ≠ i := fun j hj e => by rw [e, h1] at hj; cases hj
  refine ⟨fun j => if j = i then 1 + (l.map fun k => rk k.toNat).sum else rk j, fun j hj k hk => ?_⟩
  by_cases e : j = i
  ·subst e
   rw [hl] at hk
   have hkd := List.all_eq_true.1 h2 k hk
   refine ⟨stepD_le _ hkd, ?_⟩
   dsimp only
   rw [if_neg (hne _ hkd), if_pos rfl]
   have := sumI_ge (rk := rk) hk
   omega
  ·have hj : d.getD j false = true := by
    unfold stepD at hj
    rw [getD_set, if_neg (fun h => e h.1.symm)] at hj
    exact hj
   obtain ⟨g1, g2⟩ := hr j hj k hk
   refine ⟨stepD_le _ g1, ?_⟩
   dsimp only
   rw [if_neg (hne _ g1), if_neg e]
   exact g2
 ·have heq : ∀ j, (stepD d i l).getD j false = d.getD j false := by
   intro j
   unfold stepD
   rw [getD_set]
   split
   ·rename_i e
    obtain ⟨rfl, _⟩ := e
    cases h1 : d.getD i false
    ·cases h2 : rdyD d l
     ·rfl
     ·exact absurd ⟨h1, h2⟩ h0
    ·rfl
   ·rfl
  refine ⟨rk, fun j hj k hk => ?_⟩
  rw [heq] at hj
  rw [heq]
  exact hr j hj k hk

theorem InvD.pass {us : List (List Int)} : ∀ (l : List (List Int)) (i : Nat) (d : List Bool), us.drop i = l → InvD us d → InvD us (passD i l d)
 | [], _, _, _, h => h
 | x :: l, i, d, hl, h => by
   simp only [passD]
   have h1 : us[i]? = some x := by rw [← List.head?_drop, hl]; rfl
   have h2 : us.drop (i + 1) = l := by rw [← List.tail_drop, hl]; rfl
   exact InvD.pass l (i + 1) _ h2 (h.step (by rw [List.getD_eq_getElem?_getD, h1]; rfl))

theorem InvD.rounds {us : List (List Int)} : ∀ (r : Nat) (d : List Bool), InvD us d → InvD us (roundsD us r d)
 | 0, _, h => h
 | r + 1, d, h => by simp only [roundsD]; exact InvD.rounds r _ (InvD.pass us 0 d rfl h)

theorem roundsD_len {us : List (List Int)} : ∀ (r : Nat) (d : List Bool), (roundsD us r d).length = d.length
 | 0, _ => rfl
 | r + 1, d => by simp only [roundsD]; rw [roundsD_len r, passD_len]

theorem cycU_rank {us : List (List Int)} (h : cycU us = false) : ∃ rk : Nat → Nat, ∀ i, i < us.length → ∀ k ∈ us.getD i [], rk k.toNat < rk i := by
 obtain ⟨rk, hr⟩ := InvD.rounds us.length (List.replicate us.length false) (us := us) ⟨fun _ => 0, fun i hi => by
  exfalso
  rw [List.getD_eq_getElem?_getD, List.getElem?_replicate] at hi
  split at hi <;> simp at hi⟩
 refine ⟨rk, fun i hi k hk => (hr i ?_ k hk).2⟩
 unfold cycU doneD at h
 have hlen : (roundsD us us.length (List.replicate us.length false)).length = us.length := by rw [roundsD_len]; simp
 rw [List.any_eq_false] at h
 rw [getD_lt' (by omega)]
 simpa using h _ (List.getElem_mem (by omega))

theorem cyc_of_rank {m : Md} (hc : ClosedM m) {rank : Node → Nat} (hr : RankM m rank) : cycR m = false := by
 unfold cycR
 have key : ∀ (l : List Node) (s : WS Unit), (∀ y ∈ l, okN m y) → (∀ z, look s.es z ≠ 1) → (kidsF (walk0 m) l s).1 = false := by
  intro l
  induction l with
  | nil => intro s _ _; rfl
  | cons y l ih =>
    intro s hl hs
    obtain ⟨w1, w2⟩ := walk_false (step := fun (_ : Unit) _ => ()) (okN m) (fun x hx h2 => (okN_kids hc hx h2).2) rank hr (fuelM m) y s (hl y (by simp)) (fun _ z hz => absurd hz (hs z))
    simp only [kidsF]
    rw [if_neg (by show ¬ (walkF (kidsM m) (fun _ _ => ()) (fuelM m) y s).1 = true; rw [w1]; simp)]
    exact ih _ (fun z hz => hl z (by simp [hz])) fun z hz => hs z (w2 z hz)
 exact key _ _ (fun y hy => .inr (.inr hy)) fun z => by simp [look]

theorem uses_get {m : Md} {x : Node} (hx : x ∈ allNodes m) : (usesM m).getD (numR m x).toNat [] = usesAt m x := by
 obtain ⟨_, h⟩ := num_get hx
 unfold usesM
 rw [List.getD_eq_getElem?_getD, List.getElem?_map, h]; rfl

theorem cyc_eq {m : Md} (hc : ClosedM m) : cycU (usesM m) = cycR m := by
 cases h : cycR m
 ·obtain ⟨rank, hr⟩ := cyc_rank hc h
  refine cycU_false (rk := fun i => rank ((allNodes m).getD i default)) fun i hi k hk => ?_
  have hiN : i < (allNodes m).length := by simpa [usesM] using hi
  have hx := List.getElem_mem hiN
  have hui : (usesM m)[i] = usesAt m (allNodes m)[i] := by simp [usesM]
  rw [hui, uses_kids hc hx] at hk
  obtain ⟨y, hy, rfl⟩ := List.mem_map.1 hk
  obtain ⟨hy, h2⟩ := List.mem_filter.1 hy
  have h2 : y.1 = 2 := of_decide_eq_true h2
  have hyo := (okN_kids hc (.inr (.inr hx)) (mem_all.1 hx).1).2 y hy
  obtain ⟨g1, g2⟩ := num_get (okN_kids hc hyo h2).1
  have g3 := (List.getElem?_eq_some_iff.1 g2).1
  refine ⟨by simpa [usesM] using g3, ?_⟩
  rw [getD_lt' hiN, List.getD_eq_getElem?_getD, g2]
  exact hr _ (.inr (.inr hx)) (mem_all.1 hx).1 y hy h2
 ·cases h2 : cycU (usesM m)
  ·exfalso
   obtain ⟨rk, hr⟩ := cycU_rank h2
   have : cycR m = false := cyc_of_rank hc (rank := fun x => rk (numR m x).toNat) fun x hx hx2 y hy hy2 => by
    have hxm := (okN_kids hc hx hx2).1
    obtain ⟨_, g2⟩ := num_get hxm
    have g3 := (List.getElem?_eq_some_iff.1 g2).1
    refine hr (numR m x).toNat (by simpa [usesM] using g3) (numR m y) ?_
    rw [uses_get hxm, uses_kids hc hxm]
    exact List.mem_map.2 ⟨y, List.mem_filter.2 ⟨hy, by simpa using hy2⟩, rfl⟩
   rw [this] at h; cases h
  ·rfl

theorem MdX.gatesM {m : Md} (hX : MdX m) {a : Int} (ha : a = -1 ∨ (0 ≤ a ∧ a < (m.pages.length : Int))) : ∀ x ∈ gatesM m a, shortX x.dorm := by
 unfold S.gatesM
 split
 ·exact hX.gates
 ·exact hX.pages _ (getD_mem (by omega))

theorem top_noAt {m : Md} (h1 : eventsErr m = 0) (h2 : gatesErrAll m = 0) (h3 : insAll m (atsM m) [] = 0) : ∀ p : Int, 0 ≤ p → p < (m.pages.length : Int) → atS (pageTop m p) = false := by
 intro p hp0 hp1
 have hp : p = -1 ∨ (0 ≤ p ∧ p < (m.pages.length : Int)) := .inr ⟨hp0, hp1⟩
 obtain ⟨sp, hs⟩ := insAll_in h3 p (ats_mem.2 hp)
 rcases (pageIns_in hs).2 (by omega) with h | h
 ·obtain ⟨i, hi, _, e⟩ := idx_name h
  have := gatesErrAll_zero h2 hp i hi
  unfold gateErrM at this
  split at this
  ·cases this
  rename_i g
  rw [← e]
  exact name_noAt (by simpa using g)
 ·obtain ⟨i, hi, _, e⟩ := idx_name h
  have := (eventsErr_zero h1).2.2.1 i hi
  unfold evErr at this
  split at this
  ·cases this
  rename_i g
  rw [← e]
  exact name_noAt (by simpa using g)

theorem uses_short {m : Md} (hB : MdB m) : (usesM m).length ≤ 100000 := by
 have e := drop_off (m := m) (k := m.pages.length + 1) (Nat.le_refl _)
 rw [nodesFrom_end (Nat.le_refl _)] at e
 have := List.drop_eq_nil_iff.1 e
 have := offR_le hB (k := m.pages.length + 1) (Nat.le_refl _)
 have := hB.pages
 simp only [usesM, List.length_map]
 omega

theorem checkM_first (m : Md) : checkM m = if firstR m ≠ 0 then firstR m else if gatesErrAll m ≠ 0 then gatesErrAll m else if inputsR m ≠ 0 then inputsR m
  else if groupsErr m ≠ 0 then groupsErr m else if phasesErr m ≠ 0 then phasesErr m else if cycR m = true then 14 else 0 := by
 unfold checkM firstR inputsR
 by_cases h1 : nameR m.name = false
 ·rw [if_pos h1, if_pos h1, if_pos (by decide)]
 rw [if_neg h1, if_neg h1]
 by_cases h2 : eventsErr m ≠ 0
 ·rw [if_pos h2, if_pos h2, if_pos h2]
 rw [if_neg h2, if_neg h2]
 by_cases h3 : pagesErr m ≠ 0
 ·rw [if_pos h3, if_pos h3]
 rw [if_neg h3, if_neg h3]
 by_cases h4 : gatesErrAll m ≠ 0
 ·rw [if_pos h4, if_pos h4]
 rw [if_neg h4, if_neg h4]
 by_cases h5 : insAll m (atsM m) [] ≠ 0
 ·rw [if_pos h5, if_pos h5, if_pos h5]
 rw [if_neg h5, if_neg h5]
 by_cases h6 : isInR m (-1) m.top = false
 ·rw [if_pos h6, if_pos h6, if_pos (by decide)]
 ·rw [if_neg h6, if_neg h6, if_neg (show ¬ (0 : Int) ≠ 0 by decide)]

theorem first_zero {m : Md} (h : firstR m = 0) : eventsErr m = 0 := by
 unfold firstR at h
 split at h
 ·cases h
 split at h
 ·rename_i h1; exact absurd h h1
 ·rename_i h1; simpa using h1

theorem c_refCheck (h1c : OneC) (m : Md) (hX : MdX m) (hB : MdB m) (R : AV) (hR : R = .int .i64 (checkM m)) : FnH Tryz.prog 15 [m.av] [] R [] := by
 have hpl := hB.pages
 have cf := c_first h1c m hX hB _ rfl
 have ci := c_inputs m hB _ rfl
 have cg := c_groups h1c m hX hB _ rfl
 have cp := c_phases h1c m hX hB _ rfl
 refine FnH.intro lay mixed Tryz.func15 (by kernel_rfl) rfl (by kernel_rfl) rfl fun hok => ?_
 (try dsimp only[argC,succC]);(try dsimp only[awp]);conv=>whnf
 refine .pure _ _ ?_ ⟨rfl, rfl⟩ cf fun _ => ?_
 ·exact leL_refl _
 (try dsimp only[awp]);conv=>whnf
 refine And.intro (fun g1 => ?_) (fun g1 => ?_)
 ·obtain rfl : R = .int .i64 (firstR m) := by rw [hR, checkM_first]; rw [if_pos g1]
  (try dsimp only[awp]);conv=>whnf
  refine fM ?_;(conv=>whnf);refine ⟨?_,rfl⟩;conv=>whnf
  repeat' first|exact rfl|exact trivial|exact wR|exact lR _|apply aI
 have z1 : firstR m = 0 := by simpa using g1
 (try dsimp only[awp]);conv=>whnf
 refine LoopE.of <| LoopSpec.inv (.refl _ _) (fun (k : Nat) => k ≤ m.pages.length + 1 ∧ gatesErrAll m = errL (fun _ a => errL (gateErrM m a) 0 (gatesM m a)) k ((atsM m).drop k)) (fun (k : Nat) => [(4, .int .i64 ((k : Int) - 1))]) (fun _ => _) (fun (k : Nat) => m.pages.length + 1 - k) 0 ?_ (fun _ => rfl) ?_ ?_
 ·exact ⟨Nat.zero_le _, rfl⟩
 ·repeat' first|exact rfl|exact trivial|exact wR|exact lR _|apply aI
 rintro k ⟨hk, hn⟩ _
 (try dsimp only[awp]);conv=>whnf
 refine And.intro (fun h => ?_) (fun h => ?_)
 ·have hkl : k < m.pages.length + 1 := by simp only [List.length_map] at h; omega
  have ha : (k : Int) - 1 = -1 ∨ (0 ≤ (k : Int) - 1 ∧ (k : Int) - 1 < (m.pages.length : Int)) := by omega
  rw [drop_of_get? (ats_get hkl)] at hn
  simp only [errL] at hn
  have cG := c_rGates m _ ha
  have hXa := hX.gatesM ha
  have cs := fun i hi => c_shape h1c m ((k : Int) - 1) i ha hi (hXa _ (List.getElem_mem hi)) _ rfl
  have hBa := (hB.gatesM ha).1
  clear h
  generalize hage : (k : Int) - 1 = a at *
  (try dsimp only[awp]);conv=>whnf
  refine .pure _ _ ?_ ⟨rfl, rfl⟩ cG fun _ => ?_
  ·exact leL_refl _
  (try dsimp only[awp]);conv=>whnf
  refine LoopE.of <| LoopSpec.inv (.refl _ _) (fun (i : Nat) => i ≤ (gatesM m a).length ∧ errL (gateErrM m a) 0 (gatesM m a) = errL (gateErrM m a) i ((gatesM m a).drop i)) (fun (i : Nat) => [(25, .int .i64 i)]) (fun _ => _) (fun (i : Nat) => (gatesM m a).length - i) 0 ?_ (fun _ => rfl) ?_ ?_
  ·exact ⟨Nat.zero_le _, rfl⟩
  ·repeat' first|exact rfl|exact trivial|exact wR|exact lR _|apply aI
  rintro i ⟨hi, hni⟩ _
  (try dsimp only[awp]);conv=>whnf
  refine And.intro (fun h => ?_) (fun h => ?_)
  ·have hil : i < (gatesM m a).length := by simpa using h
   have cs := cs i hil
   rw [errL_step hil] at hni
   clear h
   generalize gateErrM m a i (gatesM m a)[i] = e at *
   (try dsimp only[awp]);conv=>whnf
   refine .pure _ _ ?_ ⟨rfl, rfl⟩ cs fun _ => ?_
   ·exact leL_refl _
   (try dsimp only[awp]);conv=>whnf
   refine And.intro (fun g2 => ?_) (fun g2 => ?_)
   ·rw [if_pos g2] at hni
    rw [hni, if_pos g2] at hn
    obtain rfl : R = .int .i64 (e) := by rw [hR, checkM_first]; rw [if_neg g1, hn, if_pos g2]
    (try dsimp only[awp]);conv=>whnf
    refine fM ?_;(conv=>whnf);refine ⟨?_,rfl⟩;conv=>whnf
    repeat' first|exact rfl|exact trivial|exact wR|exact lR _|apply aI
   ·rw [if_neg g2] at hni
    (try dsimp only[awp]);conv=>whnf
    refine zA ?_;conv=>whnf
    refine ⟨i + 1, ?_, ?_, ?_⟩
    ·exact ⟨hil, hni⟩
    ·repeat' first|exact rfl|exact trivial|exact wR|exact lR _|apply aI
    ·omega
  have hil : i = (gatesM m a).length := by have : ¬ i < (gatesM m a).length := by simpa using h
                                           omega
  rw [errL_end (by omega)] at hni
  rw [hni, if_neg (by simp)] at hn
  (try dsimp only[awp]);conv=>whnf
  refine zA ?_;conv=>whnf
  refine ⟨k + 1, ?_, ?_, ?_⟩
  ·exact ⟨hkl, hn⟩
  ·refine ⟨?_, .mk ?_ ⟨by simp, trivial⟩⟩
   ·repeat' first|exact rfl|exact trivial|exact wR|exact lR _|apply aI
    all_goals (show _ = _; congr 1 <;> omega)
   ·repeat' first|exact rfl|exact trivial|exact wR|exact lR _|apply aI
  ·omega
 have hkl : m.pages.length + 1 ≤ k := by simp only [List.length_map] at h; omega
 rw [List.drop_eq_nil_of_le (by rw [ats_len]; omega)] at hn
 simp only [errL] at hn
 have g2 : ¬ gatesErrAll m ≠ 0 := by rw [hn]; simp
 have z2 := hn
 clear h hn hk hkl
 have hck := checkM_first m
 rw [if_neg g1, if_neg g2] at hck
 have hz : inputsR m = 0 → eventsErr m = 0 ∧ insAll m (atsM m) [] = 0 := by
  intro h
  refine ⟨first_zero z1, ?_⟩
  unfold inputsR at h
  split at h
  ·rename_i h1; exact absurd h h1
  ·rename_i h1; simpa using h1
 generalize inputsR m = e1 at *
 generalize groupsErr m = e2 at *
 generalize phasesErr m = e3 at *
 (try dsimp only[awp]);conv=>whnf
 refine ADraw.auto (by kernel_rfl) ?_;conv=>whnf
 refine ACallP.pure _ _ ?_ ⟨rfl, rfl⟩ ci ?_
 ·exact leL_refl _
 (try dsimp only[awp]);conv=>whnf
 refine ACallP.pure _ _ ?_ ⟨rfl, rfl⟩ cg ?_
 ·exact leL_refl _
 (try dsimp only[awp]);conv=>whnf
 refine ACallP.pure _ _ ?_ ⟨rfl, rfl⟩ cp ?_
 ·exact leL_refl _
 (try dsimp only[awp]);conv=>whnf
 refine LoopE.step 4 ?_
 (try dsimp only[awp]);conv=>whnf
 refine And.intro (fun _ => ?_) (fun h => absurd (by simp) h)
 (try dsimp only[awp]);conv=>whnf
 refine AIdx.mk ⟨_, ⟨by decide, rfl⟩, ?_⟩
 (try dsimp only[awp]);conv=>whnf
 refine And.intro (fun g => ?_) (fun g => ?_)
 ·obtain rfl : R = .int .i64 e1 := by rw [hR]; rw [hck, if_pos g]
  (try dsimp only[awp]);conv=>whnf
  refine fM ?_;(conv=>whnf);refine ⟨?_,rfl⟩;conv=>whnf
  repeat' first|exact rfl|exact trivial|exact wR|exact lR _|apply aI
 rw [if_neg g] at hck
 have z5 : e1 = 0 := by simpa using g
 clear g
 (try dsimp only[awp]);conv=>whnf
 refine zA ?_;conv=>whnf
 (try dsimp only[awp]);conv=>whnf
 refine And.intro (fun _ => ?_) (fun h => absurd (by simp) h)
 (try dsimp only[awp]);conv=>whnf
 refine AIdx.mk ⟨_, ⟨by decide, rfl⟩, ?_⟩
 (try dsimp only[awp]);conv=>whnf
 refine And.intro (fun g => ?_) (fun g => ?_)
 ·obtain rfl : R = .int .i64 e2 := by rw [hR]; rw [hck, if_pos g]
  (try dsimp only[awp]);conv=>whnf
  refine fM ?_;(conv=>whnf);refine ⟨?_,rfl⟩;conv=>whnf
  repeat' first|exact rfl|exact trivial|exact wR|exact lR _|apply aI
 rw [if_neg g] at hck
 clear g
 (try dsimp only[awp]);conv=>whnf
 refine zA ?_;conv=>whnf
 (try dsimp only[awp]);conv=>whnf
 refine And.intro (fun _ => ?_) (fun h => absurd (by simp) h)
 (try dsimp only[awp]);conv=>whnf
 refine AIdx.mk ⟨_, ⟨by decide, rfl⟩, ?_⟩
 (try dsimp only[awp]);conv=>whnf
 refine And.intro (fun g => ?_) (fun g => ?_)
 ·obtain rfl : R = .int .i64 e3 := by rw [hR]; rw [hck, if_pos g]
  (try dsimp only[awp]);conv=>whnf
  refine fM ?_;(conv=>whnf);refine ⟨?_,rfl⟩;conv=>whnf
  repeat' first|exact rfl|exact trivial|exact wR|exact lR _|apply aI
 rw [if_neg g] at hck
 clear g
 (try dsimp only[awp]);conv=>whnf
 refine zA ?_;conv=>whnf
 refine And.intro (fun h => absurd h (by simp)) (fun _ => ?_)
 obtain ⟨zE, zI⟩ := hz z5
 have hnA := top_noAt zE z2 zI
 have cc := c_cycle m hB hnA (uses_short hB)
 rw [cyc_eq (closed_of zE z2 zI)] at cc
 generalize cycR m = cy at *
 (try dsimp only[awp]);conv=>whnf
 refine .pure _ _ ?_ ⟨rfl, rfl⟩ cc fun _ => ?_
 ·exact leL_refl _
 (try dsimp only[awp]);conv=>whnf
 refine And.intro (fun g => ?_) (fun g => ?_)
 ·obtain rfl : R = .int .i64 14 := by rw [hR, hck, if_pos g]
  (try dsimp only[awp]);conv=>whnf
  refine fM ?_;(conv=>whnf);refine ⟨?_,rfl⟩;conv=>whnf
  repeat' first|exact rfl|exact trivial|exact wR|exact lR _|apply aI
 ·obtain rfl : R = .int .i64 0 := by rw [hR, hck, if_neg (by simpa using g)]
  (try dsimp only[awp]);conv=>whnf
  refine fM ?_;(conv=>whnf);refine ⟨?_,rfl⟩;conv=>whnf
  repeat' first|exact rfl|exact trivial|exact wR|exact lR _|apply aI
end S

open Go Go.AL Go.Proofs
namespace Go.AL
section
variable {P : Program} {ops : Array Oper} {Q : Exit → Act → World → Prop} {a : Act} {w : World} {o : Oper} {l : List Oper}

structure Ext (w w' : World) : Prop where
 size : w.heap.size ≤ w'.heap.size
 old : ∀ b, b < w.heap.size → w'.heap[b]? = w.heap[b]?
 os : w'.os = w.os
 tape : w'.tape = w.tape
 output : w'.output = w.output

end
end Go.AL

namespace S
set_option maxRecDepth 100000

def exEv : Array Value := #[.string ⟨#[97]⟩, .bool false, .slice none 0 0, .slice none 0 0, .bool false, .slice none 0 0, .slice none 0 0, .bool false, .slice none 0 0, .slice none 0 0, .int .i64 0, .string ⟨#[98]⟩, .bool false, .slice none 0 0, .slice none 0 0, .bool false, .slice none 0 0, .slice none 0 0, .bool false, .slice none 0 0, .slice none 0 0, .int .i64 0, .string ⟨#[99]⟩, .bool false, .slice none 0 0, .slice none 0 0, .bool false, .slice none 0 0, .slice none 0 0, .bool false, .slice none 0 0, .slice none 0 0, .int .i64 0]
def exI0 : Array Value := #[.string ⟨#[97]⟩, .string ⟨#[64, 112]⟩]
def exG0 (n : Nat) : Array Value := #[.string ⟨#[103]⟩, .int .i64 0, .int .i64 0, .slice (some ⟨n, 0, none⟩) 2 2, .bool false, .slice none 0 0, .slice none 0 0]
def exI1 : Array Value := #[.string ⟨#[98]⟩, .string ⟨#[99]⟩]
def exG1 (n : Nat) : Array Value := #[.string ⟨#[104]⟩, .int .i64 1, .int .i64 0, .slice (some ⟨n, 0, none⟩) 2 2, .bool false, .slice none 0 0, .slice none 0 0]
def exP (n : Nat) : Array Value := #[.string ⟨#[112]⟩, .string ⟨#[104]⟩, .slice (some ⟨n, 0, none⟩) 1 1]
structure ExW (w w' : World) : Prop where
 ext : Ext w w'
 size : w'.heap.size = w.heap.size + 7
 ev : w'.heap[w.heap.size + 1]? = some (.cells exEv 68)
 i0 : w'.heap[w.heap.size + 2]? = some (.cells exI0 9)
 g0 : w'.heap[w.heap.size + 3]? = some (.cells (exG0 (w.heap.size + 2)) 84)
 i1 : w'.heap[w.heap.size + 4]? = some (.cells exI1 9)
 g1 : w'.heap[w.heap.size + 5]? = some (.cells (exG1 (w.heap.size + 4)) 84)
 pg : w'.heap[w.heap.size + 6]? = some (.cells (exP (w.heap.size + 5)) 82)

end S

open Go Go.AL Go.Proofs
namespace Go.AL
section
variable {P : Program} {L : Lay} {ops : Array Oper} {Q : Exit → Act → World → Prop} {a : Act} {w : World} {o : Oper} {l : List Oper}

structure PutA (a a' : Act) (d : Nat) (v : Value) : Prop where
 size : a'.tmps.size = a.tmps.size
 defers : a'.defers = a.defers
 new : a'.eval (.tmp d) = v
 old : ∀ t : Nat, t ≠ d → a'.eval (.tmp t) = a.eval (.tmp t)

end
end Go.AL

namespace S
set_option maxRecDepth 100000

abbrev zq : Rat := ⟨false, [], []⟩
def exA (c : UInt8) : Ev := ⟨[c], zq, zq, zq, 0⟩
def mdE (s : Str) : Md := ⟨[109], [103], [exA 97, exA 98, exA 99], [], [⟨[103], 0, 0, [[97], [64, 112]], zq⟩], [⟨[112], [104], [⟨[104], 1, 0, [[98], s], zq⟩]⟩], [], []⟩

theorem c_Example22 : FnH Tryz.prog 80 [] [] (mdE [99]).av [] := by
 refine FnH.intro lay mixed Tryz.func80 (by kernel_rfl) rfl (by kernel_rfl) rfl fun hok => ?_
 (try dsimp only[argC,succC]);(try dsimp only[awp]);conv=>whnf
 refine fM ?_;(conv=>whnf);refine ⟨?_,rfl⟩;conv=>whnf
 repeat' first|exact rfl|exact trivial|exact wR|exact lR _|apply aI

theorem ex_check : checkM (mdE [99]) = 0 := by decide +kernel
theorem ex_light (s : Str) : lightM (mdE s) = true := by
 simp [lightM, mdE, fewR, fewG, evS, exA, shortR]
section
variable {w : World} {Im : Nat → Nat → Prop}

end


theorem list_of {α : Type} {f : α → AV} : ∀ {l : List AV}, (∀ x ∈ l, ∃ y, x = f y) → ∃ m : List α, l = m.map f
 | [], _ => ⟨[], rfl⟩
 | x :: l, h => by
   obtain ⟨y, rfl⟩ := h x (by simp)
   obtain ⟨m, rfl⟩ := list_of (l := l) fun z hz => h z (by simp [hz])
   exact ⟨y :: m, rfl⟩

theorem ints_of {sz : Nat} {k : IntKind} {A : AV} (h : (Sh.sl sz (.int k)).In A) : ∃ l : List Int, A = .sl sz (l.map (.int k)) .no := by
 simp only [Sh.In] at h
 obtain ⟨l, rfl, hl⟩ := h
 obtain ⟨m, rfl⟩ := list_of hl
 exact ⟨m, rfl⟩

abbrev shRat : Sh := .st [.bool, .sl 1 (.int .u32), .sl 1 (.int .u32)]
theorem Rat.of {A : AV} (h : shRat.In A) : ∃ r : Rat, A = r.av := by
 simp only [Sh.In, InL] at h
 obtain ⟨_, rfl, _, _, rfl, ⟨b, rfl⟩, _, _, rfl, h1, _, _, rfl, h2, rfl⟩ := h
 obtain ⟨n, rfl⟩ := ints_of (sz := 1) (k := .u32) (by simp only [Sh.In]; exact h1)
 obtain ⟨d, rfl⟩ := ints_of (sz := 1) (k := .u32) (by simp only [Sh.In]; exact h2)
 exact ⟨⟨b, n, d⟩, rfl⟩

theorem rats_of {A : AV} (h : (Sh.sl 3 shRat).In A) : ∃ l : List Rat, A = .sl 3 (l.map Rat.av) .no := by
 unfold Sh.In at h
 obtain ⟨l, rfl, hl⟩ := h
 obtain ⟨m, rfl⟩ := list_of fun x hx => Rat.of (hl x hx)
 exact ⟨m, rfl⟩

theorem int_of {k : IntKind} {A : AV} (h : (Sh.int k).In A) : ∃ n : Int, A = .int k n := by
 simpa only [Sh.In] using h

theorem str_of {A : AV} (h : Sh.str.In A) : ∃ s : List UInt8, A = .str s := by
 simpa only [Sh.In] using h

theorem sl_of {α : Type} {f : α → AV} {sh : Sh} {sz : Nat} {A : AV} (hf : ∀ x, sh.In x → ∃ y, x = f y) (h : (Sh.sl sz sh).In A) : ∃ l : List α, A = .sl sz (l.map f) .no := by
 unfold Sh.In at h
 obtain ⟨l, rfl, hl⟩ := h
 obtain ⟨m, rfl⟩ := list_of fun x hx => hf x (hl x hx)
 exact ⟨m, rfl⟩

abbrev shEv : Sh := .st [.str, shRat, shRat, shRat, .int .i64]
abbrev shHs : Sh := .st [.str, .bool]
abbrev shMg : Sh := .st [.str, .int .i64, .int .i64, .sl 1 .str, shRat]
abbrev shPg : Sh := .st [.str, .str, .sl 7 shMg]
abbrev shGr : Sh := .st [.str, .int .i64, .sl 1 .str, .sl 3 shRat]
abbrev shPv : Sh := .st [.str, shRat]
abbrev shPh : Sh := .st [.str, .str, .sl 4 shPv]
abbrev shMd : Sh := .st [.str, .str, .sl 11 shEv, .sl 2 shHs, .sl 7 shMg, .sl 3 shPg, .sl 4 shGr, .sl 3 shPh]

theorem strs_of {A : AV} (h : (Sh.sl 1 .str).In A) : ∃ l : List Str, A = sL l := sl_of (f := AV.str) (fun _ hx => str_of hx) h

theorem Ev.of {A : AV} (h : shEv.In A) : ∃ x : Ev, A = x.av := by
 unfold Sh.In at h
 simp only [InL] at h
 obtain ⟨_, rfl, _, _, rfl, h0, _, _, rfl, h1, _, _, rfl, h2, _, _, rfl, h3, _, _, rfl, h4, rfl⟩ := h
 obtain ⟨a, rfl⟩ := str_of h0
 obtain ⟨b, rfl⟩ := Rat.of h1
 obtain ⟨c, rfl⟩ := Rat.of h2
 obtain ⟨d, rfl⟩ := Rat.of h3
 obtain ⟨e, rfl⟩ := int_of h4
 exact ⟨⟨a, b, c, d, e⟩, rfl⟩

theorem Hs.of {A : AV} (h : shHs.In A) : ∃ x : Hs, A = x.av := by
 unfold Sh.In at h
 simp only [InL] at h
 obtain ⟨_, rfl, _, _, rfl, h0, _, _, rfl, h1, rfl⟩ := h
 obtain ⟨a, rfl⟩ := str_of h0
 simp only [Sh.In] at h1
 obtain ⟨b, rfl⟩ := h1
 exact ⟨⟨a, b⟩, rfl⟩

theorem Mg.of {A : AV} (h : shMg.In A) : ∃ x : Mg, A = x.av := by
 unfold Sh.In at h
 simp only [InL] at h
 obtain ⟨_, rfl, _, _, rfl, h0, _, _, rfl, h1, _, _, rfl, h2, _, _, rfl, h3, _, _, rfl, h4, rfl⟩ := h
 obtain ⟨a, rfl⟩ := str_of h0
 obtain ⟨b, rfl⟩ := int_of h1
 obtain ⟨c, rfl⟩ := int_of h2
 obtain ⟨d, rfl⟩ := strs_of h3
 obtain ⟨e, rfl⟩ := Rat.of h4
 exact ⟨⟨a, b, c, d, e⟩, rfl⟩

theorem Pg.of {A : AV} (h : shPg.In A) : ∃ x : Pg, A = x.av := by
 unfold Sh.In at h
 simp only [InL] at h
 obtain ⟨_, rfl, _, _, rfl, h0, _, _, rfl, h1, _, _, rfl, h2, rfl⟩ := h
 obtain ⟨a, rfl⟩ := str_of h0
 obtain ⟨b, rfl⟩ := str_of h1
 obtain ⟨c, rfl⟩ := sl_of (f := Mg.av) (fun _ hx => Mg.of hx) h2
 exact ⟨⟨a, b, c⟩, rfl⟩

theorem Gr.of {A : AV} (h : shGr.In A) : ∃ x : Gr, A = x.av := by
 unfold Sh.In at h
 simp only [InL] at h
 obtain ⟨_, rfl, _, _, rfl, h0, _, _, rfl, h1, _, _, rfl, h2, _, _, rfl, h3, rfl⟩ := h
 obtain ⟨a, rfl⟩ := str_of h0
 obtain ⟨b, rfl⟩ := int_of h1
 obtain ⟨c, rfl⟩ := strs_of h2
 obtain ⟨d, rfl⟩ := rats_of h3
 exact ⟨⟨a, b, c, d⟩, rfl⟩

theorem Pv.of {A : AV} (h : shPv.In A) : ∃ x : Pv, A = x.av := by
 unfold Sh.In at h
 simp only [InL] at h
 obtain ⟨_, rfl, _, _, rfl, h0, _, _, rfl, h1, rfl⟩ := h
 obtain ⟨a, rfl⟩ := str_of h0
 obtain ⟨b, rfl⟩ := Rat.of h1
 exact ⟨⟨a, b⟩, rfl⟩

theorem Ph.of {A : AV} (h : shPh.In A) : ∃ x : Ph, A = x.av := by
 unfold Sh.In at h
 simp only [InL] at h
 obtain ⟨_, rfl, _, _, rfl, h0, _, _, rfl, h1, _, _, rfl, h2, rfl⟩ := h
 obtain ⟨a, rfl⟩ := str_of h0
 obtain ⟨b, rfl⟩ := str_of h1
 obtain ⟨c, rfl⟩ := sl_of (f := Pv.av) (fun _ hx => Pv.of hx) h2
 exact ⟨⟨a, b, c⟩, rfl⟩

theorem Md.of {A : AV} (h : shMd.In A) : ∃ x : Md, A = x.av := by
 unfold Sh.In at h
 simp only [InL] at h
 obtain ⟨_, rfl, _, _, rfl, h0, _, _, rfl, h1, _, _, rfl, h2, _, _, rfl, h3, _, _, rfl, h4, _, _, rfl, h5, _, _, rfl, h6, _, _, rfl, h7, rfl⟩ := h
 obtain ⟨a, rfl⟩ := str_of h0
 obtain ⟨b, rfl⟩ := str_of h1
 obtain ⟨c, rfl⟩ := sl_of (f := Ev.av) (fun _ hx => Ev.of hx) h2
 obtain ⟨d, rfl⟩ := sl_of (f := Hs.av) (fun _ hx => Hs.of hx) h3
 obtain ⟨e, rfl⟩ := sl_of (f := Mg.av) (fun _ hx => Mg.of hx) h4
 obtain ⟨f, rfl⟩ := sl_of (f := Pg.av) (fun _ hx => Pg.of hx) h5
 obtain ⟨g, rfl⟩ := sl_of (f := Gr.av) (fun _ hx => Gr.of hx) h6
 obtain ⟨i, rfl⟩ := sl_of (f := Ph.av) (fun _ hx => Ph.of hx) h7
 exact ⟨⟨a, b, c, d, e, f, g, i⟩, rfl⟩

structure Ak where
 page : Int
 inp : Str
 old : Str
 new : Str



theorem c_has25 (l : List Str) (s : Str) : FnH Tryz.prog 82 [sL l, .str s] [] (.bool (decide (s ∈ l))) [] := by
 refine FnH.intro lay mixed Tryz.func82 (by kernel_rfl) rfl (by kernel_rfl) rfl fun hok => ?_
 have hl : l.length ≤ 9223372036854775807 := by have := hok.1.1; simpa [maxL] using this
 (try dsimp only[argC,succC]);(try dsimp only[awp]);conv=>whnf
 refine LoopE.of <| LoopSpec.inv (.refl _ _) (fun (i : Nat) => i ≤ l.length ∧ ∀ (j : Nat) (hj : j < l.length), j < i → l[j] ≠ s) (fun (i : Nat) => [(9, .int .i64 i)]) (fun _ => _) (fun (i : Nat) => l.length - i) 0 ?_ (fun _ => rfl) ?_ ?_
 ·exact ⟨Nat.zero_le _, by omega⟩
 ·repeat' first|exact rfl|exact trivial|exact wR|exact lR _|apply aI
 rintro i ⟨hi, hn⟩ _
 (try dsimp only[awp]);conv=>whnf
 refine And.intro (fun h => ?_) (fun h => ?_)
 ·have hlt : i < l.length := by simpa using h
  (try dsimp only[awp]);conv=>whnf
  refine aidx hlt ?_
  (try dsimp only[awp]);conv=>whnf
  refine And.intro (fun h1 => ?_) (fun h1 => ?_)
  ·rw [decide_eq_true (show s ∈ l from h1 ▸ List.getElem_mem hlt)]
   (try dsimp only[awp]);conv=>whnf
   refine fM ?_;(conv=>whnf);refine ⟨?_,rfl⟩;conv=>whnf
   repeat' first|exact rfl|exact trivial|exact wR|exact lR _|apply aI
  ·(try dsimp only[awp]);conv=>whnf
   refine zA ?_;conv=>whnf
   refine ⟨i + 1, ?_, ?_, ?_⟩
   ·refine ⟨hlt, fun j hj hji => ?_⟩
    by_cases e : j = i
    ·subst e; exact h1
    ·exact hn j hj (by omega)
   ·repeat' first|exact rfl|exact trivial|exact wR|exact lR _|apply aI
   ·omega
 have hil : i = l.length := by have : ¬ i < l.length := by simpa using h
                               omega
 have hno : ¬ s ∈ l := by
  intro e
  obtain ⟨j, hj, e2⟩ := List.getElem_of_mem e
  exact hn j hj (by omega) e2
 rw [decide_eq_false hno]
 (try dsimp only[awp]);conv=>whnf
 refine fM ?_;(conv=>whnf);refine ⟨?_,rfl⟩;conv=>whnf
 repeat' first|exact rfl|exact trivial|exact wR|exact lR _|apply aI

def onM (m : Md) (a : Int) : List Str := insG (gatesM m a) ++ (if a < 0 then othM m else [])

theorem c_on25 (m : Md) (hB : MdB m) (a : Int) (ha : a = -1 ∨ (0 ≤ a ∧ a < (m.pages.length : Int))) : FnH Tryz.prog 83 [m.av, .int .i64 a] [] (sL (onM m a)) [] := by
 have cG := c_rGates m a ha
 have hb := hB.gatesM ha
 have hph := hB.phs
 unfold onM
 generalize hgs : gatesM m a = gs at *
 refine FnH.intro lay mixed Tryz.func83 (by kernel_rfl) rfl (by kernel_rfl) rfl fun hok => ?_
 (try dsimp only[argC,succC]);(try dsimp only[awp]);conv=>whnf
 refine .pure _ _ ?_ ⟨rfl, rfl⟩ cG fun _ => ?_
 ·exact leL_refl _
 (try dsimp only[awp]);conv=>whnf
 refine LoopE.of <| LoopSpec.inv (.grow 5 1 [] _ rfl (.inl ⟨rfl, rfl⟩) (.refl _ _)) (fun (i : Nat) => i ≤ gs.length)
  (fun i => [(14, .int .i64 i), (5, .sl 1 ((insG (gs.take i)).map .str) (.own 1))]) (fun i => [(1, .tok 1 (insG (gs.take i)).length), (0, .box m.av)]) (fun i => gs.length - i) 0 ?_ (fun _ => rfl) ?_ ?_
 ·exact Nat.zero_le _
 ·refine ⟨?_, .mk ?_ (by simp [idsOk])⟩
  ·repeat' first|exact rfl|exact trivial|exact wR|exact lR _|apply aI
  ·repeat' first|exact rfl|exact trivial|exact wR|exact lR _|apply aI
 intro i hil _
 (try dsimp only[awp]);conv=>whnf
 refine And.intro (fun h => ?_) (fun h => ?_)
 ·have hkl : i < gs.length := by simpa using h
  have ht := insG_take hkl
  have h1 := insG_len (l := gs.take i) (fun g hg => hb.2 g (List.mem_of_mem_take hg))
  have h2 := hb.2 _ (List.getElem_mem hkl)
  rw [List.length_take] at h1
  (try dsimp only[awp]);conv=>whnf
  refine aidx hkl ?_
  generalize gs[i] = x at *
  generalize insG (gs.take i) = L at *
  (try dsimp only[awp]);conv=>whnf
  refine ⟨by rw [List.length_map], .mk (by simp [maxL]; omega) (by simp; omega) ?_⟩
  (try dsimp only[awp]);conv=>whnf
  refine zA ?_;conv=>whnf
  refine ⟨i + 1, ?_, ?_, ?_⟩
  ·exact hkl
  ·rw [ht]
   refine ⟨?_, .mk ?_ (by simp [idsOk])⟩
   ·repeat' first|exact rfl|exact trivial|exact wR|exact lR _|apply aI
    all_goals first | (refine leRL_of ?_; rw [List.map_append]; rfl) | (refine leRL_of ?_; simp; done) | (simp; done) | (refine leRL_of ?_; simp [strip]; done) | (simp; omega)
   ·repeat' first|exact rfl|exact trivial|exact wR|exact lR _|apply aI
    all_goals first | (simp; done) | (refine leRL_of ?_; simp [strip]; done) | (simp; omega)
  ·omega
 have hlt : i = gs.length := by have : ¬ i < gs.length := by simpa using h
                                omega
 subst hlt
 rw [List.take_length]
 have h1 := insG_len hb.2
 clear h
 generalize insG gs = G at *
 (try dsimp only[awp]);conv=>whnf
 refine And.intro (fun h2 => ?_) (fun h2 => ?_)
 ·rw [if_pos h2]
  (try dsimp only[awp]);conv=>whnf
  refine ⟨by simp, .mk (by simp [maxL]; omega) (by simp; omega) ?_⟩
  (try dsimp only[awp]);conv=>whnf
  refine LoopE.of <| LoopSpec.inv (.refl _ _) (fun (k : Nat) => k ≤ m.phs.length)
   (fun k => [(33, .int .i64 k), (5, .sl 1 ((G ++ (m.top :: (m.phs.take k).map Ph.top)).map .str) (.own 1))]) (fun k => [(1, .tok 1 (G.length + 1 + k)), (0, .box m.av)]) (fun k => m.phs.length - k) 0 ?_ (fun _ => rfl) ?_ ?_
  ·exact Nat.zero_le _
  ·refine ⟨?_, .mk ?_ (by simp [idsOk])⟩
   ·repeat' first|exact rfl|exact trivial|exact wR|exact lR _|apply aI
    all_goals first | (refine leRL_of ?_; rw [List.map_append]; rfl) | (refine leRL_of ?_; simp; done)
   ·repeat' first|exact rfl|exact trivial|exact wR|exact lR _|apply aI
    all_goals first | (simp; done) | (refine leRL_of ?_; simp [strip]; done) | (simp; omega)
  intro k hk _
  (try dsimp only[awp]);conv=>whnf
  refine And.intro (fun h => ?_) (fun h => ?_)
  ·have hkl : k < m.phs.length := by simpa using h
   have ht := take_map (f := Ph.top) hkl
   have hlen := take_len (f := Ph.top) hk
   (try dsimp only[awp]);conv=>whnf
   refine aidx hkl ?_
   generalize m.phs[k] = x at *
   generalize (m.phs.take k).map Ph.top = L at *
   (try dsimp only[awp]);conv=>whnf
   refine ⟨by simp; omega, .mk (by simp [maxL]; omega) (by simp; omega) ?_⟩
   (try dsimp only[awp]);conv=>whnf
   refine zA ?_;conv=>whnf
   refine ⟨k + 1, ?_, ?_, ?_⟩
   ·exact hkl
   ·rw [ht]
    refine ⟨?_, .mk ?_ (by simp [idsOk])⟩
    ·repeat' first|exact rfl|exact trivial|exact wR|exact lR _|apply aI
     all_goals first | (refine leRL_of ?_; rw [List.map_append]; rfl) | (refine leRL_of ?_; simp; done) | (simp; done) | (refine leRL_of ?_; simp [strip]; done) | (simp; omega)
    ·repeat' first|exact rfl|exact trivial|exact wR|exact lR _|apply aI
     all_goals first | (simp; done) | (refine leRL_of ?_; simp [strip]; done) | (simp; omega)
   ·omega
  have hkl : k = m.phs.length := by have : ¬ k < m.phs.length := by simpa using h
                                    omega
  subst hkl
  rw [List.take_length]
  clear h
  (try dsimp only[awp]);conv=>whnf
  refine fM ?_;(conv=>whnf);refine ⟨?_,rfl⟩;conv=>whnf
  repeat' first|exact rfl|exact trivial|exact wR|exact lR _|apply aI
 ·rw [if_neg h2, List.append_nil]
  (try dsimp only[awp]);conv=>whnf
  refine fM ?_;(conv=>whnf);refine ⟨?_,rfl⟩;conv=>whnf
  repeat' first|exact rfl|exact trivial|exact wR|exact lR _|apply aI

theorem c_texts1 (a : List Str) : FnH Tryz.prog 23 [sL a, sL a] [] .tt [] := by
 refine FnH.intro lay mixed Tryz.func23 (by kernel_rfl) rfl (by kernel_rfl) rfl fun hok => ?_
 have ha : a.length ≤ 9223372036854775807 := by simpa [OkL, Ok, maxL] using hok.1.1
 (try dsimp only[argC,succC]);(try dsimp only[awp]);conv=>whnf
 refine And.intro (fun h => absurd rfl h) (fun _ => ?_)
 (try dsimp only[awp]);conv=>whnf
 refine LoopE.of <| LoopSpec.inv (.refl _ _) (fun (i : Nat) => i ≤ a.length) (fun (i : Nat) => [(13, .int .i64 i)]) (fun _ => _) (fun (i : Nat) => a.length - i) 0 ?_ (fun _ => rfl) ?_ ?_
 ·exact Nat.zero_le _
 ·repeat' first|exact rfl|exact trivial|exact wR|exact lR _|apply aI
 intro i hi _
 (try dsimp only[awp]);conv=>whnf
 refine And.intro (fun h1 => ?_) (fun h1 => ?_)
 ·have hlt : i < a.length := by simpa using h1
  (try dsimp only[awp]);conv=>whnf
  refine ADraw.auto (by kernel_rfl) ?_;conv=>whnf
  refine aidx hlt ?_
  (try dsimp only[awp]);conv=>whnf
  refine aidx hlt ?_
  (try dsimp only[awp]);conv=>whnf
  refine And.intro (fun h2 => absurd rfl h2) (fun _ => ?_)
  (try dsimp only[awp]);conv=>whnf
  refine zA ?_;conv=>whnf
  refine ⟨i + 1, ?_, ?_, ?_⟩
  ·exact hlt
  ·repeat' first|exact rfl|exact trivial|exact wR|exact lR _|apply aI
  ·omega
 ·have hl : i = a.length := by (have : ¬ i < a.length := by simpa using h1); omega
  subst hl
  clear h1
  (try dsimp only[awp]);conv=>whnf
  refine fM ?_;(conv=>whnf);refine ⟨?_,rfl⟩;conv=>whnf
  repeat' first|exact rfl|exact trivial|exact wR|exact lR _|apply aI


theorem c_rows1 (a : List (List Int)) : FnH Tryz.prog 32 [lL a, lL a] [] .tt [] := by
 refine FnH.intro lay mixed Tryz.func32 (by kernel_rfl) rfl (by kernel_rfl) rfl fun hok => ?_
 have hl : a.length ≤ 9223372036854775807 := by have := hok.1.1; simpa [maxL] using this
 (try dsimp only[argC,succC]);(try dsimp only[awp]);conv=>whnf
 refine And.intro (fun h => absurd rfl h) (fun _ => ?_)
 (try dsimp only[awp]);conv=>whnf
 refine LoopE.of <| LoopSpec.inv (.refl _ _) (fun (i : Nat) => i ≤ a.length) (fun (i : Nat) => [(13, .int .i64 i)]) (fun _ => _) (fun (i : Nat) => a.length - i) 0 ?_ (fun _ => rfl) ?_ ?_
 ·exact Nat.zero_le _
 ·repeat' first|exact rfl|exact trivial|exact wR|exact lR _|apply aI
 rintro i hi _
 (try dsimp only[awp]);conv=>whnf
 refine And.intro (fun h => ?_) (fun h => ?_)
 ·have hlt : i < a.length := by simpa using h
  have ci := (c_ints a[i] a[i]).weak (R' := .tt) (by first | rfl | (show decide _ = true; simp) | simp)
  (try dsimp only[awp]);conv=>whnf
  refine ADraw.auto (by kernel_rfl) ?_;conv=>whnf
  refine aidx hlt ?_
  conv=>whnf
  refine aidx hlt ?_
  conv=>whnf
  refine ACallP.pure _ _ ?_ ⟨rfl, rfl⟩ ci ?_
  ·exact leL_refl _
  (try dsimp only[awp]);conv=>whnf
  refine zA ?_;conv=>whnf
  refine ⟨i + 1, ?_, ?_, ?_⟩
  ·exact hlt
  ·repeat' first|exact rfl|exact trivial|exact wR|exact lR _|apply aI
  ·omega
 ·(try dsimp only[awp]);conv=>whnf
  refine fM ?_;(conv=>whnf);refine ⟨?_,rfl⟩;conv=>whnf
  repeat' first|exact rfl|exact trivial|exact wR|exact lR _|apply aI

def exI : Md := ⟨[109], [103], [exA 97, exA 98, exA 99], [], [⟨[103], 0, 0, [[97], [112, 46, 104]], zq⟩, ⟨[112, 46, 104], 1, 0, [[98], [99]], zq⟩], [], [], []⟩

theorem ex_inl : inlP (mdE [99]).pages.length (mdE [99]) = (exI, 0) := by decide +kernel
theorem ex_uses : usesP (mdE [99]) = [[0], []] := by decide +kernel

theorem c_awake25 : FnH Tryz.prog 30 [] [] (.bool true) [] := by
 obtain ⟨hB, hC⟩ := lightM_B (ex_light [99])
 have hX := lightM_X (ex_light [99])
 have ci := c_Inline (mdE [99]) hC hB hX _ rfl
 have cu := c_Uses (mdE [99]) hC hB hX _ rfl
 unfold inlineAV at ci
 rw [if_neg (by rw [ex_check]; simp), ex_inl] at ci
 rw [if_neg (by rw [ex_check]; simp), ex_uses] at cu
 rw [show inlAV (exI, 0) = .tup [exI.av, .nilI] from rfl] at ci
 have ct := c_texts1 [[97], [112, 46, 104]]
 have cr := c_rows1 [[0], []]
 refine FnH.intro lay mixed Tryz.func30 (by kernel_rfl) rfl (by kernel_rfl) rfl fun hok => ?_
 (try dsimp only[argC,succC]);(try dsimp only[awp]);conv=>whnf
 refine .pure _ _ ?_ ⟨rfl, rfl⟩ c_Example22 fun _ => ?_
 ·exact leL_refl _
 (try dsimp only[awp]);conv=>whnf
 refine .pure _ _ ?_ ⟨rfl, rfl⟩ ci fun _ => ?_
 ·exact leL_refl _
 (try dsimp only[awp]);conv=>whnf
 refine .pure _ _ ?_ ⟨rfl, rfl⟩ c_Example22 fun _ => ?_
 ·exact leL_refl _
 (try dsimp only[awp]);conv=>whnf
 refine .pure _ _ ?_ ⟨rfl, rfl⟩ cu fun _ => ?_
 ·exact leL_refl _
 (try dsimp only[awp]);conv=>whnf
 refine And.intro (fun _ => ?_) (fun h => absurd rfl h)
 (try dsimp only[awp]);conv=>whnf
 refine And.intro (fun _ => ?_) (fun h => absurd rfl h)
 (try dsimp only[awp]);conv=>whnf
 refine AIdx.mk ⟨_, ⟨by decide, rfl⟩, ?_⟩
 (try dsimp only[awp]);conv=>whnf
 refine And.intro (fun _ => ?_) (fun h => absurd rfl h)
 (try dsimp only[awp]);conv=>whnf
 refine AIdx.mk ⟨_, ⟨by decide, rfl⟩, ?_⟩
 (try dsimp only[awp]);conv=>whnf
 refine .pure _ _ ?_ ⟨rfl, rfl⟩ ct fun _ => ?_
 ·repeat' first|exact rfl|exact trivial|exact wR|exact lR _|apply aI
 (try dsimp only[awp]);conv=>whnf
 refine .pure _ _ ?_ ⟨rfl, rfl⟩ cr fun _ => ?_
 ·repeat' first|exact rfl|exact trivial|exact wR|exact lR _|apply aI
 (try dsimp only[awp]);conv=>whnf
 refine fM ?_;(conv=>whnf);refine ⟨?_,rfl⟩;conv=>whnf
 repeat' first|exact rfl|exact trivial|exact wR|exact lR _|apply aI


theorem usesP_len (m : Md) : (usesP m).length = m.pages.length + 1 := by simp [usesP]

theorem usesP_get {m : Md} {k : Nat} (h : k < m.pages.length + 1) : (usesP m).take (k + 1) = (usesP m).take k ++ [usN m (onM m ((k : Int) - 1))] := by
 have hl := usesP_len m
 rw [take_one (by omega)]
 congr 2
 unfold onM
 cases k with
 | zero =>
   rw [if_pos (by decide)]
   rfl
 | succ k =>
   have e : (((k + 1 : Nat) : Int) - 1) = (k : Int) := by omega
   rw [e, if_neg (by omega), List.append_nil, gates_page]
   show (m.pages.map _)[k]'_ = _
   rw [List.getElem_map, getD_lt (by omega)]

theorem c_rUses (m : Md) (hB : MdB m) (hn : ∀ p ∈ m.pages, p.name.length ≤ 24) : FnH Tryz.prog 33 [m.av] [] (lL (usesP m)) [] := by
 have hpl := hB.pages
 have hul := usesP_len m
 refine FnH.intro lay mixed Tryz.func33 (by kernel_rfl) rfl (by kernel_rfl) rfl fun hok => ?_
 (try dsimp only[argC,succC]);(try dsimp only[awp]);conv=>whnf
 refine LoopE.of <| LoopSpec.inv (.grow 3 1 [] _ rfl (.inl ⟨rfl, rfl⟩) (.refl _ _)) (fun (k : Nat) => k ≤ m.pages.length + 1)
  (fun k => [(4, .int .i64 ((k : Int) - 1)), (3, .sl 1 (((usesP m).take k).map iL) (.own 1))]) (fun k => [(1, .tok 1 k), (0, .box m.av)]) (fun k => m.pages.length + 1 - k) 0 ?_ (fun _ => rfl) ?_ ?_
 ·exact Nat.zero_le _
 ·refine ⟨?_, .mk ?_ (by simp [idsOk])⟩
  ·repeat' first|exact rfl|exact trivial|exact wR|exact lR _|apply aI
  ·repeat' first|exact rfl|exact trivial|exact wR|exact lR _|apply aI
 intro k hk _
 have hlen : ((usesP m).take k).length = k := by rw [List.length_take]; omega
 (try dsimp only[awp]);conv=>whnf
 refine And.intro (fun h => ?_) (fun h => ?_)
 ·have hkl : k < m.pages.length + 1 := by simp at h; omega
  have ht0 := usesP_get hkl
  have hat : (k : Int) - 1 = -1 ∨ (0 ≤ (k : Int) - 1 ∧ (k : Int) - 1 < (m.pages.length : Int)) := by omega
  have co := c_on25 m hB _ hat
  generalize (usesP m).take k = U at *
  generalize onM m ((k : Int) - 1) = N at *
  (try dsimp only[awp]);conv=>whnf
  refine LoopE.of <| LoopSpec.inv (.grow 5 1 [] _ rfl (.inl ⟨rfl, rfl⟩) (.refl _ _)) (fun (i : Nat) => i ≤ m.pages.length)
   (fun i => [(18, .int .i64 i), (5, .sl 1 (((usK m N i).map Int.ofNat).map (.int .i64)) (.own 2))]) (fun i => [(2, .tok 1 (usK m N i).length), (1, .tok 1 k), (0, .box m.av)]) (fun i => m.pages.length - i) 0 ?_ (fun _ => rfl) ?_ ?_
  ·exact Nat.zero_le _
  ·refine ⟨?_, .mk ?_ (by simp [idsOk])⟩
   ·repeat' first|exact rfl|exact trivial|exact wR|exact lR _|apply aI
   ·repeat' first|exact rfl|exact trivial|exact wR|exact lR _|apply aI
  intro i hil _
  have hul := usK_len (m := m) (names := N) (k := i)
  have hus := usK_succ (m := m) (names := N) (k := i)
  (try dsimp only[awp]);conv=>whnf
  refine And.intro (fun h => ?_) (fun h => ?_)
  ·have hkl : i < m.pages.length := by simpa using h
   have e : pgA m i = m.pages[i] := getD_lt hkl
   rw [e] at hus
   have hnl := hn _ (List.getElem_mem hkl)
   (try dsimp only[awp]);conv=>whnf
   refine aidx hkl ?_
   generalize m.pages[i] = x at *
   generalize usK m N i = L at *
   have cs := c_has25 N (atN x)
   (try dsimp only[awp]);conv=>whnf
   refine ADraw.auto (by kernel_rfl) ?_;conv=>whnf
   refine ACallP.pure _ _ ?_ ⟨rfl, rfl⟩ co ?_
   ·exact leL_refl _
   (try dsimp only[awp]);conv=>whnf
   refine ⟨by show (1 : Nat) + x.name.length ≤ maxL; simp [maxL]; omega, ?_⟩
   (try dsimp only[awp]);conv=>whnf
   refine ACallP.pure _ _ ?_ ⟨rfl, rfl⟩ cs ?_
   ·exact leL_refl _
   (try dsimp only[awp]);conv=>whnf
   refine And.intro (fun h1 => ?_) (fun h1 => ?_)
   ·have h1 : atN x ∈ N := of_decide_eq_true h1
    rw [if_pos h1] at hus
    have ht := hus
    (try dsimp only[awp]);conv=>whnf
    refine ⟨by simp, .mk (by simp [maxL]; omega) (by simp; omega) ?_⟩
    (try dsimp only[awp]);conv=>whnf
    refine zA ?_;conv=>whnf
    refine ⟨i + 1, ?_, ?_, ?_⟩
    ·exact hkl
    ·rw [ht]
     refine ⟨?_, .mk ?_ (by simp [idsOk])⟩
     ·repeat' first|exact rfl|exact trivial|exact wR|exact lR _|apply aI
      all_goals first | (refine leRL_of ?_; rw [List.map_append]; rfl) | (refine leRL_of ?_; rw [List.map_append, List.map_append]; rfl) | (refine leRL_of ?_; simp [strip]; done) | (simp; done) | (simp; omega)
     ·repeat' first|exact rfl|exact trivial|exact wR|exact lR _|apply aI
      all_goals first | (simp; done) | (simp; omega)
    ·omega
   ·have h1 : ¬ atN x ∈ N := of_decide_eq_false h1
    rw [if_neg h1, List.append_nil] at hus
    have ht := hus
    (try dsimp only[awp]);conv=>whnf
    refine zA ?_;conv=>whnf
    refine ⟨i + 1, ?_, ?_, ?_⟩
    ·exact hkl
    ·rw [ht]
     refine ⟨?_, .mk ?_ (by simp [idsOk])⟩
     ·repeat' first|exact rfl|exact trivial|exact wR|exact lR _|apply aI
      all_goals first | (refine leRL_of ?_; rw [List.map_append]; rfl) | (refine leRL_of ?_; rw [List.map_append, List.map_append]; rfl) | (refine leRL_of ?_; simp [strip]; done) | (simp; done) | (simp; omega)
     ·repeat' first|exact rfl|exact trivial|exact wR|exact lR _|apply aI
      all_goals first | (simp; done) | (simp; omega)
    ·omega
  have hil : i = m.pages.length := by have : ¬ i < m.pages.length := by simpa using h
                                      omega
  subst hil
  clear h
  have ht := ht0
  (try dsimp only[awp]);conv=>whnf
  refine ⟨by simp; omega, .mk (by simp [maxL]; omega) (by simp; omega) ?_⟩
  (try dsimp only[awp]);conv=>whnf
  refine zA ?_;conv=>whnf
  refine ⟨k + 1, ?_, ?_, ?_⟩
  ·exact hkl
  ·rw [ht]
   refine ⟨?_, .mk ?_ (by simp [idsOk])⟩
   ·repeat' first|exact rfl|exact trivial|exact wR|exact lR _|apply aI
    all_goals first | (refine leRL_of ?_; rw [List.map_append]; rfl) | (refine leRL_of ?_; rw [List.map_append, List.map_append]; rfl) | (refine leRL_of ?_; simp [strip]; done) | (simp; done) | (simp; omega)
   ·repeat' first|exact rfl|exact trivial|exact wR|exact lR _|apply aI
    all_goals first | (simp; done) | (simp; omega)
  ·omega
 ·have hkl : k = m.pages.length + 1 := by simp at h; omega
  subst hkl
  rw [List.take_of_length_le (l := usesP m) (by omega)]
  (try dsimp only[awp]);conv=>whnf
  refine fM ?_;(conv=>whnf);refine ⟨?_,rfl⟩;conv=>whnf
  repeat' first|exact rfl|exact trivial|exact wR|exact lR _|apply aI

theorem c_PagesUses (h1c : OneC) (m : Md) : FnH Tryz.prog 6 [m.av] [] (.bool true) [] := by
 have c0 := c_awake25.weak (R' := .tt) rfl
 have cl := c_LightM m _ rfl
 cases hL : lightM m with
 | false =>
   rw [hL] at cl
   have cl := cl.weak (R' := .ff) rfl
   refine FnH.intro lay mixed Tryz.func6 (by kernel_rfl) rfl (by kernel_rfl) rfl fun hok => ?_
   (try dsimp only[argC,succC]);(try dsimp only[awp]);conv=>whnf
   refine .pure _ _ ?_ ⟨rfl, rfl⟩ c0 fun _ => ?_
   ·exact leL_refl _
   (try dsimp only[awp]);conv=>whnf
   refine .pure _ _ ?_ ⟨rfl, rfl⟩ cl fun _ => ?_
   ·exact leL_refl _
   (try dsimp only[awp]);conv=>whnf
   refine .pure _ _ ?_ ⟨rfl, rfl⟩ c0 fun _ => ?_
   ·exact leL_refl _
   (try dsimp only[awp]);conv=>whnf
   refine fM ?_;(conv=>whnf);refine ⟨?_,rfl⟩;conv=>whnf
   repeat' first|exact rfl|exact trivial|exact wR|exact lR _|apply aI
 | true =>
 rw [hL] at cl
 have cl := cl.weak (R' := .tt) rfl
 obtain ⟨hB, hC⟩ := lightM_B hL
 have hX := lightM_X hL
 have cu := c_Uses m hC hB hX _ rfl
 have ck := c_refCheck h1c m hX hB _ rfl
 by_cases hc : checkM m ≠ 0
 ·rw [if_pos hc] at cu
  have cn := c_Num (checkM m)
  rw [errAV_ne hc] at cn
  refine FnH.intro lay mixed Tryz.func6 (by kernel_rfl) rfl (by kernel_rfl) rfl fun hok => ?_
  (try dsimp only[argC,succC]);(try dsimp only[awp]);conv=>whnf
  refine .pure _ _ ?_ ⟨rfl, rfl⟩ c0 fun _ => ?_
  ·exact leL_refl _
  (try dsimp only[awp]);conv=>whnf
  refine .pure _ _ ?_ ⟨rfl, rfl⟩ cl fun _ => ?_
  ·exact leL_refl _
  (try dsimp only[awp]);conv=>whnf
  refine .pure _ _ ?_ ⟨rfl, rfl⟩ cu fun _ => ?_
  ·exact leL_refl _
  (try dsimp only[awp]);conv=>whnf
  refine .pure _ _ ?_ ⟨rfl, rfl⟩ ck fun _ => ?_
  ·exact leL_refl _
  (try dsimp only[awp]);conv=>whnf
  refine And.intro (fun _ => ?_) (fun h => absurd hc h)
  (try dsimp only[awp]);conv=>whnf
  refine And.intro (fun _ => ?_) (fun h => absurd rfl h)
  (try dsimp only[awp]);conv=>whnf
  refine .pure _ _ ?_ ⟨rfl, rfl⟩ cn fun _ => ?_
  ·exact leL_refl _
  (try dsimp only[awp]);conv=>whnf
  refine fM ?_;(conv=>whnf);refine ⟨?_,rfl⟩;conv=>whnf
  repeat' first|exact rfl|exact trivial|exact wR|exact lR _|apply aI
  all_goals simp
 ·have hc : checkM m = 0 := by simpa using hc
  rw [if_neg (by rw [hc]; simp)] at cu
  rw [hc] at ck
  have hM := checkM_ok hc
  have hm := pgB_of hB hX hM
  have cr := c_rUses m hB hm.names
  have c1 := c_rows1 (usesP m)
  generalize usesP m = U at *
  refine FnH.intro lay mixed Tryz.func6 (by kernel_rfl) rfl (by kernel_rfl) rfl fun hok => ?_
  (try dsimp only[argC,succC]);(try dsimp only[awp]);conv=>whnf
  refine .pure _ _ ?_ ⟨rfl, rfl⟩ c0 fun _ => ?_
  ·exact leL_refl _
  (try dsimp only[awp]);conv=>whnf
  refine .pure _ _ ?_ ⟨rfl, rfl⟩ cl fun _ => ?_
  ·exact leL_refl _
  (try dsimp only[awp]);conv=>whnf
  refine .pure _ _ ?_ ⟨rfl, rfl⟩ cu fun _ => ?_
  ·exact leL_refl _
  (try dsimp only[awp]);conv=>whnf
  refine .pure _ _ ?_ ⟨rfl, rfl⟩ ck fun _ => ?_
  ·exact leL_refl _
  (try dsimp only[awp]);conv=>whnf
  refine And.intro (fun h => absurd rfl h) (fun _ => ?_)
  (try dsimp only[awp]);conv=>whnf
  refine .pure _ _ ?_ ⟨rfl, rfl⟩ cr fun _ => ?_
  ·exact leL_refl _
  (try dsimp only[awp]);conv=>whnf
  refine .pure _ _ ?_ ⟨rfl, rfl⟩ c1 fun _ => ?_
  ·exact leL_refl _
  (try dsimp only[awp]);conv=>whnf
  refine fM ?_;(conv=>whnf);refine ⟨?_,rfl⟩;conv=>whnf
  repeat' first|exact rfl|exact trivial|exact wR|exact lR _|apply aI
theorem one : OneC := r_of
end S
