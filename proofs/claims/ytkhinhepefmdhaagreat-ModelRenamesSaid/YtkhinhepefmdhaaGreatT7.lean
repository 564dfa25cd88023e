/-
  Contracts of functions of the program, over the logic of the texts before. Nothing is assumed.
-/
import Derived.Test.YtkhinhepefmdhaaGreatT6

open Go Go.AL Go.Proofs
namespace S
set_option maxRecDepth 100000

def rdyD (d : List Bool) (l : List Int) : Bool := l.all fun k => d.getD k.toNat false
def stepD (d : List Bool) (i : Nat) (l : List Int) : List Bool := d.set i (d.getD i false || rdyD d l)
def passD : Nat → List (List Int) → List Bool → List Bool
 | _, [], d => d
 | i, l :: us, d => passD (i + 1) us (stepD d i l)
def roundsD (us : List (List Int)) : Nat → List Bool → List Bool
 | 0, d => d
 | r + 1, d => roundsD us r (passD 0 us d)
def doneD (us : List (List Int)) : List Bool := roundsD us us.length (List.replicate us.length false)
def cycU (us : List (List Int)) : Bool := (doneD us).any fun b => !b

theorem stepD_len {d : List Bool} {i : Nat} {l : List Int} : (stepD d i l).length = d.length := by simp [stepD]

theorem rdyD_take {d : List Bool} {l : List Int} {i : Nat} (h : i < l.length) : rdyD d (l.take (i + 1)) = (rdyD d (l.take i) && d.getD (l[i]).toNat false) := by
 unfold rdyD
 rw [List.take_add_one, List.getElem?_eq_getElem h, List.all_append]; simp

theorem drop_off {m : Md} : ∀ {k : Nat}, k ≤ m.pages.length + 1 → (allNodes m).drop (offR m k) = nodesFrom m k
 | 0, _ => rfl
 | k + 1, h => by
   simp only [offR]
   rw [← List.drop_drop, drop_off (by omega : k ≤ _), nodesFrom_step (by omega), ← nodesAt_len, List.drop_left]

theorem num_get {m : Md} {x : Node} (hx : x ∈ allNodes m) : 0 ≤ numR m x ∧ (allNodes m)[(numR m x).toNat]? = some x := by
 obtain ⟨h1, h2, h3, h4⟩ := mem_all.1 hx
 obtain ⟨xk, a, i⟩ := x
 dsimp only at h1 h2 h3 h4
 subst h1
 have hb : (a + 1).toNat < m.pages.length + 1 := by omega
 have e := drop_off (m := m) (k := (a + 1).toNat) (by omega)
 have ha : (((a + 1).toNat : Nat) : Int) - 1 = a := by omega
 rw [nodesFrom_step hb, ha] at e
 have hi : i.toNat < (gatesM m a).length := by omega
 have g : ((allNodes m).drop (offR m (a + 1).toNat))[i.toNat]? = some (2, a, i) := by
  rw [e, List.getElem?_append_left (by rw [nodesAt_len]; exact hi), nodesAt_get hi, Int.toNat_of_nonneg h3]
 rw [List.getElem?_drop] at g
 have hn : numR m (2, a, i) = i + offR m (a + 1).toNat := rfl
 refine ⟨by rw [hn]; omega, ?_⟩
 rw [hn, show (i + (offR m (a + 1).toNat : Int)).toNat = offR m (a + 1).toNat + i.toNat by omega]
 exact g

theorem uses_lt {m : Md} : ∀ l ∈ usesM m, ∀ k ∈ l, 0 ≤ k ∧ k < ((usesM m).length : Int) := by
 intro l hl k hk
 unfold usesM at hl
 obtain ⟨x, hx, rfl⟩ := List.mem_map.1 hl
 unfold usesAt usesL at hk
 obtain ⟨y, hy, rfl⟩ := List.mem_map.1 hk
 obtain ⟨hy, h2⟩ := List.mem_filter.1 hy
 obtain ⟨s, _, rfl⟩ := List.mem_map.1 hy
 obtain ⟨g1, g2⟩ := num_get (findX_gate (mem_all.1 hx).2.1 (of_decide_eq_true h2))
 have := (List.getElem?_eq_some_iff.1 g2).1
 refine ⟨g1, ?_⟩
 simp only [usesM, List.length_map]
 omega

theorem leRL_false : ∀ (n : Nat), leRL (List.replicate n AV.ff) ((List.replicate n false).map AV.bool)
 | 0 => trivial
 | n + 1 => ⟨rfl, leRL_false n⟩

theorem leRL_set {A : AV} {b : Bool} (h : leR A (.bool b)) : ∀ (d : List Bool) (i : Nat), leRL ((d.map AV.bool).set i A) ((d.set i b).map AV.bool)
 | [], _ => trivial
 | _ :: _, 0 => ⟨h, leRL_refl _⟩
 | x :: d, i + 1 => ⟨leR_refl _, leRL_set h d i⟩

theorem c_cycle (m : Md) (hB : MdB m) (ht : ∀ p : Int, 0 ≤ p → p < (m.pages.length : Int) → atS (pageTop m p) = false) (hn : (usesM m).length ≤ 100000) : FnH Tryz.prog 77 [m.av] [] (.bool (cycU (usesM m))) [] := by
 have cu := c_uses m hB ht _ rfl
 have hlt := uses_lt (m := m)
 refine FnH.intro lay mixed Tryz.func77 (by kernel_rfl) rfl (by kernel_rfl) rfl fun hok => ?_
 ((try dsimp only[argC,succC]);(try dsimp only[awp]);(conv=>whnf))
 refine .pure _ _ ?_ ⟨rfl, rfl⟩ cu fun hoku => ?_
 ·exact leL_refl _
 generalize usesM m = us at *
 ((try dsimp only[awp]);(conv=>whnf))
 rw [show (((us.map zL).length : Nat) : Int) = (us.length : Int) by simp]
 refine ⟨⟨by omega, by omega, by simp; omega, by omega⟩, .wr ?_⟩
 ((try dsimp only[awp]);(conv=>whnf))
 refine LoopE.of <| LoopSpec.inv (.refl _ _) (fun (q : Nat × List Bool) => q.1 ≤ us.length ∧ q.2.length = us.length ∧ roundsD us (us.length - q.1) q.2 = doneD us)
  (fun q => [(19, .int .i64 q.1)]) (fun q => [(1, .arr 1 us.length (q.2.map .bool)), (0, .box m.av)]) (fun q => us.length - q.1) (0, List.replicate us.length false) ?_ (fun _ => rfl) ?_ ?_
 ·exact ⟨Nat.zero_le _, by simp, rfl⟩
 ·refine ⟨?_, .mk ?_ ⟨by simp, by simp, trivial⟩⟩
  ·(repeat' first|exact rfl|exact trivial|exact wR|exact lR _|apply aI)
  ·(repeat' first|exact rfl|exact trivial|exact wR|exact lR _|apply aI)
   all_goals first | (simp; done) | exact leRL_false _
 rintro ⟨r, d⟩ ⟨hr, hd, hF⟩ _
 dsimp only at hr hd hF
 ((try dsimp only[awp]);(conv=>whnf))
 refine And.intro (fun h => ?_) (fun h => ?_)
 ·have hrl : r < us.length := by simpa using h
  rw [show us.length - r = (us.length - (r + 1)) + 1 by omega] at hF
  simp only [roundsD] at hF
  clear h
  ((try dsimp only[awp]);(conv=>whnf))
  refine LoopE.of <| LoopSpec.inv (.refl _ _) (fun (q : Nat × List Bool) => q.1 ≤ us.length ∧ q.2.length = us.length ∧ passD 0 us d = passD q.1 (us.drop q.1) q.2)
   (fun q => [(23, .int .i64 q.1)]) (fun q => [(1, .arr 1 us.length (q.2.map .bool)), (0, .box m.av)]) (fun q => us.length - q.1) (0, d) ?_ (fun _ => rfl) ?_ ?_
  ·exact ⟨Nat.zero_le _, hd, rfl⟩
  ·refine ⟨?_, .mk ?_ ⟨by simp, by simp, trivial⟩⟩
   ·(repeat' first|exact rfl|exact trivial|exact wR|exact lR _|apply aI)
   ·(repeat' first|exact rfl|exact trivial|exact wR|exact lR _|apply aI)
  rintro ⟨i, d1⟩ ⟨hi, hd1, hP⟩ _
  dsimp only at hi hd1 hP
  ((try dsimp only[awp]);(conv=>whnf))
  refine And.intro (fun h => ?_) (fun h => ?_)
  ·have hil : i < us.length := by simpa using h
   have hul := hlt _ (List.getElem_mem hil)
   have hll : (us[i]).length ≤ 9223372036854775807 := by
    have := OkL_map hoku.2 _ (List.getElem_mem hil)
    simp only [Ok] at this
    simpa [maxL] using this.1
   rw [List.drop_eq_getElem_cons hil] at hP
   simp only [passD] at hP
   ((try dsimp only[awp]);(conv=>whnf))
   refine aidx hil ?_
   generalize us[i] = l at *
   ((try dsimp only[awp]);(conv=>whnf))
   refine LoopE.of <| LoopSpec.inv (.refl _ _) (fun (q : Nat) => q ≤ l.length)
    (fun q => [(30, .int .i64 q), (7, .bool (rdyD d1 (l.take q)))]) (fun q => [(1, .arr 1 us.length (d1.map .bool)), (0, .box m.av)]) (fun q => l.length - q) 0 ?_ (fun _ => rfl) ?_ ?_
   ·exact Nat.zero_le _
   ·refine ⟨?_, .mk ?_ ⟨by simp, by simp, trivial⟩⟩
    ·(repeat' first|exact rfl|exact trivial|exact wR|exact lR _|apply aI)
    ·(repeat' first|exact rfl|exact trivial|exact wR|exact lR _|apply aI)
   rintro q hq _
   ((try dsimp only[awp]);(conv=>whnf))
   refine And.intro (fun hh => ?_) (fun hh => ?_)
   ·have hql : q < l.length := by simpa using hh
    have hrt := rdyD_take (d := d1) hql
    have hk := hul _ (List.getElem_mem hql)
    ((try dsimp only[awp]);(conv=>whnf))
    refine aidx hql ?_
    generalize l[q] = k at *
    ((try dsimp only[awp]);(conv=>whnf))
    refine And.intro (fun hy => ?_) (fun hy => ?_)
    ·((try dsimp only[awp]);(conv=>whnf))
     refine ⟨by simp; omega, ?_⟩
     ((try dsimp only[awp]);(conv=>whnf))
     refine aidxN' false (i := k.toNat) (by simp) (by omega) ?_
     refine ⟨rfl, ?_⟩
     ((try dsimp only[awp]);(conv=>whnf))
     (refine ⟨inr64 (by omega) (by omega),?_⟩;(conv=>whnf))
     refine ⟨q + 1, ?_, ?_, ?_⟩
     ·exact hql
     ·rw [hrt, hy, Bool.true_and]
      refine ⟨?_, .mk ?_ ⟨by simp, by simp, trivial⟩⟩
      ·(repeat' first|exact rfl|exact trivial|exact wR|exact lR _|apply aI)
      ·(repeat' first|exact rfl|exact trivial|exact wR|exact lR _|apply aI)
     ·omega
    ·((try dsimp only[awp]);(conv=>whnf))
     (refine ⟨inr64 (by omega) (by omega),?_⟩;(conv=>whnf))
     refine ⟨q + 1, ?_, ?_, ?_⟩
     ·exact hql
     ·rw [hrt, hy, Bool.false_and]
      refine ⟨?_, .mk ?_ ⟨by simp, by simp, trivial⟩⟩
      ·(repeat' first|exact rfl|exact trivial|exact wR|exact lR _|apply aI)
      ·(repeat' first|exact rfl|exact trivial|exact wR|exact lR _|apply aI)
     ·omega
   ·have hql : q = l.length := by have : ¬ q < l.length := by simpa using hh
                                  omega
    subst hql
    rw [List.take_length]
    ((try dsimp only[awp]);(conv=>whnf))
    refine ⟨by simp; omega, ?_⟩
    ((try dsimp only[awp]);(conv=>whnf))
    refine aidxN' false (i := i) (by simp) (by omega) ?_
    refine ⟨rfl, ?_⟩
    ((try dsimp only[awp]);(conv=>whnf))
    refine And.intro (fun hy => ?_) (fun hy => ?_)
    ·((try dsimp only[awp]);(conv=>whnf))
     refine ⟨by omega, ?_⟩
     ((try dsimp only[awp]);(conv=>whnf))
     refine ⟨by simp; omega, rfl, ?_⟩
     have hsd : stepD d1 i l = d1.set i true := by unfold stepD; rw [hy]; rfl
     ((try dsimp only[awp]);(conv=>whnf))
     (refine ⟨inr64 (by omega) (by omega),?_⟩;(conv=>whnf))
     refine ⟨(i + 1, stepD d1 i l), ?_, ?_, ?_⟩
     ·exact ⟨hil, by show (stepD d1 i l).length = _; rw [stepD_len]; exact hd1, hP⟩
     ·rw [hsd]
      refine ⟨?_, .mk ?_ ⟨by simp, by simp, trivial⟩⟩
      ·(repeat' first|exact rfl|exact trivial|exact wR|exact lR _|apply aI)
      ·(repeat' first|exact rfl|exact trivial|exact wR|exact lR _|apply aI)
       all_goals first | (simp; done) | (rw [show 0 + ((i : Nat) : Int).toNat = i by simp]; exact leRL_set (A := .tt) (b := true) rfl d1 i)
     ·show us.length - (i + 1) < us.length - i
      omega
    ·((try dsimp only[awp]);(conv=>whnf))
     refine ⟨by omega, ?_⟩
     ((try dsimp only[awp]);(conv=>whnf))
     refine ⟨by simp; omega, rfl, ?_⟩
     have hsd : stepD d1 i l = d1.set i (rdyD d1 l) := by unfold stepD; rw [hy]; rw [Bool.false_or]
     ((try dsimp only[awp]);(conv=>whnf))
     (refine ⟨inr64 (by omega) (by omega),?_⟩;(conv=>whnf))
     refine ⟨(i + 1, stepD d1 i l), ?_, ?_, ?_⟩
     ·exact ⟨hil, by show (stepD d1 i l).length = _; rw [stepD_len]; exact hd1, hP⟩
     ·rw [hsd]
      refine ⟨?_, .mk ?_ ⟨by simp, by simp, trivial⟩⟩
      ·(repeat' first|exact rfl|exact trivial|exact wR|exact lR _|apply aI)
      ·(repeat' first|exact rfl|exact trivial|exact wR|exact lR _|apply aI)
       all_goals first | (simp; done) | (rw [show 0 + ((i : Nat) : Int).toNat = i by simp]; exact leRL_set (A := .bool (rdyD d1 l)) (b := (rdyD d1 l)) rfl d1 i)
     ·show us.length - (i + 1) < us.length - i
      omega
  have hil : i = us.length := by have : ¬ i < us.length := by simpa using h
                                 omega
  rw [List.drop_eq_nil_of_le (by omega)] at hP
  simp only [passD] at hP
  rw [hP] at hF
  ((try dsimp only[awp]);(conv=>whnf))
  (refine ⟨inr64 (by omega) (by omega),?_⟩;(conv=>whnf))
  refine ⟨(r + 1, d1), ?_, ?_, ?_⟩
  ·exact ⟨hrl, hd1, hF⟩
  ·refine ⟨?_, .mk ?_ ⟨by simp, by simp, trivial⟩⟩
   ·(repeat' first|exact rfl|exact trivial|exact wR|exact lR _|apply aI)
   ·(repeat' first|exact rfl|exact trivial|exact wR|exact lR _|apply aI)
  ·show us.length - (r + 1) < us.length - r
   omega
 have hrl : r = us.length := by have : ¬ r < us.length := by simpa using h
                                omega
 rw [hrl, Nat.sub_self] at hF
 simp only [roundsD] at hF
 have hcy : cycU us = d.any fun b => !b := by unfold cycU; rw [hF]
 rw [hcy]
 clear h
 ((try dsimp only[awp]);(conv=>whnf))
 refine LoopE.of <| LoopSpec.inv (.refl _ _) (fun (q : Nat) => q ≤ us.length ∧ ∀ (z : Nat) (hz : z < d.length), z < q → d[z] = true)
  (fun q => [(56, .int .i64 q)]) (fun q => [(1, .arr 1 us.length (d.map .bool)), (0, .box m.av)]) (fun q => us.length - q) 0 ?_ (fun _ => rfl) ?_ ?_
 ·exact ⟨Nat.zero_le _, by omega⟩
 ·refine ⟨?_, .mk ?_ ⟨by simp, by simp, trivial⟩⟩
  ·(repeat' first|exact rfl|exact trivial|exact wR|exact lR _|apply aI)
  ·(repeat' first|exact rfl|exact trivial|exact wR|exact lR _|apply aI)
 rintro q ⟨hq, hz⟩ _
 ((try dsimp only[awp]);(conv=>whnf))
 refine And.intro (fun hh => ?_) (fun hh => ?_)
 ·have hql : q < us.length := by simpa using hh
  have hqd : q < d.length := by omega
  ((try dsimp only[awp]);(conv=>whnf))
  refine ⟨by omega, ?_⟩
  ((try dsimp only[awp]);(conv=>whnf))
  refine aidxN' false (i := q) (by simp) hqd ?_
  refine ⟨rfl, ?_⟩
  rw [getD_lt' hqd]
  ((try dsimp only[awp]);(conv=>whnf))
  refine And.intro (fun hy => ?_) (fun hy => ?_)
  ·rw [show (d.any fun b => !b) = true from List.any_eq_true.2 ⟨d[q], List.getElem_mem hqd, by simpa using hy⟩]
   ((try dsimp only[awp]);(conv=>whnf))
   (refine fM ?_;(conv=>whnf);refine ⟨?_,rfl⟩;(conv=>whnf))
   (repeat' first|exact rfl|exact trivial|exact wR|exact lR _|apply aI)
  ·((try dsimp only[awp]);(conv=>whnf))
   (refine ⟨inr64 (by omega) (by omega),?_⟩;(conv=>whnf))
   refine ⟨q + 1, ?_, ?_, ?_⟩
   ·refine ⟨hql, fun z hz1 hzq => ?_⟩
    by_cases e : z = q
    ·subst e; simpa using hy
    ·exact hz z hz1 (by omega)
   ·refine ⟨?_, .mk ?_ ⟨by simp, by simp, trivial⟩⟩
    ·(repeat' first|exact rfl|exact trivial|exact wR|exact lR _|apply aI)
    ·(repeat' first|exact rfl|exact trivial|exact wR|exact lR _|apply aI)
   ·omega
 have hql : q = us.length := by have : ¬ q < us.length := by simpa using hh
                                omega
 rw [show (d.any fun b => !b) = false from List.any_eq_false.2 fun b hb => by
  obtain ⟨z, hz1, rfl⟩ := List.getElem_of_mem hb
  simp [hz z hz1 (by omega)]]
 ((try dsimp only[awp]);(conv=>whnf))
 (refine fM ?_;(conv=>whnf);refine ⟨?_,rfl⟩;(conv=>whnf))
 (repeat' first|exact rfl|exact trivial|exact wR|exact lR _|apply aI)
end S

open Go Go.AL Go.Proofs
namespace S
set_option maxRecDepth 100000

theorem findR_res {m : Md} {a : Int} {s : Str} (h : okN m (resOn m a s)) : findR m a s = resOn m a s := by
 unfold findR
 by_cases h1 : 0 ≤ i_event m.evs s
 ·rw [if_pos h1]; unfold resOn; rw [if_pos h1]
 by_cases h2 : 0 ≤ i_house m.hs s
 ·rw [if_neg h1, if_pos h2]; unfold resOn; rw [if_neg h1, if_pos h2]
 have e : resOn m a s = (2, a, i_gate (gatesM m a) s) := by unfold resOn; rw [if_neg h1, if_neg h2]
 rw [e] at h ⊢
 have h3 : 0 ≤ i_gate (gatesM m a) s := by
  rcases h with h | h | h
  ·exact absurd (show (2 : Int) = 0 from h.1) (by decide)
  ·exact absurd (show (2 : Int) = 1 from h.1) (by decide)
  ·exact (mem_all.1 h).2.2.1
 rw [if_neg h1, if_neg h2, if_pos h3]

theorem find_res {m : Md} {a : Int} {s : Str} (h : okN m (resR m a s)) (hp : atS s = true → 0 ≤ i_page m.pages (s.drop 1)) : findX m a s = resR m a s := by
 unfold findX
 by_cases e : atS s = true
 ·have hr : resR m a s = resOn m (i_page m.pages (s.drop 1)) (pageTop m (i_page m.pages (s.drop 1))) := if_pos e
  have := hp e
  rw [hr] at h ⊢
  rw [if_pos e, if_neg (by omega), findR_res h]
 ·have hr : resR m a s = resOn m a s := if_neg e
  rw [hr] at h ⊢
  rw [if_neg e, findR_res h]

theorem uses_kids {m : Md} (hc : ClosedM m) {x : Node} (hx : x ∈ allNodes m) : usesAt m x = ((kidsM m x).filter fun y => decide (y.1 = 2)).map (numR m) := by
 unfold usesAt usesL kidsM
 have : (gateAt m x).ins.map (findX m x.2.1) = (gateAt m x).ins.map (resR m x.2.1) := List.map_congr_left fun s hs => find_res (hc x hx s hs).2.2 (hc x hx s hs).2.1
 rw [this]

def LeD (d e : List Bool) : Prop := ∀ i : Nat, d.getD i false = true → e.getD i false = true

theorem LeD.refl (d : List Bool) : LeD d d := fun _ h => h
theorem LeD.trans {a b c : List Bool} (h : LeD a b) (g : LeD b c) : LeD a c := fun i e => g i (h i e)

theorem getD_set {d : List Bool} {i j : Nat} {b : Bool} : (d.set i b).getD j false = if i = j ∧ j < d.length then b else d.getD j false := by
 rw [List.getD_eq_getElem?_getD, List.getElem?_set, List.getD_eq_getElem?_getD]
 by_cases e : i = j
 ·subst e
  by_cases h : i < d.length
  ·simp [h]
  ·simp [h]
 ·simp [e]

theorem rdyD_le {d e : List Bool} (h : LeD d e) {l : List Int} (hr : rdyD d l = true) : rdyD e l = true := by
 unfold rdyD at hr ⊢
 exact List.all_eq_true.2 fun k hk => h _ (List.all_eq_true.1 hr k hk)

theorem stepD_le {d : List Bool} {i : Nat} {l : List Int} : LeD d (stepD d i l) := by
 intro j h
 unfold stepD
 rw [getD_set]
 split
 ·rename_i e; rw [e.1, h, Bool.true_or]
 ·exact h

theorem passD_le : ∀ (us : List (List Int)) (i : Nat) (d : List Bool), LeD d (passD i us d)
 | [], _, d => .refl d
 | l :: us, i, d => stepD_le.trans (passD_le us (i + 1) _)

theorem passD_len : ∀ (us : List (List Int)) (i : Nat) (d : List Bool), (passD i us d).length = d.length
 | [], _, _ => rfl
 | l :: us, i, d => by simp only [passD]; rw [passD_len us, stepD_len]

theorem pass_ready : ∀ (us : List (List Int)) (j : Nat) (d : List Bool) (k : Nat) (h : k < us.length), j + k < d.length → rdyD d us[k] = true → (passD j us d).getD (j + k) false = true
 | [], _, _, _, h, _, _ => absurd h (by simp)
 | l :: us, j, d, 0, _, hd, hr => by
   simp only [passD]
   refine passD_le us (j + 1) _ _ ?_
   unfold stepD
   rw [getD_set, if_pos ⟨rfl, hd⟩]
   have hr : rdyD d l = true := hr
   rw [hr, Bool.or_true]
 | l :: us, j, d, k + 1, h, hd, hr => by
   simp only [passD]
   have := pass_ready us (j + 1) (stepD d j l) k (by simpa using h) (by rw [stepD_len]; omega) (rdyD_le stepD_le hr)
   rw [show j + (k + 1) = j + 1 + k by omega]
   exact this

theorem cnt_lt : ∀ (d e : List Bool), d.length = e.length → LeD d e → e.count false ≤ d.count false ∧ ((∃ i : Nat, i < d.length ∧ d.getD i false = false ∧ e.getD i false = true) → e.count false < d.count false)
 | [], [], _, _ => ⟨Nat.le_refl _, by rintro ⟨i, h, _⟩; simp at h⟩
 | [], _ :: _, h, _ => by simp at h
 | _ :: _, [], h, _ => by simp at h
 | x :: d, y :: e, h, hl => by
   obtain ⟨h1, h2⟩ := cnt_lt d e (by simpa using h) fun i hi => by simpa using hl (i + 1) (by simpa using hi)
   have h0 : x = true → y = true := fun hx => by simpa using hl 0 (by simpa using hx)
   simp only [List.count_cons]
   refine ⟨?_, ?_⟩
   ·cases x <;> cases y <;> simp_all <;> omega
   ·rintro ⟨i, hi, hd, he⟩
    cases i with
    | zero =>
      have hd : x = false := by simpa using hd
      have he : y = true := by simpa using he
      subst hd; subst he
      simp; omega
    | succ i =>
      have h3 := h2 ⟨i, by simpa using hi, by simpa using hd, by simpa using he⟩
      cases x <;> cases y <;> simp_all <;> omega

theorem ready_min {us : List (List Int)} {d : List Bool} {rk : Nat → Nat} (hrk : ∀ (i : Nat) (h : i < us.length), ∀ k ∈ us[i], k.toNat < us.length ∧ rk k.toNat < rk i) :
  ∀ (R i : Nat), i < us.length → rk i ≤ R → d.getD i false = false → ∃ (j : Nat) (h : j < us.length), d.getD j false = false ∧ rdyD d us[j] = true
 | R, i, hi, hR, hd => by
   by_cases hr : rdyD d us[i] = true
   ·exact ⟨i, hi, hd, hr⟩
   have : ∃ k ∈ us[i], d.getD k.toNat false = false := by
    unfold rdyD at hr
    rw [Bool.not_eq_true, List.all_eq_false] at hr
    obtain ⟨k, hk, h⟩ := hr
    exact ⟨k, hk, by simpa using h⟩
   obtain ⟨k, hk, hkd⟩ := this
   obtain ⟨h1, h2⟩ := hrk i hi k hk
   match R, hR with
   | 0, hR => omega
   | R + 1, hR => exact ready_min hrk R k.toNat h1 (by omega) hkd

theorem count_pos {d : List Bool} (h : d.count false ≠ 0) : ∃ i : Nat, i < d.length ∧ d.getD i false = false := by
 have : false ∈ d := List.count_pos_iff.1 (by omega)
 obtain ⟨i, hi, e⟩ := List.getElem_of_mem this
 exact ⟨i, hi, by rw [getD_lt' hi]; exact e⟩

theorem rounds_cnt {us : List (List Int)} {rk : Nat → Nat} (hrk : ∀ (i : Nat) (h : i < us.length), ∀ k ∈ us[i], k.toNat < us.length ∧ rk k.toNat < rk i) :
  ∀ (r : Nat) (d : List Bool), d.length = us.length → d.count false ≤ r → (roundsD us r d).count false = 0
 | 0, d, _, h => by simp only [roundsD]; omega
 | r + 1, d, hd, h => by
   simp only [roundsD]
   refine rounds_cnt hrk r _ (by rw [passD_len]; exact hd) ?_
   obtain ⟨h1, h2⟩ := cnt_lt d (passD 0 us d) (passD_len us 0 d).symm (passD_le us 0 d)
   by_cases h0 : d.count false = 0
   ·omega
   obtain ⟨i, hi, hid⟩ := count_pos h0
   obtain ⟨j, hj, hjd, hjr⟩ := ready_min hrk (rk i) i (by omega) (Nat.le_refl _) hid
   have := h2 ⟨j, by omega, hjd, by have := pass_ready us 0 d j hj (by omega) hjr; rwa [Nat.zero_add] at this⟩
   omega

theorem cycU_false {us : List (List Int)} {rk : Nat → Nat} (hrk : ∀ (i : Nat) (h : i < us.length), ∀ k ∈ us[i], k.toNat < us.length ∧ rk k.toNat < rk i) : cycU us = false := by
 have := rounds_cnt hrk us.length (List.replicate us.length false) (by simp) (by rw [List.count_replicate_self]; exact Nat.le_refl _)
 unfold cycU doneD
 rw [List.any_eq_false]
 intro b hb
 have h0 := List.count_eq_zero.1 this
 cases b
 ·exact absurd hb h0
 ·simp

def InvD (us : List (List Int)) (d : List Bool) : Prop := ∃ rk : Nat → Nat, ∀ i, d.getD i false = true → ∀ k ∈ us.getD i [], d.getD k.toNat false = true ∧ rk k.toNat < rk i

theorem sumI_ge {rk : Nat → Nat} : ∀ {l : List Int} {k : Int}, k ∈ l → rk k.toNat ≤ (l.map fun k => rk k.toNat).sum
 | [], _, h => by simp at h
 | x :: l, k, h => by
   simp only [List.map_cons, List.sum_cons]
   rcases List.mem_cons.1 h with rfl | h
   ·omega
   ·have := sumI_ge (rk := rk) h; omega

theorem InvD.step {us : List (List Int)} {d : List Bool} (h : InvD us d) {i : Nat} {l : List Int} (hl : us.getD i [] = l) : InvD us (stepD d i l) := by
 obtain ⟨rk, hr⟩ := h
 by_cases h0 : d.getD i false = false ∧ rdyD d l = true
 ·obtain ⟨h1, h2⟩ := h0
  have hne : ∀ j, d.getD j false = true → j ≠ i := fun j hj e => by rw [e, h1] at hj; cases hj
  refine ⟨fun j => if j = i then 1 + (l.map fun k => rk k.toNat).sum else rk j, fun j hj k hk => ?_⟩
  by_cases e : j = i
  ·subst e
   rw [hl] at hk
   have hkd := List.all_eq_true.1 h2 k hk
   refine ⟨stepD_le _ hkd, ?_⟩
   dsimp only
   rw [if_neg (hne _ hkd), if_pos rfl]
   have := sumI_ge (rk := rk) hk
   omega
  ·have hj : d.getD j false = true := by
    unfold stepD at hj
    rw [getD_set, if_neg (fun h => e h.1.symm)] at hj
    exact hj
   obtain ⟨g1, g2⟩ := hr j hj k hk
   refine ⟨stepD_le _ g1, ?_⟩
   dsimp only
   rw [if_neg (hne _ g1), if_neg e]
   exact g2
 ·have heq : ∀ j, (stepD d i l).getD j false = d.getD j false := by
   intro j
   unfold stepD
   rw [getD_set]
   split
   ·rename_i e
    obtain ⟨rfl, _⟩ := e
    cases h1 : d.getD i false
    ·cases h2 : rdyD d l
     ·rfl
     ·exact absurd ⟨h1, h2⟩ h0
    ·rfl
   ·rfl
  refine ⟨rk, fun j hj k hk => ?_⟩
  rw [heq] at hj
  rw [heq]
  exact hr j hj k hk

theorem InvD.pass {us : List (List Int)} : ∀ (l : List (List Int)) (i : Nat) (d : List Bool), us.drop i = l → InvD us d → InvD us (passD i l d)
 | [], _, _, _, h => h
 | x :: l, i, d, hl, h => by
   simp only [passD]
   have h1 : us[i]? = some x := by rw [← List.head?_drop, hl]; rfl
   have h2 : us.drop (i + 1) = l := by rw [← List.tail_drop, hl]; rfl
   exact InvD.pass l (i + 1) _ h2 (h.step (by rw [List.getD_eq_getElem?_getD, h1]; rfl))

theorem InvD.rounds {us : List (List Int)} : ∀ (r : Nat) (d : List Bool), InvD us d → InvD us (roundsD us r d)
 | 0, _, h => h
 | r + 1, d, h => by simp only [roundsD]; exact InvD.rounds r _ (InvD.pass us 0 d rfl h)

theorem roundsD_len {us : List (List Int)} : ∀ (r : Nat) (d : List Bool), (roundsD us r d).length = d.length
 | 0, _ => rfl
 | r + 1, d => by simp only [roundsD]; rw [roundsD_len r, passD_len]

theorem cycU_rank {us : List (List Int)} (h : cycU us = false) : ∃ rk : Nat → Nat, ∀ i, i < us.length → ∀ k ∈ us.getD i [], rk k.toNat < rk i := by
 obtain ⟨rk, hr⟩ := InvD.rounds us.length (List.replicate us.length false) (us := us) ⟨fun _ => 0, fun i hi => by
  exfalso
  rw [List.getD_eq_getElem?_getD, List.getElem?_replicate] at hi
  split at hi <;> simp at hi⟩
 refine ⟨rk, fun i hi k hk => (hr i ?_ k hk).2⟩
 unfold cycU doneD at h
 have hlen : (roundsD us us.length (List.replicate us.length false)).length = us.length := by rw [roundsD_len]; simp
 rw [List.any_eq_false] at h
 rw [getD_lt' (by omega)]
 simpa using h _ (List.getElem_mem (by omega))

theorem cyc_of_rank {m : Md} (hc : ClosedM m) {rank : Node → Nat} (hr : RankM m rank) : cycR m = false := by
 unfold cycR
 have key : ∀ (l : List Node) (s : WS Unit), (∀ y ∈ l, okN m y) → (∀ z, look s.es z ≠ 1) → (kidsF (walk0 m) l s).1 = false := by
  intro l
  induction l with
  | nil => intro s _ _; rfl
  | cons y l ih =>
    intro s hl hs
    obtain ⟨w1, w2⟩ := walk_false (step := fun (_ : Unit) _ => ()) (okN m) (fun x hx h2 => (okN_kids hc hx h2).2) rank hr (fuelM m) y s (hl y (by simp)) (fun _ z hz => absurd hz (hs z))
    simp only [kidsF]
    rw [if_neg (by show ¬ (walkF (kidsM m) (fun _ _ => ()) (fuelM m) y s).1 = true; rw [w1]; simp)]
    exact ih _ (fun z hz => hl z (by simp [hz])) fun z hz => hs z (w2 z hz)
 exact key _ _ (fun y hy => .inr (.inr hy)) fun z => by simp [look]

theorem uses_get {m : Md} {x : Node} (hx : x ∈ allNodes m) : (usesM m).getD (numR m x).toNat [] = usesAt m x := by
 obtain ⟨_, h⟩ := num_get hx
 unfold usesM
 rw [List.getD_eq_getElem?_getD, List.getElem?_map, h]; rfl

theorem cyc_eq {m : Md} (hc : ClosedM m) : cycU (usesM m) = cycR m := by
 cases h : cycR m
 ·obtain ⟨rank, hr⟩ := cyc_rank hc h
  refine cycU_false (rk := fun i => rank ((allNodes m).getD i default)) fun i hi k hk => ?_
  have hiN : i < (allNodes m).length := by simpa [usesM] using hi
  have hx := List.getElem_mem hiN
  have hui : (usesM m)[i] = usesAt m (allNodes m)[i] := by simp [usesM]
  rw [hui, uses_kids hc hx] at hk
  obtain ⟨y, hy, rfl⟩ := List.mem_map.1 hk
  obtain ⟨hy, h2⟩ := List.mem_filter.1 hy
  have h2 : y.1 = 2 := of_decide_eq_true h2
  have hyo := (okN_kids hc (.inr (.inr hx)) (mem_all.1 hx).1).2 y hy
  obtain ⟨g1, g2⟩ := num_get (okN_kids hc hyo h2).1
  have g3 := (List.getElem?_eq_some_iff.1 g2).1
  refine ⟨by simpa [usesM] using g3, ?_⟩
  rw [getD_lt' hiN, List.getD_eq_getElem?_getD, g2]
  exact hr _ (.inr (.inr hx)) (mem_all.1 hx).1 y hy h2
 ·cases h2 : cycU (usesM m)
  ·exfalso
   obtain ⟨rk, hr⟩ := cycU_rank h2
   have : cycR m = false := cyc_of_rank hc (rank := fun x => rk (numR m x).toNat) fun x hx hx2 y hy hy2 => by
    have hxm := (okN_kids hc hx hx2).1
    obtain ⟨_, g2⟩ := num_get hxm
    have g3 := (List.getElem?_eq_some_iff.1 g2).1
    refine hr (numR m x).toNat (by simpa [usesM] using g3) (numR m y) ?_
    rw [uses_get hxm, uses_kids hc hxm]
    exact List.mem_map.2 ⟨y, List.mem_filter.2 ⟨hy, by simpa using hy2⟩, rfl⟩
   rw [this] at h; cases h
  ·rfl
end S

open Go Go.AL Go.Proofs
namespace S
set_option maxRecDepth 100000

theorem MdX.gatesM {m : Md} (hX : MdX m) {a : Int} (ha : a = -1 ∨ (0 ≤ a ∧ a < (m.pages.length : Int))) : ∀ x ∈ gatesM m a, shortX x.dorm := by
 unfold S.gatesM
 split
 ·exact hX.gates
 ·exact hX.pages _ (getD_mem (by omega))

theorem top_noAt {m : Md} (h1 : eventsErr m = 0) (h2 : gatesErrAll m = 0) (h3 : insAll m (atsM m) [] = 0) : ∀ p : Int, 0 ≤ p → p < (m.pages.length : Int) → atS (pageTop m p) = false := by
 intro p hp0 hp1
 have hp : p = -1 ∨ (0 ≤ p ∧ p < (m.pages.length : Int)) := .inr ⟨hp0, hp1⟩
 obtain ⟨sp, hs⟩ := insAll_in h3 p (ats_mem.2 hp)
 rcases (pageIns_in hs).2 (by omega) with h | h
 ·obtain ⟨i, hi, _, e⟩ := idx_name h
  have := gatesErrAll_zero h2 hp i hi
  unfold gateErrM at this
  split at this
  ·cases this
  rename_i g
  rw [← e]
  exact name_noAt (by simpa using g)
 ·obtain ⟨i, hi, _, e⟩ := idx_name h
  have := (eventsErr_zero h1).2.2.1 i hi
  unfold evErr at this
  split at this
  ·cases this
  rename_i g
  rw [← e]
  exact name_noAt (by simpa using g)

theorem uses_short {m : Md} (hB : MdB m) : (usesM m).length ≤ 100000 := by
 have e := drop_off (m := m) (k := m.pages.length + 1) (Nat.le_refl _)
 rw [nodesFrom_end (Nat.le_refl _)] at e
 have := List.drop_eq_nil_iff.1 e
 have := offR_le hB (k := m.pages.length + 1) (Nat.le_refl _)
 have := hB.pages
 simp only [usesM, List.length_map]
 omega

theorem checkM_first (m : Md) : checkM m = if firstR m ≠ 0 then firstR m else if gatesErrAll m ≠ 0 then gatesErrAll m else if inputsR m ≠ 0 then inputsR m
  else if groupsErr m ≠ 0 then groupsErr m else if phasesErr m ≠ 0 then phasesErr m else if cycR m = true then 14 else 0 := by
 unfold checkM firstR inputsR
 by_cases h1 : nameR m.name = false
 ·rw [if_pos h1, if_pos h1, if_pos (by decide)]
 rw [if_neg h1, if_neg h1]
 by_cases h2 : eventsErr m ≠ 0
 ·rw [if_pos h2, if_pos h2, if_pos h2]
 rw [if_neg h2, if_neg h2]
 by_cases h3 : pagesErr m ≠ 0
 ·rw [if_pos h3, if_pos h3]
 rw [if_neg h3, if_neg h3]
 by_cases h4 : gatesErrAll m ≠ 0
 ·rw [if_pos h4, if_pos h4]
 rw [if_neg h4, if_neg h4]
 by_cases h5 : insAll m (atsM m) [] ≠ 0
 ·rw [if_pos h5, if_pos h5, if_pos h5]
 rw [if_neg h5, if_neg h5]
 by_cases h6 : isInR m (-1) m.top = false
 ·rw [if_pos h6, if_pos h6, if_pos (by decide)]
 ·rw [if_neg h6, if_neg h6, if_neg (show ¬ (0 : Int) ≠ 0 by decide)]

theorem first_zero {m : Md} (h : firstR m = 0) : eventsErr m = 0 := by
 unfold firstR at h
 split at h
 ·cases h
 split at h
 ·rename_i h1; exact absurd h h1
 ·rename_i h1; simpa using h1

theorem c_refCheck (h1c : OneC) (m : Md) (hX : MdX m) (hB : MdB m) (R : AV) (hR : R = .int .i64 (checkM m)) : FnH Tryz.prog 32 [m.av] [] R [] := by
 have hpl := hB.pages
 have cf := c_first h1c m hX hB _ rfl
 have ci := c_inputs m hB _ rfl
 have cg := c_groups h1c m hX hB _ rfl
 have cp := c_phases h1c m hX hB _ rfl
 refine FnH.intro lay mixed Tryz.func32 (by kernel_rfl) rfl (by kernel_rfl) rfl fun hok => ?_
 ((try dsimp only[argC,succC]);(try dsimp only[awp]);(conv=>whnf))
 refine .pure _ _ ?_ ⟨rfl, rfl⟩ cf fun _ => ?_
 ·exact leL_refl _
 ((try dsimp only[awp]);(conv=>whnf))
 refine And.intro (fun g1 => ?_) (fun g1 => ?_)
 ·obtain rfl : R = .int .i64 (firstR m) := by rw [hR, checkM_first]; rw [if_pos g1]
  ((try dsimp only[awp]);(conv=>whnf))
  (refine fM ?_;(conv=>whnf);refine ⟨?_,rfl⟩;(conv=>whnf))
  (repeat' first|exact rfl|exact trivial|exact wR|exact lR _|apply aI)
 have z1 : firstR m = 0 := by simpa using g1
 ((try dsimp only[awp]);(conv=>whnf))
 refine LoopE.of <| LoopSpec.inv (.refl _ _) (fun (k : Nat) => k ≤ m.pages.length + 1 ∧ gatesErrAll m = errL (fun _ a => errL (gateErrM m a) 0 (gatesM m a)) k ((atsM m).drop k)) (fun (k : Nat) => [(4, .int .i64 ((k : Int) - 1))]) (fun _ => _) (fun (k : Nat) => m.pages.length + 1 - k) 0 ?_ (fun _ => rfl) ?_ ?_
 ·exact ⟨Nat.zero_le _, rfl⟩
 ·(repeat' first|exact rfl|exact trivial|exact wR|exact lR _|apply aI)
 rintro k ⟨hk, hn⟩ _
 ((try dsimp only[awp]);(conv=>whnf))
 refine And.intro (fun h => ?_) (fun h => ?_)
 ·have hkl : k < m.pages.length + 1 := by simp only [List.length_map] at h; omega
  have ha : (k : Int) - 1 = -1 ∨ (0 ≤ (k : Int) - 1 ∧ (k : Int) - 1 < (m.pages.length : Int)) := by omega
  rw [drop_of_get? (ats_get hkl)] at hn
  simp only [errL] at hn
  have cG := c_rGates m _ ha
  have hXa := hX.gatesM ha
  have cs := fun i hi => c_shape h1c m ((k : Int) - 1) i ha hi (hXa _ (List.getElem_mem hi)) _ rfl
  have hBa := (hB.gatesM ha).1
  clear h
  generalize hage : (k : Int) - 1 = a at *
  ((try dsimp only[awp]);(conv=>whnf))
  refine .pure _ _ ?_ ⟨rfl, rfl⟩ cG fun _ => ?_
  ·exact leL_refl _
  ((try dsimp only[awp]);(conv=>whnf))
  refine LoopE.of <| LoopSpec.inv (.refl _ _) (fun (i : Nat) => i ≤ (gatesM m a).length ∧ errL (gateErrM m a) 0 (gatesM m a) = errL (gateErrM m a) i ((gatesM m a).drop i)) (fun (i : Nat) => [(25, .int .i64 i)]) (fun _ => _) (fun (i : Nat) => (gatesM m a).length - i) 0 ?_ (fun _ => rfl) ?_ ?_
  ·exact ⟨Nat.zero_le _, rfl⟩
  ·(repeat' first|exact rfl|exact trivial|exact wR|exact lR _|apply aI)
  rintro i ⟨hi, hni⟩ _
  ((try dsimp only[awp]);(conv=>whnf))
  refine And.intro (fun h => ?_) (fun h => ?_)
  ·have hil : i < (gatesM m a).length := by simpa using h
   have cs := cs i hil
   rw [errL_step hil] at hni
   clear h
   generalize gateErrM m a i (gatesM m a)[i] = e at *
   ((try dsimp only[awp]);(conv=>whnf))
   refine .pure _ _ ?_ ⟨rfl, rfl⟩ cs fun _ => ?_
   ·exact leL_refl _
   ((try dsimp only[awp]);(conv=>whnf))
   refine And.intro (fun g2 => ?_) (fun g2 => ?_)
   ·rw [if_pos g2] at hni
    rw [hni, if_pos g2] at hn
    obtain rfl : R = .int .i64 (e) := by rw [hR, checkM_first]; rw [if_neg g1, hn, if_pos g2]
    ((try dsimp only[awp]);(conv=>whnf))
    (refine fM ?_;(conv=>whnf);refine ⟨?_,rfl⟩;(conv=>whnf))
    (repeat' first|exact rfl|exact trivial|exact wR|exact lR _|apply aI)
   ·rw [if_neg g2] at hni
    ((try dsimp only[awp]);(conv=>whnf))
    (refine ⟨inr64 (by omega) (by omega),?_⟩;(conv=>whnf))
    refine ⟨i + 1, ?_, ?_, ?_⟩
    ·exact ⟨hil, hni⟩
    ·(repeat' first|exact rfl|exact trivial|exact wR|exact lR _|apply aI)
    ·omega
  have hil : i = (gatesM m a).length := by have : ¬ i < (gatesM m a).length := by simpa using h
                                           omega
  rw [errL_end (by omega)] at hni
  rw [hni, if_neg (by simp)] at hn
  ((try dsimp only[awp]);(conv=>whnf))
  (refine ⟨inr64 (by omega) (by omega),?_⟩;(conv=>whnf))
  refine ⟨k + 1, ?_, ?_, ?_⟩
  ·exact ⟨hkl, hn⟩
  ·refine ⟨?_, .mk ?_ ⟨by simp, trivial⟩⟩
   ·(repeat' first|exact rfl|exact trivial|exact wR|exact lR _|apply aI)
    all_goals (show _ = _; congr 1 <;> omega)
   ·(repeat' first|exact rfl|exact trivial|exact wR|exact lR _|apply aI)
  ·omega
 have hkl : m.pages.length + 1 ≤ k := by simp only [List.length_map] at h; omega
 rw [List.drop_eq_nil_of_le (by rw [ats_len]; omega)] at hn
 simp only [errL] at hn
 have g2 : ¬ gatesErrAll m ≠ 0 := by rw [hn]; simp
 have z2 := hn
 clear h hn hk hkl
 have hck := checkM_first m
 rw [if_neg g1, if_neg g2] at hck
 have hz : inputsR m = 0 → eventsErr m = 0 ∧ insAll m (atsM m) [] = 0 := by
  intro h
  refine ⟨first_zero z1, ?_⟩
  unfold inputsR at h
  split at h
  ·rename_i h1; exact absurd h h1
  ·rename_i h1; simpa using h1
 generalize inputsR m = e1 at *
 generalize groupsErr m = e2 at *
 generalize phasesErr m = e3 at *
 ((try dsimp only[awp]);(conv=>whnf))
 (refine ADraw.auto (by kernel_rfl) ?_;(conv=>whnf))
 refine ACallP.pure _ _ ?_ ⟨rfl, rfl⟩ ci ?_
 ·exact leL_refl _
 ((try dsimp only[awp]);(conv=>whnf))
 refine ACallP.pure _ _ ?_ ⟨rfl, rfl⟩ cg ?_
 ·exact leL_refl _
 ((try dsimp only[awp]);(conv=>whnf))
 refine ACallP.pure _ _ ?_ ⟨rfl, rfl⟩ cp ?_
 ·exact leL_refl _
 ((try dsimp only[awp]);(conv=>whnf))
 refine LoopE.step 4 ?_
 ((try dsimp only[awp]);(conv=>whnf))
 refine And.intro (fun _ => ?_) (fun h => absurd (by simp) h)
 ((try dsimp only[awp]);(conv=>whnf))
 refine AIdx.mk ⟨_, ⟨by decide, rfl⟩, ?_⟩
 ((try dsimp only[awp]);(conv=>whnf))
 refine And.intro (fun g => ?_) (fun g => ?_)
 ·obtain rfl : R = .int .i64 e1 := by rw [hR]; rw [hck, if_pos g]
  ((try dsimp only[awp]);(conv=>whnf))
  (refine fM ?_;(conv=>whnf);refine ⟨?_,rfl⟩;(conv=>whnf))
  (repeat' first|exact rfl|exact trivial|exact wR|exact lR _|apply aI)
 rw [if_neg g] at hck
 have z5 : e1 = 0 := by simpa using g
 clear g
 ((try dsimp only[awp]);(conv=>whnf))
 (refine ⟨inr64 (by omega) (by omega),?_⟩;(conv=>whnf))
 ((try dsimp only[awp]);(conv=>whnf))
 refine And.intro (fun _ => ?_) (fun h => absurd (by simp) h)
 ((try dsimp only[awp]);(conv=>whnf))
 refine AIdx.mk ⟨_, ⟨by decide, rfl⟩, ?_⟩
 ((try dsimp only[awp]);(conv=>whnf))
 refine And.intro (fun g => ?_) (fun g => ?_)
 ·obtain rfl : R = .int .i64 e2 := by rw [hR]; rw [hck, if_pos g]
  ((try dsimp only[awp]);(conv=>whnf))
  (refine fM ?_;(conv=>whnf);refine ⟨?_,rfl⟩;(conv=>whnf))
  (repeat' first|exact rfl|exact trivial|exact wR|exact lR _|apply aI)
 rw [if_neg g] at hck
 clear g
 ((try dsimp only[awp]);(conv=>whnf))
 (refine ⟨inr64 (by omega) (by omega),?_⟩;(conv=>whnf))
 ((try dsimp only[awp]);(conv=>whnf))
 refine And.intro (fun _ => ?_) (fun h => absurd (by simp) h)
 ((try dsimp only[awp]);(conv=>whnf))
 refine AIdx.mk ⟨_, ⟨by decide, rfl⟩, ?_⟩
 ((try dsimp only[awp]);(conv=>whnf))
 refine And.intro (fun g => ?_) (fun g => ?_)
 ·obtain rfl : R = .int .i64 e3 := by rw [hR]; rw [hck, if_pos g]
  ((try dsimp only[awp]);(conv=>whnf))
  (refine fM ?_;(conv=>whnf);refine ⟨?_,rfl⟩;(conv=>whnf))
  (repeat' first|exact rfl|exact trivial|exact wR|exact lR _|apply aI)
 rw [if_neg g] at hck
 clear g
 ((try dsimp only[awp]);(conv=>whnf))
 (refine ⟨inr64 (by omega) (by omega),?_⟩;(conv=>whnf))
 refine And.intro (fun h => absurd h (by simp)) (fun _ => ?_)
 obtain ⟨zE, zI⟩ := hz z5
 have hnA := top_noAt zE z2 zI
 have cc := c_cycle m hB hnA (uses_short hB)
 rw [cyc_eq (closed_of zE z2 zI)] at cc
 generalize cycR m = cy at *
 ((try dsimp only[awp]);(conv=>whnf))
 refine .pure _ _ ?_ ⟨rfl, rfl⟩ cc fun _ => ?_
 ·exact leL_refl _
 ((try dsimp only[awp]);(conv=>whnf))
 refine And.intro (fun g => ?_) (fun g => ?_)
 ·obtain rfl : R = .int .i64 14 := by rw [hR, hck, if_pos g]
  ((try dsimp only[awp]);(conv=>whnf))
  (refine fM ?_;(conv=>whnf);refine ⟨?_,rfl⟩;(conv=>whnf))
  (repeat' first|exact rfl|exact trivial|exact wR|exact lR _|apply aI)
 ·obtain rfl : R = .int .i64 0 := by rw [hR, hck, if_neg (by simpa using g)]
  ((try dsimp only[awp]);(conv=>whnf))
  (refine fM ?_;(conv=>whnf);refine ⟨?_,rfl⟩;(conv=>whnf))
  (repeat' first|exact rfl|exact trivial|exact wR|exact lR _|apply aI)
end S

open Go Go.AL Go.Proofs
namespace S
set_option maxRecDepth 100000

theorem c_other (s old new : Str) : FnH Tryz.prog 94 [.str s, .str old, .str new] [] (.str (rnS old new s)) [] := by
 refine FnH.intro lay mixed Tryz.func94 (by kernel_rfl) rfl (by kernel_rfl) rfl fun hok => ?_
 ((try dsimp only[argC,succC]);(try dsimp only[awp]);(conv=>whnf))
 refine And.intro (fun h => ?_) (fun h => ?_)
 ·rw [show rnS old new s = new from if_pos h]
  ((try dsimp only[awp]);(conv=>whnf))
  (refine fM ?_;(conv=>whnf);refine ⟨?_,rfl⟩;(conv=>whnf))
  (repeat' first|exact rfl|exact trivial|exact wR|exact lR _|apply aI)
 ·rw [show rnS old new s = s from if_neg h]
  ((try dsimp only[awp]);(conv=>whnf))
  (refine fM ?_;(conv=>whnf);refine ⟨?_,rfl⟩;(conv=>whnf))
  (repeat' first|exact rfl|exact trivial|exact wR|exact lR _|apply aI)

theorem c_others (old new : Str) (l : List Str) (hl : l.length ≤ 1000000) : FnH Tryz.prog 96 [sL l, .str old, .str new] [] (sL (l.map (rnS old new))) [] := by
 refine FnH.intro lay mixed Tryz.func96 (by kernel_rfl) rfl (by kernel_rfl) rfl fun hok => ?_
 ((try dsimp only[argC,succC]);(try dsimp only[awp]);(conv=>whnf))
 refine LoopE.of <| LoopSpec.inv (.grow 7 1 [] _ rfl (.inl ⟨rfl, rfl⟩) (.refl _ _)) (fun (i : Nat) => i ≤ l.length)
  (fun i => [(12, .int .i64 i), (7, .sl 1 (((l.take i).map (rnS old new)).map .str) (.own 0))]) (fun i => [(0, .tok 1 i)]) (fun i => l.length - i) 0 ?_ (fun _ => rfl) ?_ ?_
 ·exact Nat.zero_le _
 ·refine ⟨?_, .mk ?_ (by simp [idsOk])⟩
  ·(repeat' first|exact rfl|exact trivial|exact wR|exact lR _|apply aI)
  ·(repeat' first|exact rfl|exact trivial|exact wR|exact lR _|apply aI)
 intro i hi _
 ((try dsimp only[awp]);(conv=>whnf))
 refine And.intro (fun h => ?_) (fun h => ?_)
 ·have hlt : i < l.length := by simpa using h
  have ht := take_map (f := rnS old new) hlt
  have hlen := take_len (f := rnS old new) hi
  ((try dsimp only[awp]);(conv=>whnf))
  refine aidx hlt ?_
  generalize l[i] = x at *
  generalize (l.take i).map (rnS old new) = L at *
  ((try dsimp only[awp]);(conv=>whnf))
  refine .pure _ _ ?_ ⟨rfl, rfl⟩ (c_other x old new) fun _ => ?_
  ·(repeat' first|exact rfl|exact trivial|exact wR|exact lR _|apply aI)
  ((try dsimp only[awp]);(conv=>whnf))
  refine ⟨by rw [List.length_map]; omega, .mk (by simp [maxL]; omega) (by simp; omega) ?_⟩
  ((try dsimp only[awp]);(conv=>whnf))
  (refine ⟨inr64 (by omega) (by omega),?_⟩;(conv=>whnf))
  refine ⟨i + 1, ?_, ?_, ?_⟩
  ·exact hlt
  ·rw [ht]
   refine ⟨?_, .mk ?_ (by simp [idsOk])⟩
   ·(repeat' first|exact rfl|exact trivial|exact wR|exact lR _|apply aI)
    all_goals first | (refine leRL_of ?_; rw [List.map_append]; rfl) | (simp; done) | (simp; omega)
   ·(repeat' first|exact rfl|exact trivial|exact wR|exact lR _|apply aI)
    all_goals first | (simp; done) | (simp; omega)
  ·omega
 ·have hlt : i = l.length := by have : ¬ i < l.length := by simpa using h
                                omega
  subst hlt
  rw [List.take_length]
  ((try dsimp only[awp]);(conv=>whnf))
  (refine fM ?_;(conv=>whnf);refine ⟨?_,rfl⟩;(conv=>whnf))
  (repeat' first|exact rfl|exact trivial|exact wR|exact lR _|apply aI)

theorem c_rgates (old new : Str) (l : List Mg) (hl : l.length ≤ 1000) (hi : ∀ g ∈ l, g.ins.length ≤ 1000) : FnH Tryz.prog 95 [gL l, .str old, .str new] [] (gL (l.map (rnG old new))) [] := by
 refine FnH.intro lay mixed Tryz.func95 (by kernel_rfl) rfl (by kernel_rfl) rfl fun hok => ?_
 ((try dsimp only[argC,succC]);(try dsimp only[awp]);(conv=>whnf))
 refine LoopE.of <| LoopSpec.inv (.grow 7 7 [] _ rfl (.inl ⟨rfl, rfl⟩) (.refl _ _)) (fun (i : Nat) => i ≤ l.length)
  (fun i => [(12, .int .i64 i), (7, .sl 7 (((l.take i).map (rnG old new)).map Mg.av) (.own 0))]) (fun i => [(0, .tok 7 i)]) (fun i => l.length - i) 0 ?_ (fun _ => rfl) ?_ ?_
 ·exact Nat.zero_le _
 ·refine ⟨?_, .mk ?_ (by simp [idsOk])⟩
  ·(repeat' first|exact rfl|exact trivial|exact wR|exact lR _|apply aI)
  ·(repeat' first|exact rfl|exact trivial|exact wR|exact lR _|apply aI)
 intro i hil _
 ((try dsimp only[awp]);(conv=>whnf))
 refine And.intro (fun h => ?_) (fun h => ?_)
 ·have hlt : i < l.length := by simpa using h
  have ht := take_map (f := rnG old new) hlt
  have hlen := take_len (f := rnG old new) hil
  have c2 := c_others old new (l[i]).ins (by have := hi _ (List.getElem_mem hlt); omega)
  ((try dsimp only[awp]);(conv=>whnf))
  refine aidx hlt ?_
  generalize l[i] = x at *
  generalize (l.take i).map (rnG old new) = L at *
  ((try dsimp only[awp]);(conv=>whnf))
  refine .pure _ _ ?_ ⟨rfl, rfl⟩ c2 fun _ => ?_
  ·(repeat' first|exact rfl|exact trivial|exact wR|exact lR _|apply aI)
  ((try dsimp only[awp]);(conv=>whnf))
  refine ⟨by rw [List.length_map]; omega, .mk (by simp [maxL]; omega) (by simp; omega) ?_⟩
  ((try dsimp only[awp]);(conv=>whnf))
  (refine ⟨inr64 (by omega) (by omega),?_⟩;(conv=>whnf))
  refine ⟨i + 1, ?_, ?_, ?_⟩
  ·exact hlt
  ·rw [ht]
   refine ⟨?_, .mk ?_ (by simp [idsOk])⟩
   ·(repeat' first|exact rfl|exact trivial|exact wR|exact lR _|apply aI)
    all_goals first | (refine leRL_of ?_; rw [List.map_append]; rfl) | (simp; done) | (simp; omega)
   ·(repeat' first|exact rfl|exact trivial|exact wR|exact lR _|apply aI)
    all_goals first | (simp; done) | (simp; omega)
  ·omega
 ·have hlt : i = l.length := by have : ¬ i < l.length := by simpa using h
                                omega
  subst hlt
  rw [List.take_length]
  ((try dsimp only[awp]);(conv=>whnf))
  (refine fM ?_;(conv=>whnf);refine ⟨?_,rfl⟩;(conv=>whnf))
  (repeat' first|exact rfl|exact trivial|exact wR|exact lR _|apply aI)

theorem rn_X {m : Md} {old new : Str} (h : MdX m) : MdX (rnM m old new) := by
 refine ⟨?_, ?_, ?_, ?_, ?_⟩
 ·intro x hx
  obtain ⟨y, hy, rfl⟩ := List.mem_map.1 hx
  exact h.evs y hy
 ·intro x hx
  obtain ⟨y, hy, rfl⟩ := List.mem_map.1 hx
  exact h.gates y hy
 ·intro x hx
  obtain ⟨y, hy, rfl⟩ := List.mem_map.1 hx
  intro g hg
  obtain ⟨g', hg', rfl⟩ := List.mem_map.1 hg
  exact h.pages y hy g' hg'
 ·intro x hx
  obtain ⟨y, hy, rfl⟩ := List.mem_map.1 hx
  exact h.grs y hy
 ·intro x hx v hv
  obtain ⟨y, hy, rfl⟩ := List.mem_map.1 hx
  obtain ⟨v', hv', rfl⟩ := List.mem_map.1 hv
  exact h.phs y hy v' hv'

theorem c_refRename (h1c : OneC) (m : Md) (old new : Str) (hB : MdB m) (hX : MdX m) (R : AV) (hR : R = if renameE m old new = 0 then .tup [(rnM m old new).av, .int .i64 0] else .tup [zMd, .int .i64 (renameE m old new)]) : FnH Tryz.prog 39 [m.av, .str old, .str new] [] R [] := by
 have cc2 := c_refCheck h1c (rnM m old new) (rn_X hX) (rn_B hB) _ rfl
 have ce := c_revent m old
 have cn := fun s => c_other s old new
 have cg := c_rgates old new m.gates (by have := hB.gates.1; omega) (fun g hg => by have := hB.gates.2 g hg; omega)
 have b1 := hB.evs
 have b2 := hB.pages
 have b3 := hB.grs
 have b4 := hB.phs
 unfold renameE at hR
 refine FnH.intro lay mixed Tryz.func39 (by kernel_rfl) rfl (by kernel_rfl) rfl fun hok => ?_
 ((try dsimp only[argC,succC]);(try dsimp only[awp]);(conv=>whnf))
 refine .pure _ _ ?_ ⟨rfl, rfl⟩ ce fun _ => ?_
 ·exact leL_refl _
 ((try dsimp only[awp]);(conv=>whnf))
 refine And.intro (fun g0 => ?_) (fun g0 => ?_)
 ·rw [if_pos g0, if_neg (by decide)] at hR
  subst hR
  ((try dsimp only[awp]);(conv=>whnf))
  (refine fM ?_;(conv=>whnf);refine ⟨?_,rfl⟩;(conv=>whnf))
  (repeat' first|exact rfl|exact trivial|exact wR|exact lR _|apply aI)
 rw [if_neg g0] at hR
 ((try dsimp only[awp]);(conv=>whnf))
 (refine ADraw.auto (by kernel_rfl) ?_;(conv=>whnf))
 refine ACallP.pure _ _ ?_ ⟨rfl, rfl⟩ (cn m.top) ?_
 ·exact leL_refl _
 ((try dsimp only[awp]);(conv=>whnf))
 refine ACallP.pure _ _ ?_ ⟨rfl, rfl⟩ cg ?_
 ·exact leL_refl _
 ((try dsimp only[awp]);(conv=>whnf))
 refine LoopE.of <| LoopSpec.inv (.growF 2 [2] 11 [] (rnBox m old new .nils .nils .nils .nils) .nils _ rfl rfl (.inl ⟨rfl, rfl⟩) rfl (.refl _ _)) (fun (k : Nat) => k ≤ m.evs.length)
  (fun k => [(44, .int .i64 k)]) (fun k => [(3, .tok 11 k), (2, .box (rnBox m old new (.sl 11 (((m.evs.take k).map (rnE old new)).map Ev.av) (.own 3)) .nils .nils .nils)), (1, .box zMd), (0, .box m.av)]) (fun k => m.evs.length - k) 0 ?_ (fun _ => rfl) ?_ ?_
 ·exact Nat.zero_le _
 ·refine ⟨?_, .mk ?_ (by simp [idsOk])⟩
  ·(repeat' first|exact rfl|exact trivial|exact wR|exact lR _|apply aI)
  ·(repeat' first|exact rfl|exact trivial|exact wR|exact lR _|apply aI)
 intro k hk _
 ((try dsimp only[awp]);(conv=>whnf))
 refine And.intro (fun h => ?_) (fun h => ?_)
 ·have hkl : k < m.evs.length := by simpa using h
  have ht := take_map (f := rnE old new) hkl
  have hlen := take_len (f := rnE old new) hk
  ((try dsimp only[awp]);(conv=>whnf))
  refine aidx hkl ?_
  generalize m.evs[k] = x at *
  generalize (m.evs.take k).map (rnE old new) = L at *
  ((try dsimp only[awp]);(conv=>whnf))
  refine .pure _ _ ?_ ⟨rfl, rfl⟩ (cn x.name) fun _ => ?_
  ·exact leL_refl _
  ((try dsimp only[awp]);(conv=>whnf))
  refine ⟨by rw [List.length_map]; omega, .mk (by simp [maxL]; omega) (by simp; omega) ?_⟩
  ((try dsimp only[awp]);(conv=>whnf))
  (refine ⟨inr64 (by omega) (by omega),?_⟩;(conv=>whnf))
  refine ⟨k + 1, ?_, ?_, ?_⟩
  ·exact hkl
  ·rw [ht]
   refine ⟨?_, .mk ?_ (by simp [idsOk])⟩
   ·(repeat' first|exact rfl|exact trivial|exact wR|exact lR _|apply aI)
    all_goals first | (simp; done) | (simp; omega)
   ·(repeat' first|exact rfl|exact trivial|exact wR|exact lR _|apply aI)
    all_goals first | (refine leRL_of ?_; rw [List.map_append]; rfl) | (simp; done) | (simp; omega)
  ·omega
 have hkl : k = m.evs.length := by (have : ¬ k < m.evs.length := by simpa using h); omega
 subst hkl
 rw [List.take_length]
 clear h
 ((try dsimp only[awp]);(conv=>whnf))
 refine LoopE.of <| LoopSpec.inv (.growF 2 [5] 3 [] (rnBox m old new (.sl 11 ((m.evs.map (rnE old new)).map Ev.av) (.own 3)) .nils .nils .nils) .nils _ rfl rfl (.inl ⟨rfl, rfl⟩) rfl (.refl _ _)) (fun (k : Nat) => k ≤ m.pages.length)
  (fun k => [(64, .int .i64 k)]) (fun k => [(4, .tok 3 k), (3, .gone), (2, .box (rnBox m old new (.sl 11 ((m.evs.map (rnE old new)).map Ev.av) .no) (.sl 3 (((m.pages.take k).map (rnP old new)).map Pg.av) (.own 4)) .nils .nils)), (1, .box zMd), (0, .box m.av)]) (fun k => m.pages.length - k) 0 ?_ (fun _ => rfl) ?_ ?_
 ·exact Nat.zero_le _
 ·refine ⟨?_, .mk ?_ (by simp [idsOk])⟩
  ·(repeat' first|exact rfl|exact trivial|exact wR|exact lR _|apply aI)
  ·(repeat' first|exact rfl|exact trivial|exact wR|exact lR _|apply aI)
 intro k hk _
 ((try dsimp only[awp]);(conv=>whnf))
 refine And.intro (fun h => ?_) (fun h => ?_)
 ·have hkl : k < m.pages.length := by simpa using h
  have ht := take_map (f := rnP old new) hkl
  have hlen := take_len (f := rnP old new) hk
  have hp := hB.pgates _ (List.getElem_mem hkl)
  have cgp := c_rgates old new (m.pages[k]).gates (by omega) (fun g hg => by have := hp.2 g hg; omega)
  ((try dsimp only[awp]);(conv=>whnf))
  refine aidx hkl ?_
  generalize m.pages[k] = x at *
  generalize (m.pages.take k).map (rnP old new) = L at *
  ((try dsimp only[awp]);(conv=>whnf))
  (refine ADraw.auto (by kernel_rfl) ?_;(conv=>whnf))
  refine ACallP.pure _ _ ?_ ⟨rfl, rfl⟩ (cn x.top) ?_
  ·exact leL_refl _
  ((try dsimp only[awp]);(conv=>whnf))
  refine ACallP.pure _ _ ?_ ⟨rfl, rfl⟩ cgp ?_
  ·exact leL_refl _
  ((try dsimp only[awp]);(conv=>whnf))
  refine ⟨by rw [List.length_map]; omega, .mk (by simp [maxL]; omega) (by simp; omega) ?_⟩
  ((try dsimp only[awp]);(conv=>whnf))
  (refine ⟨inr64 (by omega) (by omega),?_⟩;(conv=>whnf))
  refine ⟨k + 1, ?_, ?_, ?_⟩
  ·exact hkl
  ·rw [ht]
   refine ⟨?_, .mk ?_ (by simp [idsOk])⟩
   ·(repeat' first|exact rfl|exact trivial|exact wR|exact lR _|apply aI)
    all_goals first | (simp; done) | (simp; omega)
   ·(repeat' first|exact rfl|exact trivial|exact wR|exact lR _|apply aI)
    all_goals first | (refine leRL_of ?_; rw [List.map_append]; rfl) | (simp; done) | (simp; omega)
  ·omega
 have hkl : k = m.pages.length := by (have : ¬ k < m.pages.length := by simpa using h); omega
 subst hkl
 rw [List.take_length]
 clear h
 ((try dsimp only[awp]);(conv=>whnf))
 refine LoopE.of <| LoopSpec.inv (.growF 2 [6] 4 [] (rnBox m old new (.sl 11 ((m.evs.map (rnE old new)).map Ev.av) .no) (.sl 3 ((m.pages.map (rnP old new)).map Pg.av) (.own 4)) .nils .nils) .nils _ rfl rfl (.inl ⟨rfl, rfl⟩) rfl (.refl _ _)) (fun (k : Nat) => k ≤ m.grs.length)
  (fun k => [(90, .int .i64 k)]) (fun k => [(5, .tok 4 k), (4, .gone), (3, .gone), (2, .box (rnBox m old new (.sl 11 ((m.evs.map (rnE old new)).map Ev.av) .no) (.sl 3 ((m.pages.map (rnP old new)).map Pg.av) .no) (.sl 4 (((m.grs.take k).map (rnGr old new)).map Gr.av) (.own 5)) .nils)), (1, .box zMd), (0, .box m.av)]) (fun k => m.grs.length - k) 0 ?_ (fun _ => rfl) ?_ ?_
 ·exact Nat.zero_le _
 ·refine ⟨?_, .mk ?_ (by simp [idsOk])⟩
  ·(repeat' first|exact rfl|exact trivial|exact wR|exact lR _|apply aI)
  ·(repeat' first|exact rfl|exact trivial|exact wR|exact lR _|apply aI)
 intro k hk _
 ((try dsimp only[awp]);(conv=>whnf))
 refine And.intro (fun h => ?_) (fun h => ?_)
 ·have hkl : k < m.grs.length := by simpa using h
  have ht := take_map (f := rnGr old new) hkl
  have hlen := take_len (f := rnGr old new) hk
  have hm := hB.mem _ (List.getElem_mem hkl)
  have cgp := c_others old new (m.grs[k]).mem (by omega)
  ((try dsimp only[awp]);(conv=>whnf))
  refine aidx hkl ?_
  generalize m.grs[k] = x at *
  generalize (m.grs.take k).map (rnGr old new) = L at *
  ((try dsimp only[awp]);(conv=>whnf))
  refine .pure _ _ ?_ ⟨rfl, rfl⟩ cgp fun _ => ?_
  ·exact leL_refl _
  ((try dsimp only[awp]);(conv=>whnf))
  refine ⟨by rw [List.length_map]; omega, .mk (by simp [maxL]; omega) (by simp; omega) ?_⟩
  ((try dsimp only[awp]);(conv=>whnf))
  (refine ⟨inr64 (by omega) (by omega),?_⟩;(conv=>whnf))
  refine ⟨k + 1, ?_, ?_, ?_⟩
  ·exact hkl
  ·rw [ht]
   refine ⟨?_, .mk ?_ (by simp [idsOk])⟩
   ·(repeat' first|exact rfl|exact trivial|exact wR|exact lR _|apply aI)
    all_goals first | (simp; done) | (simp; omega)
   ·(repeat' first|exact rfl|exact trivial|exact wR|exact lR _|apply aI)
    all_goals first | (refine leRL_of ?_; rw [List.map_append]; rfl) | (simp; done) | (simp; omega)
  ·omega
 have hkl : k = m.grs.length := by (have : ¬ k < m.grs.length := by simpa using h); omega
 subst hkl
 rw [List.take_length]
 clear h
 ((try dsimp only[awp]);(conv=>whnf))
 refine LoopE.of <| LoopSpec.inv (.growF 2 [7] 3 [] (rnBox m old new (.sl 11 ((m.evs.map (rnE old new)).map Ev.av) .no) (.sl 3 ((m.pages.map (rnP old new)).map Pg.av) .no) (.sl 4 ((m.grs.map (rnGr old new)).map Gr.av) (.own 5)) .nils) .nils _ rfl rfl (.inl ⟨rfl, rfl⟩) rfl (.refl _ _)) (fun (k : Nat) => k ≤ m.phs.length)
  (fun k => [(110, .int .i64 k)]) (fun k => [(6, .tok 3 k), (5, .gone), (4, .gone), (3, .gone), (2, .box (rnBox m old new (.sl 11 ((m.evs.map (rnE old new)).map Ev.av) .no) (.sl 3 ((m.pages.map (rnP old new)).map Pg.av) .no) (.sl 4 ((m.grs.map (rnGr old new)).map Gr.av) .no) (.sl 3 (((m.phs.take k).map (rnPh old new)).map Ph.av) (.own 6)))), (1, .box zMd), (0, .box m.av)]) (fun k => m.phs.length - k) 0 ?_ (fun _ => rfl) ?_ ?_
 ·exact Nat.zero_le _
 ·refine ⟨?_, .mk ?_ (by simp [idsOk])⟩
  ·(repeat' first|exact rfl|exact trivial|exact wR|exact lR _|apply aI)
  ·(repeat' first|exact rfl|exact trivial|exact wR|exact lR _|apply aI)
 intro k hk _
 ((try dsimp only[awp]);(conv=>whnf))
 refine And.intro (fun h => ?_) (fun h => ?_)
 ·have hkl : k < m.phs.length := by simpa using h
  have ht := take_map (f := rnPh old new) hkl
  have hlen := take_len (f := rnPh old new) hk
  have hv := hB.vals _ (List.getElem_mem hkl)
  ((try dsimp only[awp]);(conv=>whnf))
  refine aidx hkl ?_
  generalize m.phs[k] = x at *
  generalize (m.phs.take k).map (rnPh old new) = L at *
  ((try dsimp only[awp]);(conv=>whnf))
  (refine ADraw.auto (by kernel_rfl) ?_;(conv=>whnf))
  refine ACallP.pure _ _ ?_ ⟨rfl, rfl⟩ (cn x.top) ?_
  ·exact leL_refl _
  ((try dsimp only[awp]);(conv=>whnf))
  refine LoopE.of <| LoopSpec.inv (.growF 8 [2] 4 [] (.ag [.str x.name, .str (rnS old new x.top), .nils]) .nils _ rfl rfl (.inl ⟨rfl, rfl⟩) rfl (.refl _ _)) (fun (j : Nat) => j ≤ x.vals.length)
   (fun j => [(125, .int .i64 j)]) (fun j => [(9, .tok 4 j), (8, .box (.ag [.str x.name, .str (rnS old new x.top), .sl 4 (((x.vals.take j).map (rnPv old new)).map Pv.av) (.own 9)])), (7, .gone), (6, .tok 3 k), (5, .gone), (4, .gone), (3, .gone), (2, .box (rnBox m old new (.sl 11 ((m.evs.map (rnE old new)).map Ev.av) .no) (.sl 3 ((m.pages.map (rnP old new)).map Pg.av) .no) (.sl 4 ((m.grs.map (rnGr old new)).map Gr.av) .no) (.sl 3 (L.map Ph.av) (.own 6)))), (1, .box zMd), (0, .box m.av)]) (fun j => x.vals.length - j) 0 ?_ (fun _ => rfl) ?_ ?_
  ·exact Nat.zero_le _
  ·refine ⟨?_, .mk ?_ (by simp [idsOk])⟩
   ·(repeat' first|exact rfl|exact trivial|exact wR|exact lR _|apply aI)
   ·(repeat' first|exact rfl|exact trivial|exact wR|exact lR _|apply aI)
  intro j hj _
  ((try dsimp only[awp]);(conv=>whnf))
  refine And.intro (fun hh => ?_) (fun hh => ?_)
  ·have hjl : j < x.vals.length := by simpa using hh
   have ht2 := take_map (f := rnPv old new) hjl
   have hlen2 := take_len (f := rnPv old new) hj
   ((try dsimp only[awp]);(conv=>whnf))
   refine aidx hjl ?_
   generalize x.vals[j] = y at *
   generalize (x.vals.take j).map (rnPv old new) = L2 at *
   ((try dsimp only[awp]);(conv=>whnf))
   (refine ADraw.auto (by kernel_rfl) ?_;(conv=>whnf))
   refine ACallP.pure _ _ ?_ ⟨rfl, rfl⟩ (cn y.ev) ?_
   ·exact leL_refl _
   ((try dsimp only[awp]);(conv=>whnf))
   refine ⟨by rw [List.length_map]; omega, .mk (by simp [maxL]; omega) (by simp; omega) ?_⟩
   ((try dsimp only[awp]);(conv=>whnf))
   (refine ⟨inr64 (by omega) (by omega),?_⟩;(conv=>whnf))
   refine ⟨j + 1, ?_, ?_, ?_⟩
   ·exact hjl
   ·rw [ht2]
    refine ⟨?_, .mk ?_ (by simp [idsOk])⟩
    ·(repeat' first|exact rfl|exact trivial|exact wR|exact lR _|apply aI)
    ·(repeat' first|exact rfl|exact trivial|exact wR|exact lR _|apply aI)
     all_goals first | (refine leRL_of ?_; rw [List.map_append]; rfl) | (simp; done) | (simp; omega)
   ·omega
  have hjl : j = x.vals.length := by (have : ¬ j < x.vals.length := by simpa using hh); omega
  subst hjl
  rw [List.take_length]
  clear hh
  ((try dsimp only[awp]);(conv=>whnf))
  refine ⟨by rw [List.length_map]; omega, .mk (by simp [maxL]; omega) (by simp; omega) ?_⟩
  ((try dsimp only[awp]);(conv=>whnf))
  (refine ⟨inr64 (by omega) (by omega),?_⟩;(conv=>whnf))
  refine ⟨k + 1, ?_, ?_, ?_⟩
  ·exact hkl
  ·rw [ht]
   refine ⟨?_, .mk ?_ (by simp [idsOk])⟩
   ·(repeat' first|exact rfl|exact trivial|exact wR|exact lR _|apply aI)
    all_goals first | (simp; done) | (simp; omega)
   ·(repeat' first|exact rfl|exact trivial|exact wR|exact lR _|apply aI)
    all_goals first | (refine leRL_of ?_; rw [List.map_append]; rfl) | (simp; done) | (simp; omega)
  ·omega
 have hkl : k = m.phs.length := by (have : ¬ k < m.phs.length := by simpa using h); omega
 subst hkl
 rw [List.take_length]
 clear h
 ((try dsimp only[awp]);(conv=>whnf))
 by_cases g1 : checkM (rnM m old new) = 0
 ·rw [g1] at cc2
  rw [if_pos g1] at hR
  subst hR
  refine .pure _ _ ?_ ⟨rfl, rfl⟩ cc2 fun _ => ?_
  ·(repeat' first|exact rfl|exact trivial|exact wR|exact lR _|apply aI)
  ((try dsimp only[awp]);(conv=>whnf))
  refine And.intro (fun h2 => absurd rfl h2) (fun _ => ?_)
  ((try dsimp only[awp]);(conv=>whnf))
  (refine fM ?_;(conv=>whnf);refine ⟨?_,rfl⟩;(conv=>whnf))
  (repeat' first|exact rfl|exact trivial|exact wR|exact lR _|apply aI)
 ·rw [if_neg g1] at hR
  subst hR
  refine .pure _ _ ?_ ⟨rfl, rfl⟩ cc2 fun _ => ?_
  ·(repeat' first|exact rfl|exact trivial|exact wR|exact lR _|apply aI)
  ((try dsimp only[awp]);(conv=>whnf))
  refine And.intro (fun _ => ?_) (fun h2 => absurd g1 h2)
  ((try dsimp only[awp]);(conv=>whnf))
  (refine fM ?_;(conv=>whnf);refine ⟨?_,rfl⟩;(conv=>whnf))
  (repeat' first|exact rfl|exact trivial|exact wR|exact lR _|apply aI)
end S

open Go Go.AL Go.Proofs
namespace Go.AL
section
variable {P : Program} {ops : Array Oper} {Q : Exit → Act → World → Prop} {a : Act} {w : World} {o : Oper} {l : List Oper}

theorem wpl_val (v : Value) (w' : World) (hg : o.guard = none) (hrun : (execOp a.eval o).run P w = .ok (.value v) w') (h : wpList P ops Q l (a.put o.dst v) w') : wpList P ops Q (o :: l) a w := by
 simp only [wpList]
 rw [if_pos (wanted_none hg)]
 refine .inl ?_
 unfold Oper.wp
 rw [hrun, Oper.upon_value]; exact h

theorem wpl_skip (w' : World) (hg : o.guard = none) (hrun : (execOp a.eval o).run P w = .ok .skip w') (h : wpList P ops Q l (a.put o.dst undef) w') : wpList P ops Q (o :: l) a w := by
 simp only [wpList]
 rw [if_pos (wanted_none hg)]
 refine .inl ?_
 unfold Oper.wp
 rw [hrun, Oper.upon_skip]; exact h

structure Ext (w w' : World) : Prop where
 size : w.heap.size ≤ w'.heap.size
 old : ∀ b, b < w.heap.size → w'.heap[b]? = w.heap[b]?
 os : w'.os = w.os
 tape : w'.tape = w.tape
 output : w'.output = w.output

theorem Ext.trans {w v u : World} (h : Ext w v) (g : Ext v u) : Ext w u :=
 ⟨Nat.le_trans h.size g.size, fun b hb => (g.old b (Nat.lt_of_lt_of_le hb h.size)).trans (h.old b hb), g.os.trans h.os, g.tape.trans h.tape, g.output.trans h.output⟩

theorem wpl_alloc (v : Value) (ob : Obj) (hg : o.guard = none) (hrun : (execOp a.eval o).run P w = .ok (.value v) (w.alloc ob))
  (h : ∀ w', Ext w w' → w'.heap.size = w.heap.size + 1 → w'.heap[w.heap.size]? = some ob → wpList P ops Q l (a.put o.dst v) w') : wpList P ops Q (o :: l) a w := by
 refine wpl_val v _ hg hrun (h _ ⟨?_, fun b hb => alloc_heap_old w ob hb, rfl, rfl, rfl⟩ ?_ (alloc_heap_new w ob))
 ·show w.heap.size ≤ (w.heap.push ob).size
  rw [Array.size_push]; omega
 ·show (w.heap.push ob).size = _
  rw [Array.size_push]

theorem load_agg {t : Nat} {i : TI} {cs : List Value} {b off : Nat} (hT : TIOk P t i) (hz : isAg i.zero = true) (hl : cs.length = flat i.zero)
  (hc : ∀ j v, cs[j]? = some v → w.cell? ⟨b, off + j, none⟩ = some v) : (loadVar t ⟨b, off, none⟩).run P w = .ok (.agg cs.toArray) w := by
 unfold loadVar
 simp only [Sem.run_bind, hT.run_isAgg, Result.andThen_ok]
 have := run_loadCells_list (P := P) w ⟨b, off, none⟩ cs (fun j v hj => by
  have := hc j v hj
  unfold Addr.add; split
  ·rename_i h0; subst h0; simpa using this
  ·simpa using this)
 simp only [hz, if_true, Sem.run_bind, hT.run_size, Result.andThen_ok, ← hl, this, Sem.run_pure]

theorem load_one {t : Nat} {i : TI} {v : Value} {b off : Nat} (hT : TIOk P t i) (hz : isAg i.zero = false) (hc : w.cell? ⟨b, off, none⟩ = some v) : (loadVar t ⟨b, off, none⟩).run P w = .ok v w := by
 unfold loadVar
 simp only [Sem.run_bind, hT.run_isAgg, Result.andThen_ok, hz, Bool.false_eq_true, if_false, run_load, hc]

theorem results_cell {fn : Func} {tmps : Array Value} {t ty : Nat} {ad : Addr} {v : Value} (hr : fn.results.toList = [.cell t ty]) (ha : tmps.getD t undef = .pointer (some ad)) (hl : (loadVar ty ad).run P w = .ok v w) :
  (results fn tmps).run P w = .ok v w := by
 have h1 : (fn.results.toList.mapM (fun | .tmp t => pure (tmps.getD t undef) | .cell b t => do loadVar t (← asAddr (tmps.getD b undef)) : ResultVar → Sem Value)).run P w = .ok [v] w := by
  rw [hr]
  have e2 : (asAddr (Value.pointer (some ad))).run P w = .ok ad w := rfl
  simp only [List.mapM_cons, List.mapM_nil, Sem.run_bind, ha, e2, hl, Sem.run_pure, Result.andThen_ok]
 unfold results
 rw [Array.mapM_eq_mapM_toList]
 simp only [Sem.run_bind, map_eq_pure_bind, Sem.run_pure, Result.andThen_ok]
 erw [h1]
 simp

theorem run_store' {t : Nat} {x y : Operand} {ad : Addr} {v : Value} {w' : World} (ho : o.op = .store t x y) (hx : a.eval x = .pointer (some ad)) (hy : a.eval y = v) (h : (storeVar t ad v).run P w = .ok () w') :
  (execOp a.eval o).run P w = .ok .skip w' := by
 subst hy
 exact run_store_op (c := cx0 w) ho hx h

theorem setRow_ext {w : World} {g : Nat} {cs : Array Value} {w0 : World} (h : Ext w0 w) (hg : w0.heap.size ≤ g) : Ext w0 (w.setRow g cs) :=
 ⟨by rw [setRow_size]; exact h.size, fun b hb => (setRow_other w g b cs (by omega)).trans (h.old b hb), h.os, h.tape, h.output⟩
end
end Go.AL

namespace S
set_option maxRecDepth 100000

def exEv : Array Value := #[.string ⟨#[97]⟩, .bool false, .slice none 0 0, .slice none 0 0, .bool false, .slice none 0 0, .slice none 0 0, .bool false, .slice none 0 0, .slice none 0 0, .int .i64 0, .string ⟨#[98]⟩, .bool false, .slice none 0 0, .slice none 0 0, .bool false, .slice none 0 0, .slice none 0 0, .bool false, .slice none 0 0, .slice none 0 0, .int .i64 0, .string ⟨#[99]⟩, .bool false, .slice none 0 0, .slice none 0 0, .bool false, .slice none 0 0, .slice none 0 0, .bool false, .slice none 0 0, .slice none 0 0, .int .i64 0]
def exI0 : Array Value := #[.string ⟨#[97]⟩, .string ⟨#[64, 112]⟩]
def exG0 (n : Nat) : Array Value := #[.string ⟨#[103]⟩, .int .i64 0, .int .i64 0, .slice (some ⟨n, 0, none⟩) 2 2, .bool false, .slice none 0 0, .slice none 0 0]
def exI1 : Array Value := #[.string ⟨#[98]⟩, .string ⟨#[99]⟩]
def exG1 (n : Nat) : Array Value := #[.string ⟨#[104]⟩, .int .i64 1, .int .i64 0, .slice (some ⟨n, 0, none⟩) 2 2, .bool false, .slice none 0 0, .slice none 0 0]
def exP (n : Nat) : Array Value := #[.string ⟨#[112]⟩, .string ⟨#[104]⟩, .slice (some ⟨n, 0, none⟩) 1 1]
def exM (a b c : Nat) : Array Value := #[.string ⟨#[109]⟩, .string ⟨#[103]⟩, .slice (some ⟨a, 0, none⟩) 3 3, .slice none 0 0, .slice (some ⟨b, 0, none⟩) 1 1, .slice (some ⟨c, 0, none⟩) 1 1, .slice none 0 0, .slice none 0 0]

structure ExW (w w' : World) : Prop where
 ext : Ext w w'
 size : w'.heap.size = w.heap.size + 7
 ev : w'.heap[w.heap.size + 1]? = some (.cells exEv 130)
 i0 : w'.heap[w.heap.size + 2]? = some (.cells exI0 9)
 g0 : w'.heap[w.heap.size + 3]? = some (.cells (exG0 (w.heap.size + 2)) 124)
 i1 : w'.heap[w.heap.size + 4]? = some (.cells exI1 9)
 g1 : w'.heap[w.heap.size + 5]? = some (.cells (exG1 (w.heap.size + 4)) 124)
 pg : w'.heap[w.heap.size + 6]? = some (.cells (exP (w.heap.size + 5)) 126)

theorem raw_Ex (w : World) (R : Ending → World → Prop) (hR : ∀ w', ExW w w' → R (.returned (.agg (exM (w.heap.size + 1) (w.heap.size + 3) (w.heap.size + 6)))) w') : Calls Tryz.prog 68 #[] w R := by
 obtain ⟨iM, hTM, hiM⟩ : ∃ i, TIOk Tryz.prog 69 i ∧ flat i.zero = 8 ∧ isAg i.zero = true := Lay.getC_ok lay (k := fun i => flat i.zero = 8 ∧ isAg i.zero = true) (by (conv => whnf); exact ⟨rfl, rfl⟩)
 refine calls_of_wp Tryz.func68 rfl ?_
 refine wp_seq (wp_region_list ?_)
 refine wpl_alloc (.pointer (some ⟨w.heap.size, 0, none⟩)) (.cells #[.string ⟨#[]⟩, .string ⟨#[]⟩, .slice none 0 0, .slice none 0 0, .slice none 0 0, .slice none 0 0, .slice none 0 0, .slice none 0 0] 69) rfl (by kernel_rfl) fun w1 x1 s1 n1 => ?_
 refine wp_seq (wp_region_list ?_)
 refine wpl_val (.agg #[.string ⟨#[97]⟩, .bool false, .slice none 0 0, .slice none 0 0, .bool false, .slice none 0 0, .slice none 0 0, .bool false, .slice none 0 0, .slice none 0 0, .int .i64 0]) w1 rfl (by kernel_rfl) ?_
 refine wpl_val (.agg #[.string ⟨#[98]⟩, .bool false, .slice none 0 0, .slice none 0 0, .bool false, .slice none 0 0, .slice none 0 0, .bool false, .slice none 0 0, .slice none 0 0, .int .i64 0]) w1 rfl (by kernel_rfl) ?_
 refine wpl_val (.agg #[.string ⟨#[99]⟩, .bool false, .slice none 0 0, .slice none 0 0, .bool false, .slice none 0 0, .slice none 0 0, .bool false, .slice none 0 0, .slice none 0 0, .int .i64 0]) w1 rfl (by kernel_rfl) ?_
 refine wpl_alloc (.slice (some ⟨w1.heap.size, 0, none⟩) 3 3) (.cells exEv 130) rfl (by kernel_rfl) fun w2 x2 s2 n2 => ?_
 refine wpl_alloc (.slice (some ⟨w2.heap.size, 0, none⟩) 2 2) (.cells exI0 9) rfl (by kernel_rfl) fun w3 x3 s3 n3 => ?_
 refine wpl_val (.agg #[.string ⟨#[103]⟩, .int .i64 0, .int .i64 0, .slice (some ⟨w2.heap.size, 0, none⟩) 2 2, .bool false, .slice none 0 0, .slice none 0 0]) w3 rfl (by kernel_rfl) ?_
 refine wpl_alloc (.slice (some ⟨w3.heap.size, 0, none⟩) 1 1) (.cells #[.string ⟨#[103]⟩, .int .i64 0, .int .i64 0, .slice (some ⟨w2.heap.size, 0, none⟩) 2 2, .bool false, .slice none 0 0, .slice none 0 0] 124) rfl (by kernel_rfl) fun w4 x4 s4 n4 => ?_
 refine wpl_alloc (.slice (some ⟨w4.heap.size, 0, none⟩) 2 2) (.cells exI1 9) rfl (by kernel_rfl) fun w5 x5 s5 n5 => ?_
 refine wpl_val (.agg #[.string ⟨#[104]⟩, .int .i64 1, .int .i64 0, .slice (some ⟨w4.heap.size, 0, none⟩) 2 2, .bool false, .slice none 0 0, .slice none 0 0]) w5 rfl (by kernel_rfl) ?_
 refine wpl_alloc (.slice (some ⟨w5.heap.size, 0, none⟩) 1 1) (.cells #[.string ⟨#[104]⟩, .int .i64 1, .int .i64 0, .slice (some ⟨w4.heap.size, 0, none⟩) 2 2, .bool false, .slice none 0 0, .slice none 0 0] 124) rfl (by kernel_rfl) fun w6 x6 s6 n6 => ?_
 refine wpl_val (.agg #[.string ⟨#[112]⟩, .string ⟨#[104]⟩, .slice (some ⟨w5.heap.size, 0, none⟩) 1 1]) w6 rfl (by kernel_rfl) ?_
 refine wpl_alloc (.slice (some ⟨w6.heap.size, 0, none⟩) 1 1) (.cells #[.string ⟨#[112]⟩, .string ⟨#[104]⟩, .slice (some ⟨w5.heap.size, 0, none⟩) 1 1] 126) rfl (by kernel_rfl) fun w7 x7 s7 n7 => ?_
 refine wpl_val (.agg #[.string ⟨#[109]⟩, .string ⟨#[103]⟩, .slice (some ⟨w1.heap.size, 0, none⟩) 3 3, .slice none 0 0, .slice (some ⟨w3.heap.size, 0, none⟩) 1 1, .slice (some ⟨w6.heap.size, 0, none⟩) 1 1, .slice none 0 0, .slice none 0 0]) w7 rfl (by kernel_rfl) ?_
 have e17 : Ext w1 w7 := x2.trans (x3.trans (x4.trans (x5.trans (x6.trans x7))))
 have hbx : w7.heap[w.heap.size]? = some (.cells #[.string ⟨#[]⟩, .string ⟨#[]⟩, .slice none 0 0, .slice none 0 0, .slice none 0 0, .slice none 0 0, .slice none 0 0, .slice none 0 0] 69) := by
  rw [e17.old _ (by omega)]; exact n1
 have hst := run_storeVar (v := .agg (exM w1.heap.size w3.heap.size w6.heap.size)) (off := 0) hTM (by rw [hiM.1]; kernel_rfl) hbx (by show 0 + 8 ≤ 8; omega) (by
  intro u hu
  simp only [Value.cells, exM] at hu
  simp only [List.mem_cons, List.not_mem_nil, or_false] at hu
  rcases hu with rfl | rfl | rfl | rfl | rfl | rfl | rfl | rfl <;> rfl)
 have hrow : w7.setRow w.heap.size ((#[.string ⟨#[]⟩, .string ⟨#[]⟩, .slice none 0 0, .slice none 0 0, .slice none 0 0, .slice none 0 0, .slice none 0 0, .slice none 0 0] : Array Value).toList.take 0 ++ (Value.agg (exM w1.heap.size w3.heap.size w6.heap.size)).cells.toList ++ (#[.string ⟨#[]⟩, .string ⟨#[]⟩, .slice none 0 0, .slice none 0 0, .slice none 0 0, .slice none 0 0, .slice none 0 0, .slice none 0 0] : Array Value).toList.drop (0 + (Value.agg (exM w1.heap.size w3.heap.size w6.heap.size)).cells.size)).toArray = w7.setRow w.heap.size (exM w1.heap.size w3.heap.size w6.heap.size) := rfl
 rw [hrow] at hst
 have hw : ExW w (w7.setRow w.heap.size (exM w1.heap.size w3.heap.size w6.heap.size)) := by
  have o2 : ∀ b, b ≠ w.heap.size → (w7.setRow w.heap.size (exM w1.heap.size w3.heap.size w6.heap.size)).heap[b]? = w7.heap[b]? := fun b hb => setRow_other _ _ _ _ hb
  refine ⟨setRow_ext (x1.trans e17) (Nat.le_refl _), by rw [setRow_size]; omega, ?_, ?_, ?_, ?_, ?_, ?_⟩
  ·rw [o2 _ (by omega), ← s1, (x3.trans (x4.trans (x5.trans (x6.trans x7)))).old _ (by omega)]; exact n2
  ·rw [o2 _ (by omega), show w.heap.size + 2 = w2.heap.size by omega, (x4.trans (x5.trans (x6.trans x7))).old _ (by omega)]; exact n3
  ·rw [o2 _ (by omega), show w.heap.size + 3 = w3.heap.size by omega, show w.heap.size + 2 = w2.heap.size by omega, (x5.trans (x6.trans x7)).old _ (by omega)]; exact n4
  ·rw [o2 _ (by omega), show w.heap.size + 4 = w4.heap.size by omega, (x6.trans x7).old _ (by omega)]; exact n5
  ·rw [o2 _ (by omega), show w.heap.size + 5 = w5.heap.size by omega, show w.heap.size + 4 = w4.heap.size by omega, x7.old _ (by omega)]; exact n6
  ·rw [o2 _ (by omega), show w.heap.size + 6 = w6.heap.size by omega, show w.heap.size + 5 = w5.heap.size by omega]; exact n7
 have hld := load_agg (w := w7.setRow w.heap.size (exM w1.heap.size w3.heap.size w6.heap.size)) (b := w.heap.size) (off := 0) (cs := (exM w1.heap.size w3.heap.size w6.heap.size).toList) hTM hiM.2 (by rw [hiM.1]; rfl) (by
  intro j v hj
  rw [Nat.zero_add, cell_of_heap (setRow_heap w7 _ _ _ _ _ hbx), ← Array.getElem?_toList]; exact hj)
 rw [Array.toArray_toList] at hld
 have hR := hR _ hw
 rw [show w.heap.size + 1 = w1.heap.size by omega, show w.heap.size + 3 = w3.heap.size by omega, show w.heap.size + 6 = w6.heap.size by omega] at hR
 refine wpl_skip _ rfl (run_store' (v := .agg (exM w1.heap.size w3.heap.size w6.heap.size)) rfl (by kernel_rfl) (by kernel_rfl) hst) ?_
 refine wp_ret ⟨by kernel_rfl, _, results_cell rfl (by kernel_rfl) hld, hR⟩
end S

open Go Go.AL Go.Proofs
namespace Go.AL
section
variable {P : Program} {L : Lay} {ops : Array Oper} {Q : Exit → Act → World → Prop} {a : Act} {w : World} {o : Oper} {l : List Oper}

theorem wpl_call (f : Nat) (args : Array Value) (hg : o.guard = none) (hrun : (execOp a.eval o).run P w = .ok (.enter f args) w)
  (h : Calls P f args w fun e w' => ∃ v, e = .returned v ∧ wpList P ops Q l (a.put o.dst v) w') : wpList P ops Q (o :: l) a w := by
 simp only [wpList]
 rw [if_pos (wanted_none hg)]
 refine .inl ?_
 unfold Oper.wp
 rw [hrun, Oper.upon_enter]
 refine Calls.mono h ?_
 rintro _ w' ⟨v, rfl, h⟩
 exact h

theorem put_size {d : Option Nat} {v : Value} : (a.put d v).tmps.size = a.tmps.size := by
 cases d <;> simp [Act.put]

theorem put_defers {d : Option Nat} {v : Value} : (a.put d v).defers = a.defers := by
 cases d <;> rfl

theorem eval_put {d : Nat} {v : Value} (h : d < a.tmps.size) : (a.put (some d) v).eval (.tmp d) = v := by
 simp [Act.put, Act.eval, h]

theorem eval_put_ne {d t : Nat} {v : Value} (h : d ≠ t) : (a.put (some d) v).eval (.tmp t) = a.eval (.tmp t) := by
 simp [Act.put, Act.eval, Array.getElem?_setIfInBounds_ne h]

structure PutA (a a' : Act) (d : Nat) (v : Value) : Prop where
 size : a'.tmps.size = a.tmps.size
 defers : a'.defers = a.defers
 new : a'.eval (.tmp d) = v
 old : ∀ t : Nat, t ≠ d → a'.eval (.tmp t) = a.eval (.tmp t)

theorem wpl_valA (d : Nat) (v : Value) (w' : World) (hg : o.guard = none) (hd : o.dst = some d) (hlt : d < a.tmps.size) (hrun : (execOp a.eval o).run P w = .ok (.value v) w') (h : ∀ a', PutA a a' d v → wpList P ops Q l a' w') : wpList P ops Q (o :: l) a w := by
 refine wpl_val v w' hg hrun (h _ ?_)
 rw [hd]
 exact ⟨put_size, put_defers, eval_put hlt, fun t ht => eval_put_ne (Ne.symm ht)⟩

theorem exec_field {t f n : Nat} {x : Operand} {i : TI} {zs : List AV} {z : AV} {b off off' : Nat} (hoff : off' = off + flatL (zs.take f)) (ho : o.op = .fieldAddr t x f) (hT : TIOk P t i) (hd : ∃ fs, i.desc = .struct fs) (hz : i.zero = .ag zs) (hf : zs[f]? = some z) (hn : flat z = n + 1)
  (hp : a.eval x = .pointer (some ⟨b, off, none⟩)) : (execOp a.eval o).run P w = .ok (.value (.pointer (some ⟨b, off', none⟩))) w := by
 subst hoff
 obtain ⟨gs, fd, h1, h2, h3, h4⟩ := hT.field hd hz hf
 unfold execOp; rw [ho]
 simp only [Instr.fieldAt, hp, Instr.sureAddr, Sem.run_bind, run_underlying h1, Result.andThen_ok, h2, Sem.run_pure, fieldPlace, run_sizeOf_cells (h4.trans hn)]
 simp [addr_add, h3]

theorem exec_index {t el : Nat} {x y : Operand} {ei : TI} {b off off' : Nat} {n : Int} (hoff : off' = off + n.toNat * flat ei.zero) (ho : o.op = .indexAddr t x y) (ht : P.underlying t = some (.slice el)) (hE : TIOk P el ei) {len cap : Nat} {kd : IntKind}
  (hx : a.eval x = .slice (some ⟨b, off, none⟩) len cap) (hy : a.eval y = .int kd n) (h0 : 0 ≤ n) (h1 : n < (len : Int)) :
  (execOp a.eval o).run P w = .ok (.value (.pointer (some ⟨b, off', none⟩))) w := by
 subst hoff
 have := run_indexAddr_slice (P := P) (c := cx0 w) ho ht hE hx hy h0 h1
 rw [addr_add] at this
 exact this

theorem exec_load {t : Nat} {x : Operand} {i : TI} {b off : Nat} {v : Value} (ho : o.op = .load t x) (hT : TIOk P t i) (hz : isAg i.zero = false) (hx : a.eval x = .pointer (some ⟨b, off, none⟩)) (hc : w.cell? ⟨b, off, none⟩ = some v) :
  (execOp a.eval o).run P w = .ok (.value v) w := run_load_op (c := cx0 w) ho hx (load_one hT hz hc)

theorem fin_of (hL : LayOk P L) {fn : Func} {c c1 : Cx} {H H1 H' : Heap} {R : AV} {e : Env} {a : Act} (hr : HR c H) (htr : Tr c H c1 H1) (ha1 : AOk fn.ntmps c1 e a) (h : FinSpec L fn.results.toList H R H' e H1) :
  a.defers = [] ∧ ∃ v, (results fn a.tmps).run P c1.w = .ok v c1.w ∧ (∃ v' d, Ending.returned v = .returned v' ∧ d.w = c1.w ∧ Tr c H d H' ∧ EV d R v') := by
 obtain ⟨e1, H2, hcv, hres⟩ := h
 obtain ⟨d, hw, htr', ha'⟩ := Cv_sound hcv htr.hr ha1
 obtain ⟨A, v, hrun, hA, hle, hbnd, hnx, hwk⟩ := results_sound hL htr'.hr ha' hres
 rw [hw] at hrun
 have hwk := hwk.to0 htr'.hr
 refine ⟨ha1.defers, v, hrun, v, d.cut H', rfl, hw, ?_, ?_⟩
 ·exact (htr.trans htr').cut hwk (by rw [hr.nx]; exact hnx)
 ·exact EV_cut (fun k n hn => by rw [htr'.hr.tp]; exact hwk.tp k n hn) hbnd (le_EV hle hA)

theorem seq_step (hL : LayOk P L) (hm : P.follows .mixedOrders = true) {n : Nat} {x y : Code} {Q : Exit → Act → World → Prop} {c : Cx} {H : Heap} {e : Env} {a : Act} (hc : codeB n x = true) (hr : HR c H) (ha : AOk n c e a)
  (h : awp (FnH P) Ok L x (fun x e1 H1 => x = .normal ∧ ∀ c' a', Tr c H c' H1 → AOk n c' e1 a' → y.wp P Q a' c'.w) e H) : (Code.seq x y).wp P Q a c.w := by
 refine wp_seq (wp_mono (awp_sound hL hm (fun _ _ _ _ _ h => h) x _ e H c a hc hr ha h) ?_)
 rintro ex a' w' ⟨x', e1, H1, c', rfl, ⟨rfl, k⟩, rfl, htr, ha', _⟩
 exact k c' a' htr ha'

theorem sl_rd {Im : Nat → Nat → Prop} {sz b ty : Nat} {fr : Nat × Nat} {l : List AV} {arr : Array Value} (hrow : w.heap[b]? = some (.cells arr ty fr)) (hf : RdF w Im sz l arr.toList) (hIm : ∀ o, Im b o) (hl : l.length ≤ maxL) :
  Rd w Im (.sl sz l .no) [.slice (some ⟨b, 0, none⟩) l.length l.length] := by
 simp only [Rd]
 refine ⟨hl, .inr ⟨⟨b, 0, none⟩, l.length, rfl, Nat.le_refl _, hl, fun _ => rfl, RdE_of_RdF hf fun j v hj => ⟨?_, hIm _⟩⟩⟩
 rw [Nat.zero_add, cell_of_heap hrow, ← Array.getElem?_toList]
 exact hj
end
end Go.AL

namespace S
set_option maxRecDepth 100000

abbrev zq : Rat := ⟨false, [], []⟩
def exA (c : UInt8) : Ev := ⟨[c], zq, zq, zq, 0⟩
def mdE (s : Str) : Md := ⟨[109], [103], [exA 97, exA 98, exA 99], [], [⟨[103], 0, 0, [[97], [64, 112]], zq⟩], [⟨[112], [104], [⟨[104], 1, 0, [[98], s], zq⟩]⟩], [], []⟩

theorem c_Example22 : FnH Tryz.prog 68 [] [] (mdE [99]).av [] := by
 refine FnH.intro lay mixed Tryz.func68 (by kernel_rfl) rfl (by kernel_rfl) rfl fun hok => ?_
 ((try dsimp only[argC,succC]);(try dsimp only[awp]);(conv=>whnf))
 (refine fM ?_;(conv=>whnf);refine ⟨?_,rfl⟩;(conv=>whnf))
 (repeat' first|exact rfl|exact trivial|exact wR|exact lR _|apply aI)

theorem ex_check : checkM (mdE [99]) = 0 := by decide +kernel
theorem ex_input : inputR (mdE [99]) (-1) [64, 112] = ((2, 0, 0), 0) := by decide +kernel
theorem ex_used : usedR (mdE [99]) = 7 := by decide +kernel
theorem ex_cycle : checkM (mdE [64, 112]) = 14 := by decide +kernel
theorem ex_light (s : Str) : lightM (mdE s) = true := by
 simp [lightM, mdE, fewR, fewG, evS, exA, shortR]
end S

open Go Go.AL Go.Proofs
namespace S
set_option maxRecDepth 100000
section
variable {w : World} {Im : Nat → Nat → Prop}

theorem rd_str (s : Str) (h : s.length ≤ maxL) : Rd w Im (.str s) [.string ⟨s.toArray⟩] := by simp only [Rd]; exact ⟨trivial, h⟩
theorem rd_int {n : Int} (h : InR .i64 n) : Rd w Im (.int .i64 n) [.int .i64 n] := by simp only [Rd]; exact ⟨trivial, h⟩
theorem rd_nil (sz : Nat) : Rd w Im (.sl sz [] .no) [.slice none 0 0] := by simp only [Rd]; refine ⟨by simp [maxL], .inl ⟨?_, ?_⟩⟩ <;> first | rfl | trivial
theorem rdL_nil : RdL w Im [] [] := by simp only [RdL]
theorem rdL_cons {x : AV} {l : List AV} {c d : List Value} (h : Rd w Im x c) (g : RdL w Im l d) : RdL w Im (x :: l) (c ++ d) := by simp only [RdL]; exact ⟨c, d, rfl, h, g⟩
theorem rd_ag {l : List AV} {c : List Value} (h : RdL w Im l c) : Rd w Im (.ag l) c := by simp only [Rd]; exact h
theorem rdF_nil (sz : Nat) : RdF w Im sz [] [] := rfl
theorem rdF_cons {sz : Nat} {x : AV} {l : List AV} {c d : List Value} (h : Rd w Im x c) (hl : c.length = sz) (g : RdF w Im sz l d) : RdF w Im sz (x :: l) (c ++ d) := ⟨c, d, rfl, hl, h, g⟩

theorem rd_zq : Rd w Im zq.av [.bool false, .slice none 0 0, .slice none 0 0] :=
 rd_ag (rdL_cons (c := [_]) (by simp only [Rd]) (rdL_cons (c := [_]) (rd_nil 1) (rdL_cons (c := [_]) (rd_nil 1) rdL_nil)))

theorem rd_exA (c : UInt8) : Rd w Im (exA c).av [.string ⟨#[c]⟩, .bool false, .slice none 0 0, .slice none 0 0, .bool false, .slice none 0 0, .slice none 0 0, .bool false, .slice none 0 0, .slice none 0 0, .int .i64 0] :=
 rd_ag (rdL_cons (c := [_]) (rd_str [c] (by simp [maxL])) (rdL_cons (c := [_, _, _]) rd_zq (rdL_cons (c := [_, _, _]) rd_zq (rdL_cons (c := [_, _, _]) rd_zq (rdL_cons (c := [_]) (rd_int (n := 0) (inr64 (by decide) (by decide))) rdL_nil)))))

theorem rd_gate {name : Str} {kind : Int} {ins : List Str} {v : Value} (hn : name.length ≤ maxL) (hk : InR .i64 kind) (h : Rd w Im (sL ins) [v]) : Rd w Im (Mg.av ⟨name, kind, 0, ins, zq⟩) [.string ⟨name.toArray⟩, .int .i64 kind, .int .i64 0, v, .bool false, .slice none 0 0, .slice none 0 0] :=
 rd_ag (rdL_cons (c := [_]) (rd_str name hn) (rdL_cons (c := [_]) (rd_int hk) (rdL_cons (c := [_]) (rd_int (n := 0) (inr64 (by decide) (by decide))) (rdL_cons (c := [_]) h (rdL_cons (c := [_, _, _]) rd_zq rdL_nil)))))

theorem rd_ex {n te ts tg tp : Nat} (E1 : w.heap[n + 1]? = some (.cells exEv te)) (E2 : w.heap[n + 2]? = some (.cells exI0 ts)) (E3 : w.heap[n + 3]? = some (.cells (exG0 (n + 2)) tg))
  (E4 : w.heap[n + 4]? = some (.cells #[.string ⟨#[98]⟩, .string ⟨#[64, 112]⟩] ts)) (E5 : w.heap[n + 5]? = some (.cells (exG1 (n + 4)) tg)) (E6 : w.heap[n + 6]? = some (.cells (exP (n + 5)) tp))
  (hIm : ∀ b o, n < b → b < n + 7 → Im b o) : Rd w Im (mdE [64, 112]).av (exM (n + 1) (n + 3) (n + 6)).toList := by
 have m2 : ∀ (l : List AV), l.length ≤ 3 → l.length ≤ maxL := fun l h => by simp [maxL]; omega
 have hi0 : Rd w Im (sL [[97], [64, 112]]) [.slice (some ⟨n + 2, 0, none⟩) 2 2] := sl_rd E2 (rdF_cons (c := [_]) (rd_str [97] (by simp [maxL])) rfl (rdF_cons (c := [_]) (rd_str [64, 112] (by simp [maxL])) rfl (rdF_nil 1))) (fun o => hIm _ o (by omega) (by omega)) (m2 _ (by simp))
 have hi1 : Rd w Im (sL [[98], [64, 112]]) [.slice (some ⟨n + 4, 0, none⟩) 2 2] := sl_rd E4 (rdF_cons (c := [_]) (rd_str [98] (by simp [maxL])) rfl (rdF_cons (c := [_]) (rd_str [64, 112] (by simp [maxL])) rfl (rdF_nil 1))) (fun o => hIm _ o (by omega) (by omega)) (m2 _ (by simp))
 have hg0 : Rd w Im (gL [⟨[103], 0, 0, [[97], [64, 112]], zq⟩]) [.slice (some ⟨n + 3, 0, none⟩) 1 1] := sl_rd E3 (rdF_cons (c := [_, _, _, _, _, _, _]) (rd_gate (kind := 0) (by simp [maxL]) (inr64 (by decide) (by decide)) hi0) rfl (rdF_nil 7)) (fun o => hIm _ o (by omega) (by omega)) (m2 _ (by simp))
 have hg1 : Rd w Im (gL [⟨[104], 1, 0, [[98], [64, 112]], zq⟩]) [.slice (some ⟨n + 5, 0, none⟩) 1 1] := sl_rd E5 (rdF_cons (c := [_, _, _, _, _, _, _]) (rd_gate (kind := 1) (by simp [maxL]) (inr64 (by decide) (by decide)) hi1) rfl (rdF_nil 7)) (fun o => hIm _ o (by omega) (by omega)) (m2 _ (by simp))
 have hp : Rd w Im (.sl 3 [Pg.av ⟨[112], [104], [⟨[104], 1, 0, [[98], [64, 112]], zq⟩]⟩] .no) [.slice (some ⟨n + 6, 0, none⟩) 1 1] :=
  sl_rd E6 (rdF_cons (c := [_, _, _]) (rd_ag (rdL_cons (c := [_]) (rd_str [112] (by simp [maxL])) (rdL_cons (c := [_]) (rd_str [104] (by simp [maxL])) (rdL_cons (c := [_]) hg1 rdL_nil)))) rfl (rdF_nil 3)) (fun o => hIm _ o (by omega) (by omega)) (m2 _ (by simp))
 have he : Rd w Im (.sl 11 [(exA 97).av, (exA 98).av, (exA 99).av] .no) [.slice (some ⟨n + 1, 0, none⟩) 3 3] :=
  sl_rd E1 (rdF_cons (c := [_, _, _, _, _, _, _, _, _, _, _]) (rd_exA 97) rfl (rdF_cons (c := [_, _, _, _, _, _, _, _, _, _, _]) (rd_exA 98) rfl (rdF_cons (c := [_, _, _, _, _, _, _, _, _, _, _]) (rd_exA 99) rfl (rdF_nil 11)))) (fun o => hIm _ o (by omega) (by omega)) (m2 _ (by simp))
 exact rd_ag (rdL_cons (c := [_]) (rd_str [109] (by simp [maxL])) (rdL_cons (c := [_]) (rd_str [103] (by simp [maxL])) (rdL_cons (c := [_]) he (rdL_cons (c := [_]) (rd_nil 2) (rdL_cons (c := [_]) hg0 (rdL_cons (c := [_]) hp (rdL_cons (c := [_]) (rd_nil 4) (rdL_cons (c := [_]) (rd_nil 3) rdL_nil))))))))
end
end S

open Go Go.AL Go.Proofs
namespace S
set_option maxRecDepth 100000

theorem c_awake22 : FnH Tryz.prog 30 [] [] (.bool true) [] := by
 obtain ⟨hB, hC⟩ := lightM_B (ex_light [99])
 obtain ⟨hB2, hC2⟩ := lightM_B (ex_light [64, 112])
 have ci := c_Input (mdE [99]) (-1) [64, 112] hC hB _ rfl
 rw [ex_input, errAV_zero] at ci
 have cu := c_Used (mdE [99]) hC hB _ rfl
 rw [if_pos ex_check, ex_used] at cu
 have cc := c_mCheck (mdE [64, 112]) hC2 hB2 _ rfl
 rw [ex_cycle, errAV_ne (by decide)] at cc
 have cis := (c_Is 14 14).weak (R' := .tt) (by show decide _ = true; decide)
 rw [errAV_ne (by decide)] at cis
 refine ⟨⟨Tryz.f30, Tryz.func30, by kernel_rfl, by kernel_rfl⟩, fun c vs hr hv => ?_⟩
 obtain rfl : vs = [] := hv
 refine calls_of_wp Tryz.func30 rfl ?_
 have ha0 : AOk 57 c [] { tmps := [].toArray ++ Array.replicate (57 - 0) undef, defers := [] } := ⟨fun t A h => by simp [eget] at h, rfl, by simp⟩
 refine seq_step (n := 57) lay mixed (by kernel_rfl) hr ha0 ?_
 (conv=>whnf)
 refine ⟨rfl, fun c1 a1 tr1 ha1 => ?_⟩
 refine seq_step (n := 57) lay mixed (by kernel_rfl) tr1.hr ha1 ?_
 (conv=>whnf)
 refine .pure _ _ ?_ ⟨rfl, rfl⟩ c_Example22 fun _ => ?_
 ·exact leL_refl _
 (conv=>whnf)
 refine .pure _ _ ?_ ⟨rfl, rfl⟩ ci fun _ => ?_
 ·exact leL_refl _
 (conv=>whnf)
 refine ⟨rfl, fun c2 a2 tr2 ha2 => ?_⟩
 refine seq_step (n := 57) lay mixed (by kernel_rfl) tr2.hr ha2 ?_
 (conv=>whnf)
 refine .pure _ _ ?_ ⟨rfl, rfl⟩ c_Example22 fun _ => ?_
 ·exact leL_refl _
 (conv=>whnf)
 refine .pure _ _ ?_ ⟨rfl, rfl⟩ cu fun _ => ?_
 ·exact leL_refl _
 (conv=>whnf)
 refine ⟨rfl, fun c3 a3 tr3 ha3 => ?_⟩
 have hsz := ha3.size
 have v1 := (EV_int (ha3.env 1 _ rfl)).1
 have v2 := (EV_int (ha3.env 2 _ rfl)).1
 have v3 := (EV_int (ha3.env 3 _ rfl)).1
 have v5 := (EV_int (ha3.env 5 _ rfl)).1
 have v4 := EV_nilI (ha3.env 4 _ rfl)
 have v6 := EV_nilI (ha3.env 6 _ rfl)
 have hdf := ha3.defers
 have tr := tr1.trans (tr2.trans tr3)
 clear ha0 ha1 ha2 ha3 tr1 tr2 tr3
 obtain ⟨iM, tM, dM, zM⟩ : ∃ i, TIOk Tryz.prog 69 i ∧ (∃ fs, i.desc = .struct fs) ∧ i.zero = .ag [.str [], .str [], .nils, .nils, .nils, .nils, .nils, .nils] := Lay.getC_ok lay (k := fun i => (∃ fs, i.desc = .struct fs) ∧ i.zero = .ag [.str [], .str [], .nils, .nils, .nils, .nils, .nils, .nils]) (by (conv => whnf); exact ⟨⟨_, rfl⟩, rfl⟩)
 obtain ⟨iP, tP, dP, zP⟩ : ∃ i, TIOk Tryz.prog 126 i ∧ (∃ fs, i.desc = .struct fs) ∧ i.zero = .ag [.str [], .str [], .nils] := Lay.getC_ok lay (k := fun i => (∃ fs, i.desc = .struct fs) ∧ i.zero = .ag [.str [], .str [], .nils]) (by (conv => whnf); exact ⟨⟨_, rfl⟩, rfl⟩)
 obtain ⟨iG, tG, dG, zG⟩ : ∃ i, TIOk Tryz.prog 124 i ∧ (∃ fs, i.desc = .struct fs) ∧ i.zero = .ag [.str [], .int .i64 0, .int .i64 0, .nils, .ag [.ff, .nils, .nils]] := Lay.getC_ok lay (k := fun i => (∃ fs, i.desc = .struct fs) ∧ i.zero = .ag [.str [], .int .i64 0, .int .i64 0, .nils, .ag [.ff, .nils, .nils]]) (by (conv => whnf); exact ⟨⟨_, rfl⟩, rfl⟩)
 obtain ⟨iS, tS, zS⟩ : ∃ i, TIOk Tryz.prog 9 i ∧ i.zero = .str [] := Lay.getC_ok lay (k := fun i => i.zero = .str []) (by (conv => whnf))
 obtain ⟨iLP, tLP, zLP⟩ : ∃ i, TIOk Tryz.prog 65 i ∧ i.zero = .nils := Lay.getC_ok lay (k := fun i => i.zero = .nils) (by (conv => whnf))
 obtain ⟨iLG, tLG, zLG⟩ : ∃ i, TIOk Tryz.prog 64 i ∧ i.zero = .nils := Lay.getC_ok lay (k := fun i => i.zero = .nils) (by (conv => whnf))
 obtain ⟨iLS, tLS, zLS⟩ : ∃ i, TIOk Tryz.prog 122 i ∧ i.zero = .nils := Lay.getC_ok lay (k := fun i => i.zero = .nils) (by (conv => whnf))
 refine wp_seq (wp_region_list ?_)
 refine wpl_call 68 #[] rfl (by kernel_rfl) (raw_Ex c3.w _ fun wE hE => ⟨_, rfl, ?_⟩)
 refine wpl_alloc (.pointer (some ⟨wE.heap.size, 0, none⟩)) (.cells #[.string ⟨#[]⟩, .string ⟨#[]⟩, .slice none 0 0, .slice none 0 0, .slice none 0 0, .slice none 0 0, .slice none 0 0, .slice none 0 0] 69) rfl (by kernel_rfl) fun w9 x9 s9 n9 => ?_
 generalize hn : c3.w.heap.size = n at *
 have hst := run_storeVar (v := .agg (exM (n + 1) (n + 3) (n + 6))) (off := 0) tM (by rw [zM]; kernel_rfl) n9 (by show 0 + 8 ≤ 8; omega) (by
  intro u hu
  simp only [Value.cells, exM] at hu
  simp only [List.mem_cons, List.not_mem_nil, or_false] at hu
  rcases hu with rfl | rfl | rfl | rfl | rfl | rfl | rfl | rfl <;> rfl)
 refine wpl_skip _ rfl (run_store' rfl (eval_put (by rw [put_size, hsz]; omega)) (by rw [eval_put_ne (by decide), eval_put (by rw [hsz]; omega)]) hst) ?_
 have hrow : (w9.setRow wE.heap.size ((#[.string ⟨#[]⟩, .string ⟨#[]⟩, .slice none 0 0, .slice none 0 0, .slice none 0 0, .slice none 0 0, .slice none 0 0, .slice none 0 0] : Array Value).toList.take 0 ++ (Value.agg (exM (n + 1) (n + 3) (n + 6))).cells.toList ++ (#[.string ⟨#[]⟩, .string ⟨#[]⟩, .slice none 0 0, .slice none 0 0, .slice none 0 0, .slice none 0 0, .slice none 0 0, .slice none 0 0] : Array Value).toList.drop (0 + (Value.agg (exM (n + 1) (n + 3) (n + 6))).cells.size)).toArray) = w9.setRow wE.heap.size (exM (n + 1) (n + 3) (n + 6)) := rfl
 rw [hrow]
 clear hrow hst
 have hb := setRow_heap w9 wE.heap.size _ (exM (n + 1) (n + 3) (n + 6)) _ _ n9
 have ho : ∀ b, b ≠ wE.heap.size → (w9.setRow wE.heap.size (exM (n + 1) (n + 3) (n + 6))).heap[b]? = w9.heap[b]? := fun b hb => setRow_other _ _ _ _ hb
 have hx := setRow_ext (cs := exM (n + 1) (n + 3) (n + 6)) x9 (Nat.le_refl wE.heap.size)
 have hsz10 : (w9.setRow wE.heap.size (exM (n + 1) (n + 3) (n + 6))).heap.size = w9.heap.size := setRow_size _ _ _
 generalize w9.setRow wE.heap.size (exM (n + 1) (n + 3) (n + 6)) = w10 at *
 obtain ⟨xE, sE, E1, E2, E3, E4, E5, E6⟩ := hE
 rw [hn] at sE E1 E2 E3 E4 E5 E6
 have F : ∀ b ob, b < n + 7 → wE.heap[b]? = some ob → w10.heap[b]? = some ob := fun b ob h1 h2 => by rw [hx.old b (by omega)]; exact h2
 have E1 := F _ _ (by omega) E1
 have E2 := F _ _ (by omega) E2
 have E3 := F _ _ (by omega) E3
 have E4 := F _ _ (by omega) E4
 have E5 := F _ _ (by omega) E5
 have E6 := F _ _ (by omega) E6
 have X10 : Ext c3.w w10 := xE.trans hx
 rw [sE] at hb
 generalize hA : ((a3.put (some 20) (.agg (exM (n + 1) (n + 3) (n + 6)))).put (some 7) (.pointer (some ⟨wE.heap.size, 0, none⟩))).put none undef = a10
 have z10 : a10.tmps.size = 57 := by rw [← hA, put_size, put_size, put_size, hsz]
 have f10 : a10.defers = [] := by rw [← hA, put_defers, put_defers, put_defers, hdf]
 have e7 : a10.eval (.tmp 7) = .pointer (some ⟨n + 7, 0, none⟩) := by rw [← hA, ← sE]; exact eval_put (by rw [put_size, hsz]; omega)
 have ek : ∀ t : Nat, t < 7 → a10.eval (.tmp t) = a3.tmps.getD t undef := fun t ht => by
  rw [← hA]
  show ((a3.put (some 20) _).put (some 7) _).eval (.tmp t) = _
  rw [eval_put_ne (show 7 ≠ t by omega), eval_put_ne (show 20 ≠ t by omega)]; rfl
 have ek1 := (ek 1 (by decide)).trans v1
 have ek2 := (ek 2 (by decide)).trans v2
 have ek3 := (ek 3 (by decide)).trans v3
 have ek4 := (ek 4 (by decide)).trans v4
 have ek5 := (ek 5 (by decide)).trans v5
 have ek6 := (ek 6 (by decide)).trans v6
 have hsz10 : w10.heap.size = n + 8 := by omega
 clear hA ek v1 v2 v3 v4 v5 v6 F xE hx x9 n9 ho
 refine (wp_seq (wp_region_list ?_) : Code.wp _ _ _ _ _)
 refine wpl_valA 21 _ _ rfl rfl (by rw [z10]; omega) (exec_field (off' := 5) rfl rfl tM dM zM rfl rfl e7) fun b1 p1 => ?_
 have q1 := p1.size.trans z10
 refine wpl_valA 22 _ _ rfl rfl (by rw [q1]; omega) (exec_load rfl tLP (by rw [zLP]; rfl) p1.new (v := .slice (some ⟨n + 6, 0, none⟩) 1 1) (by rw [cell_of_heap hb]; rfl)) fun b2 p2 => ?_
 have q2 := p2.size.trans q1
 refine wpl_valA 23 _ _ rfl rfl (by rw [q2]; omega) (exec_index (off' := 0) (by rw [zP]; rfl) rfl (by kernel_rfl) tP p2.new (kd := .i64) (n := 0) rfl (by omega) (by decide)) fun b3 p3 => ?_
 have q3 := p3.size.trans q2
 refine wpl_valA 24 _ _ rfl rfl (by rw [q3]; omega) (exec_field (off' := 2) rfl rfl tP dP zP rfl rfl p3.new) fun b4 p4 => ?_
 have q4 := p4.size.trans q3
 refine wpl_valA 25 _ _ rfl rfl (by rw [q4]; omega) (exec_load rfl tLG (by rw [zLG]; rfl) p4.new (v := .slice (some ⟨n + 5, 0, none⟩) 1 1) (by rw [cell_of_heap E6]; rfl)) fun b5 p5 => ?_
 have q5 := p5.size.trans q4
 refine wpl_valA 26 _ _ rfl rfl (by rw [q5]; omega) (exec_index (off' := 0) (by rw [zG]; rfl) rfl (by kernel_rfl) tG p5.new (kd := .i64) (n := 0) rfl (by omega) (by decide)) fun b6 p6 => ?_
 have q6 := p6.size.trans q5
 refine wpl_valA 27 _ _ rfl rfl (by rw [q6]; omega) (exec_field (off' := 3) rfl rfl tG dG zG rfl rfl p6.new) fun b7 p7 => ?_
 have q7 := p7.size.trans q6
 refine wpl_valA 28 _ _ rfl rfl (by rw [q7]; omega) (exec_load rfl tLS (by rw [zLS]; rfl) p7.new (v := .slice (some ⟨n + 4, 0, none⟩) 2 2) (by rw [cell_of_heap E5]; rfl)) fun b8 p8 => ?_
 have q8 := p8.size.trans q7
 refine wpl_valA 29 _ _ rfl rfl (by rw [q8]; omega) (exec_index (off' := 1) (by rw [zS]; rfl) rfl (by kernel_rfl) tS p8.new (kd := .i64) (n := 1) rfl (by omega) (by decide)) fun a11 p9 => ?_
 have z11 := p9.size.trans q8
 have hst := run_storeVar (P := Tryz.prog) (w := w10) (v := .string ⟨#[64, 112]⟩) (off := 1) tS (by rw [zS]; rfl) E4 (by show 1 + 1 ≤ 2; omega) (by
  intro u hu
  simp only [Value.cells, List.mem_cons, List.not_mem_nil, or_false] at hu
  subst hu; rfl)
 refine wpl_skip _ rfl (run_store' rfl p9.new rfl hst) ?_
 have hrow : (w10.setRow (n + 4) (exI1.toList.take 1 ++ (Value.string ⟨#[64, 112]⟩).cells.toList ++ exI1.toList.drop (1 + (Value.string ⟨#[64, 112]⟩).cells.size)).toArray) = w10.setRow (n + 4) #[.string ⟨#[98]⟩, .string ⟨#[64, 112]⟩] := rfl
 rw [hrow]
 clear hrow hst
 have hb4 := setRow_heap w10 (n + 4) _ #[.string ⟨#[98]⟩, .string ⟨#[64, 112]⟩] _ _ E4
 have ho : ∀ b, b ≠ n + 4 → (w10.setRow (n + 4) #[.string ⟨#[98]⟩, .string ⟨#[64, 112]⟩]).heap[b]? = w10.heap[b]? := fun b hb => setRow_other _ _ _ _ hb
 have hx := setRow_ext (cs := #[.string ⟨#[98]⟩, .string ⟨#[64, 112]⟩]) X10 (show c3.w.heap.size ≤ n + 4 by omega)
 have hsz11 : (w10.setRow (n + 4) #[.string ⟨#[98]⟩, .string ⟨#[64, 112]⟩]).heap.size = w10.heap.size := setRow_size _ _ _
 generalize w10.setRow (n + 4) #[.string ⟨#[98]⟩, .string ⟨#[64, 112]⟩] = w11 at *
 have hb := (ho (n + 7) (by omega)).trans hb
 have E1 := (ho (n + 1) (by omega)).trans E1
 have E2 := (ho (n + 2) (by omega)).trans E2
 have E3 := (ho (n + 3) (by omega)).trans E3
 have E5 := (ho (n + 5) (by omega)).trans E5
 have E6 := (ho (n + 6) (by omega)).trans E6
 have f11 : a11.defers = [] := p9.defers.trans (p8.defers.trans (p7.defers.trans (p6.defers.trans (p5.defers.trans (p4.defers.trans (p3.defers.trans (p2.defers.trans (p1.defers.trans f10))))))))
 have ek : ∀ t : Nat, t < 20 → a11.eval (.tmp t) = a10.eval (.tmp t) := fun t ht => by
  rw [p9.old t (by omega), p8.old t (by omega), p7.old t (by omega), p6.old t (by omega), p5.old t (by omega), p4.old t (by omega), p3.old t (by omega), p2.old t (by omega), p1.old t (by omega)]
 have ek1 := (ek 1 (by decide)).trans ek1
 have ek2 := (ek 2 (by decide)).trans ek2
 have ek3 := (ek 3 (by decide)).trans ek3
 have ek4 := (ek 4 (by decide)).trans ek4
 have ek5 := (ek 5 (by decide)).trans ek5
 have ek6 := (ek 6 (by decide)).trans ek6
 have e7 := (ek 7 (by decide)).trans e7
 have hsz12 : w11.heap.size = n + 8 := by omega
 clear p1 p2 p3 p4 p5 p6 p7 p8 p9 q1 q2 q3 q4 q5 q6 q7 q8 ek hsz11 hsz10 hsz z10 f10 E4 ho tM dM zM tP dP zP tG dG zG tS zS tLP zLP tLG zLG tLS zLS
 have hnx : c3.nx = 0 := tr.hr.nx
 have htp3 : c3.tp = tpOf [] := tr.hr.tp
 let d : Cx := { c3 with w := w11, Im := fun b o => c3.Im b o ∨ (n < b ∧ b < n + 7), ρ := fun k => if k = 0 then n + 7 else c3.ρ k, nx := 1, tp := tpOf [(0, .box (mdE [64, 112]).av)] }
 have hRd : Rd w11 d.Im (mdE [64, 112]).av (exM (n + 1) (n + 3) (n + 6)).toList := rd_ex E1 E2 E3 hb4 E5 E6 fun b o h1 h2 => .inr ⟨h1, h2⟩
 have hcell : ∀ b o, c3.Im b o → w11.cell? ⟨b, o, none⟩ = c3.w.cell? ⟨b, o, none⟩ := fun b o h => cell_same (hx.old b (tr.hr.im b o h))
 have hle : c3.Le d := ⟨fun b o h => ⟨.inl h, hcell b o h⟩, by rw [hnx]; exact Nat.zero_le _, fun k hk => by rw [hnx] at hk; omega, fun k m hk _ => by rw [hnx] at hk; omega⟩
 have TR : Tr c3 [] d [(0, .box (mdE [64, 112]).av)] := by
  refine ⟨⟨rfl, rfl, ⟨by simp, trivial⟩, ?_, ?_, by simp⟩, hle, hx.os, hx.tape, hx.output, hx.size, fun b hb _ => hx.old b hb, ?_, ?_⟩
  ·rintro b o (h | h)
   ·have := tr.hr.im b o h
    show b < w11.heap.size
    omega
   ·show b < w11.heap.size
    omega
  ·intro x hx
   obtain rfl : x = (0, .box (mdE [64, 112]).av) := by simpa using hx
   refine ⟨(exM (n + 1) (n + 3) (n + 6)).toList, 69, ?_, VR_of_Rd (c := d) _ _ hRd, ?_⟩
   ·show w11.heap[n + 7]? = _
    rw [Array.toArray_toList]
    exact hb
   ·rintro o (h | h)
    ·have := tr.hr.im _ o h
     have : n + 7 < c3.w.heap.size := this
     omega
    ·have h2 : n + 7 < n + 7 := h.2
     omega
  ·intro y hy b hb
   obtain rfl : y = (0, .box (mdE [64, 112]).av) := by simpa using hy
   have hb : n + 7 = b := by simpa [blkOf, d] using hb
   exact .inl (by omega)
  ·rintro b o (h | h)
   ·exact .inl h
   ·exact .inr (.inl (by omega))
 have AOK : AOk 57 d [(7, .ptr 0 [] 0), (1, .int .i64 2), (2, .int .i64 0), (3, .int .i64 0), (4, .nilI), (5, .int .i64 7), (6, .nilI)] a11 := by
  refine ⟨fun t A hA => ?_, f11, z11⟩
  have hm := eget_mem hA
  simp only [List.mem_cons, List.not_mem_nil, or_false, Prod.mk.injEq] at hm
  rcases hm with ⟨rfl, rfl⟩ | ⟨rfl, rfl⟩ | ⟨rfl, rfl⟩ | ⟨rfl, rfl⟩ | ⟨rfl, rfl⟩ | ⟨rfl, rfl⟩ | ⟨rfl, rfl⟩
  ·show EV d _ (a11.eval (.tmp 7))
   rw [e7]; exact EV_VV (VV_ptr_mk (c := d) (i := 0) (by show 0 < 1; omega))
  ·show EV d _ (a11.eval (.tmp 1))
   rw [ek1]; exact EV_VV (VV_int_mk (inr64 (by decide) (by decide)))
  ·show EV d _ (a11.eval (.tmp 2))
   rw [ek2]; exact EV_VV (VV_int_mk (inr64 (by decide) (by decide)))
  ·show EV d _ (a11.eval (.tmp 3))
   rw [ek3]; exact EV_VV (VV_int_mk (inr64 (by decide) (by decide)))
  ·show EV d _ (a11.eval (.tmp 4))
   rw [ek4]; exact EV_VV (VV_mk rfl rfl (by simp only [VR, Rd]))
  ·show EV d _ (a11.eval (.tmp 5))
   rw [ek5]; exact EV_VV (VV_int_mk (inr64 (by decide) (by decide)))
  ·show EV d _ (a11.eval (.tmp 6))
   rw [ek6]; exact EV_VV (VV_mk rfl rfl (by simp only [VR, Rd]))
 refine (wp_mono (awp_sound lay mixed (fun _ _ _ _ _ h => h) (n := 57) _ (Fin L (Tryz.f30).results.toList [] (.bool true) []) _ _ d _ (by kernel_rfl) TR.hr AOK ?_) ?_ : Code.wp _ _ _ _ _)
 ·((try dsimp only[awp]);(conv=>whnf))
  refine And.intro (fun _ => ?_) (fun h => absurd rfl h)
  ((try dsimp only[awp]);(conv=>whnf))
  refine And.intro (fun _ => ?_) (fun h => absurd rfl h)
  ((try dsimp only[awp]);(conv=>whnf))
  refine And.intro (fun _ => ?_) (fun h => absurd rfl h)
  ((try dsimp only[awp]);(conv=>whnf))
  refine And.intro (fun _ => ?_) (fun h => absurd rfl h)
  ((try dsimp only[awp]);(conv=>whnf))
  refine .pure _ _ ?_ ⟨rfl, rfl⟩ cc fun _ => ?_
  ·exact leL_refl _
  ((try dsimp only[awp]);(conv=>whnf))
  refine .pure _ _ ?_ ⟨rfl, rfl⟩ cis fun _ => ?_
  ·exact leL_refl _
  ((try dsimp only[awp]);(conv=>whnf))
  (refine fM ?_;(conv=>whnf);refine ⟨?_,rfl⟩;(conv=>whnf))
  (repeat' first|exact rfl|exact trivial|exact wR|exact lR _|apply aI)
 ·rintro ex a w ⟨x, e, H1, c1, rfl, hq, rfl, htr, ha1, _⟩
  have TR2 := (tr.trans TR).trans htr
  cases x with
  | normal => exact fin_of (fn := Tryz.f30) lay hr TR2 ha1 hq
  | ret => exact fin_of (fn := Tryz.f30) lay hr TR2 ha1 hq
  | exit i => exact hq.elim
end S

open Go Go.AL Go.Proofs
namespace S

theorem list_of {α : Type} {f : α → AV} : ∀ {l : List AV}, (∀ x ∈ l, ∃ y, x = f y) → ∃ m : List α, l = m.map f
 | [], _ => ⟨[], rfl⟩
 | x :: l, h => by
   obtain ⟨y, rfl⟩ := h x (by simp)
   obtain ⟨m, rfl⟩ := list_of (l := l) fun z hz => h z (by simp [hz])
   exact ⟨y :: m, rfl⟩

theorem ints_of {sz : Nat} {k : IntKind} {A : AV} (h : (Sh.sl sz (.int k)).In A) : ∃ l : List Int, A = .sl sz (l.map (.int k)) .no := by
 simp only [Sh.In] at h
 obtain ⟨l, rfl, hl⟩ := h
 obtain ⟨m, rfl⟩ := list_of hl
 exact ⟨m, rfl⟩

abbrev shRat : Sh := .st [.bool, .sl 1 (.int .u32), .sl 1 (.int .u32)]
theorem Rat.of {A : AV} (h : shRat.In A) : ∃ r : Rat, A = r.av := by
 simp only [Sh.In, InL] at h
 obtain ⟨_, rfl, _, _, rfl, ⟨b, rfl⟩, _, _, rfl, h1, _, _, rfl, h2, rfl⟩ := h
 obtain ⟨n, rfl⟩ := ints_of (sz := 1) (k := .u32) (by simp only [Sh.In]; exact h1)
 obtain ⟨d, rfl⟩ := ints_of (sz := 1) (k := .u32) (by simp only [Sh.In]; exact h2)
 exact ⟨⟨b, n, d⟩, rfl⟩

theorem rats_of {A : AV} (h : (Sh.sl 3 shRat).In A) : ∃ l : List Rat, A = .sl 3 (l.map Rat.av) .no := by
 unfold Sh.In at h
 obtain ⟨l, rfl, hl⟩ := h
 obtain ⟨m, rfl⟩ := list_of fun x hx => Rat.of (hl x hx)
 exact ⟨m, rfl⟩

theorem int_of {k : IntKind} {A : AV} (h : (Sh.int k).In A) : ∃ n : Int, A = .int k n := by
 simpa only [Sh.In] using h

theorem str_of {A : AV} (h : Sh.str.In A) : ∃ s : List UInt8, A = .str s := by
 simpa only [Sh.In] using h
end S

open Go Go.AL Go.Proofs
namespace S
set_option maxRecDepth 100000

theorem sl_of {α : Type} {f : α → AV} {sh : Sh} {sz : Nat} {A : AV} (hf : ∀ x, sh.In x → ∃ y, x = f y) (h : (Sh.sl sz sh).In A) : ∃ l : List α, A = .sl sz (l.map f) .no := by
 unfold Sh.In at h
 obtain ⟨l, rfl, hl⟩ := h
 obtain ⟨m, rfl⟩ := list_of fun x hx => hf x (hl x hx)
 exact ⟨m, rfl⟩

abbrev shEv : Sh := .st [.str, shRat, shRat, shRat, .int .i64]
abbrev shHs : Sh := .st [.str, .bool]
abbrev shMg : Sh := .st [.str, .int .i64, .int .i64, .sl 1 .str, shRat]
abbrev shPg : Sh := .st [.str, .str, .sl 7 shMg]
abbrev shGr : Sh := .st [.str, .int .i64, .sl 1 .str, .sl 3 shRat]
abbrev shPv : Sh := .st [.str, shRat]
abbrev shPh : Sh := .st [.str, .str, .sl 4 shPv]
abbrev shMd : Sh := .st [.str, .str, .sl 11 shEv, .sl 2 shHs, .sl 7 shMg, .sl 3 shPg, .sl 4 shGr, .sl 3 shPh]

theorem strs_of {A : AV} (h : (Sh.sl 1 .str).In A) : ∃ l : List Str, A = sL l := sl_of (f := AV.str) (fun _ hx => str_of hx) h

theorem Ev.of {A : AV} (h : shEv.In A) : ∃ x : Ev, A = x.av := by
 unfold Sh.In at h
 simp only [InL] at h
 obtain ⟨_, rfl, _, _, rfl, h0, _, _, rfl, h1, _, _, rfl, h2, _, _, rfl, h3, _, _, rfl, h4, rfl⟩ := h
 obtain ⟨a, rfl⟩ := str_of h0
 obtain ⟨b, rfl⟩ := Rat.of h1
 obtain ⟨c, rfl⟩ := Rat.of h2
 obtain ⟨d, rfl⟩ := Rat.of h3
 obtain ⟨e, rfl⟩ := int_of h4
 exact ⟨⟨a, b, c, d, e⟩, rfl⟩

theorem Hs.of {A : AV} (h : shHs.In A) : ∃ x : Hs, A = x.av := by
 unfold Sh.In at h
 simp only [InL] at h
 obtain ⟨_, rfl, _, _, rfl, h0, _, _, rfl, h1, rfl⟩ := h
 obtain ⟨a, rfl⟩ := str_of h0
 simp only [Sh.In] at h1
 obtain ⟨b, rfl⟩ := h1
 exact ⟨⟨a, b⟩, rfl⟩

theorem Mg.of {A : AV} (h : shMg.In A) : ∃ x : Mg, A = x.av := by
 unfold Sh.In at h
 simp only [InL] at h
 obtain ⟨_, rfl, _, _, rfl, h0, _, _, rfl, h1, _, _, rfl, h2, _, _, rfl, h3, _, _, rfl, h4, rfl⟩ := h
 obtain ⟨a, rfl⟩ := str_of h0
 obtain ⟨b, rfl⟩ := int_of h1
 obtain ⟨c, rfl⟩ := int_of h2
 obtain ⟨d, rfl⟩ := strs_of h3
 obtain ⟨e, rfl⟩ := Rat.of h4
 exact ⟨⟨a, b, c, d, e⟩, rfl⟩

theorem Pg.of {A : AV} (h : shPg.In A) : ∃ x : Pg, A = x.av := by
 unfold Sh.In at h
 simp only [InL] at h
 obtain ⟨_, rfl, _, _, rfl, h0, _, _, rfl, h1, _, _, rfl, h2, rfl⟩ := h
 obtain ⟨a, rfl⟩ := str_of h0
 obtain ⟨b, rfl⟩ := str_of h1
 obtain ⟨c, rfl⟩ := sl_of (f := Mg.av) (fun _ hx => Mg.of hx) h2
 exact ⟨⟨a, b, c⟩, rfl⟩

theorem Gr.of {A : AV} (h : shGr.In A) : ∃ x : Gr, A = x.av := by
 unfold Sh.In at h
 simp only [InL] at h
 obtain ⟨_, rfl, _, _, rfl, h0, _, _, rfl, h1, _, _, rfl, h2, _, _, rfl, h3, rfl⟩ := h
 obtain ⟨a, rfl⟩ := str_of h0
 obtain ⟨b, rfl⟩ := int_of h1
 obtain ⟨c, rfl⟩ := strs_of h2
 obtain ⟨d, rfl⟩ := rats_of h3
 exact ⟨⟨a, b, c, d⟩, rfl⟩

theorem Pv.of {A : AV} (h : shPv.In A) : ∃ x : Pv, A = x.av := by
 unfold Sh.In at h
 simp only [InL] at h
 obtain ⟨_, rfl, _, _, rfl, h0, _, _, rfl, h1, rfl⟩ := h
 obtain ⟨a, rfl⟩ := str_of h0
 obtain ⟨b, rfl⟩ := Rat.of h1
 exact ⟨⟨a, b⟩, rfl⟩

theorem Ph.of {A : AV} (h : shPh.In A) : ∃ x : Ph, A = x.av := by
 unfold Sh.In at h
 simp only [InL] at h
 obtain ⟨_, rfl, _, _, rfl, h0, _, _, rfl, h1, _, _, rfl, h2, rfl⟩ := h
 obtain ⟨a, rfl⟩ := str_of h0
 obtain ⟨b, rfl⟩ := str_of h1
 obtain ⟨c, rfl⟩ := sl_of (f := Pv.av) (fun _ hx => Pv.of hx) h2
 exact ⟨⟨a, b, c⟩, rfl⟩

theorem Md.of {A : AV} (h : shMd.In A) : ∃ x : Md, A = x.av := by
 unfold Sh.In at h
 simp only [InL] at h
 obtain ⟨_, rfl, _, _, rfl, h0, _, _, rfl, h1, _, _, rfl, h2, _, _, rfl, h3, _, _, rfl, h4, _, _, rfl, h5, _, _, rfl, h6, _, _, rfl, h7, rfl⟩ := h
 obtain ⟨a, rfl⟩ := str_of h0
 obtain ⟨b, rfl⟩ := str_of h1
 obtain ⟨c, rfl⟩ := sl_of (f := Ev.av) (fun _ hx => Ev.of hx) h2
 obtain ⟨d, rfl⟩ := sl_of (f := Hs.av) (fun _ hx => Hs.of hx) h3
 obtain ⟨e, rfl⟩ := sl_of (f := Mg.av) (fun _ hx => Mg.of hx) h4
 obtain ⟨f, rfl⟩ := sl_of (f := Pg.av) (fun _ hx => Pg.of hx) h5
 obtain ⟨g, rfl⟩ := sl_of (f := Gr.av) (fun _ hx => Gr.of hx) h6
 obtain ⟨i, rfl⟩ := sl_of (f := Ph.av) (fun _ hx => Ph.of hx) h7
 exact ⟨⟨a, b, c, d, e, f, g, i⟩, rfl⟩
end S

open Go Go.AL Go.Proofs
namespace S
set_option maxRecDepth 100000

structure Ak where
 page : Int
 inp : Str
 old : Str
 new : Str

abbrev Ak.av (x : Ak) : AV := .ag [.int .i64 x.page, .str x.inp, .str x.old, .str x.new]
abbrev shAk : Sh := .st [.int .i64, .str, .str, .str]

theorem Ak.of {A : AV} (h : shAk.In A) : ∃ x : Ak, A = x.av := by
 unfold Sh.In at h
 simp only [InL] at h
 obtain ⟨_, rfl, _, _, rfl, h0, _, _, rfl, h1, _, _, rfl, h2, _, _, rfl, h3, rfl⟩ := h
 obtain ⟨a, rfl⟩ := int_of h0
 obtain ⟨b, rfl⟩ := str_of h1
 obtain ⟨c, rfl⟩ := str_of h2
 obtain ⟨d, rfl⟩ := str_of h3
 exact ⟨⟨a, b, c, d⟩, rfl⟩

end S

open Go Go.AL Go.Proofs
namespace S
set_option maxRecDepth 100000

theorem c_ModelRenames (h1c : OneC) (m : Md) (q : Ak) : FnH Tryz.prog 6 [m.av, q.av] [] (.bool true) [] := by
 obtain ⟨a, s, old, new⟩ := q
 have c0 := c_awake22.weak (R' := .tt) rfl
 have cl := c_LightM m _ rfl
 cases hL : lightM m with
 | false =>
   rw [hL] at cl
   have cl := cl.weak (R' := .ff) rfl
   refine FnH.intro lay mixed Tryz.func6 (by kernel_rfl) rfl (by kernel_rfl) rfl fun hok => ?_
   ((try dsimp only[argC,succC]);(try dsimp only[awp]);(conv=>whnf))
   refine .pure _ _ ?_ ⟨rfl, rfl⟩ c0 fun _ => ?_
   ·exact leL_refl _
   ((try dsimp only[awp]);(conv=>whnf))
   refine .pure _ _ ?_ ⟨rfl, rfl⟩ cl fun _ => ?_
   ·exact leL_refl _
   ((try dsimp only[awp]);(conv=>whnf))
   refine .pure _ _ ?_ ⟨rfl, rfl⟩ c0 fun _ => ?_
   ·exact leL_refl _
   ((try dsimp only[awp]);(conv=>whnf))
   (refine fM ?_;(conv=>whnf);refine ⟨?_,rfl⟩;(conv=>whnf))
   (repeat' first|exact rfl|exact trivial|exact wR|exact lR _|apply aI)
 | true =>
 rw [hL] at cl
 have cl := cl.weak (R' := .tt) rfl
 obtain ⟨hB, hC⟩ := lightM_B hL
 have hX := lightM_X hL
 have cr := c_refCheck h1c m hX hB _ rfl
 by_cases hc : checkM m ≠ 0
 ·generalize checkM m = e at *
  refine FnH.intro lay mixed Tryz.func6 (by kernel_rfl) rfl (by kernel_rfl) rfl fun hok => ?_
  ((try dsimp only[argC,succC]);(try dsimp only[awp]);(conv=>whnf))
  refine .pure _ _ ?_ ⟨rfl, rfl⟩ c0 fun _ => ?_
  ·exact leL_refl _
  ((try dsimp only[awp]);(conv=>whnf))
  refine .pure _ _ ?_ ⟨rfl, rfl⟩ cl fun _ => ?_
  ·exact leL_refl _
  ((try dsimp only[awp]);(conv=>whnf))
  refine .pure _ _ ?_ ⟨rfl, rfl⟩ cr fun _ => ?_
  ·exact leL_refl _
  ((try dsimp only[awp]);(conv=>whnf))
  refine And.intro (fun _ => ?_) (fun h => absurd hc h)
  ((try dsimp only[awp]);(conv=>whnf))
  refine .pure _ _ ?_ ⟨rfl, rfl⟩ c0 fun _ => ?_
  ·exact leL_refl _
  ((try dsimp only[awp]);(conv=>whnf))
  (refine fM ?_;(conv=>whnf);refine ⟨?_,rfl⟩;(conv=>whnf))
  (repeat' first|exact rfl|exact trivial|exact wR|exact lR _|apply aI)
 have hc : checkM m = 0 := by simpa using hc
 have hM := checkM_ok hc
 rw [hc] at cr
 have c1 := c_Rename m old new hC hB hX hc _ rfl
 have c2 := c_refRename h1c m old new hB hX _ rfl
 have cN := c_Num (renameE m old new)
 by_cases g : renameE m old new = 0
 ·rw [if_pos g] at c1 c2
  rw [g, errAV_zero] at cN
  have cS := c_Same1 (rnM m old new) (fun p hp => by have := (rn_B (old := old) (new := new) hB).vals p hp; omega)
  refine FnH.intro lay mixed Tryz.func6 (by kernel_rfl) rfl (by kernel_rfl) rfl fun hok => ?_
  ((try dsimp only[argC,succC]);(try dsimp only[awp]);(conv=>whnf))
  refine .pure _ _ ?_ ⟨rfl, rfl⟩ c0 fun _ => ?_
  ·exact leL_refl _
  ((try dsimp only[awp]);(conv=>whnf))
  refine .pure _ _ ?_ ⟨rfl, rfl⟩ cl fun _ => ?_
  ·exact leL_refl _
  ((try dsimp only[awp]);(conv=>whnf))
  refine .pure _ _ ?_ ⟨rfl, rfl⟩ cr fun _ => ?_
  ·exact leL_refl _
  ((try dsimp only[awp]);(conv=>whnf))
  refine And.intro (fun h => absurd rfl h) (fun _ => ?_)
  ((try dsimp only[awp]);(conv=>whnf))
  refine .pure _ _ ?_ ⟨rfl, rfl⟩ c1 fun _ => ?_
  ·exact leL_refl _
  ((try dsimp only[awp]);(conv=>whnf))
  refine .pure _ _ ?_ ⟨rfl, rfl⟩ c2 fun _ => ?_
  ·exact leL_refl _
  ((try dsimp only[awp]);(conv=>whnf))
  refine .pure _ _ ?_ ⟨rfl, rfl⟩ cN fun _ => ?_
  ·exact leL_refl _
  ((try dsimp only[awp]);(conv=>whnf))
  refine And.intro (fun _ => ?_) (fun h => absurd rfl h)
  ((try dsimp only[awp]);(conv=>whnf))
  refine .pure _ _ ?_ ⟨rfl, rfl⟩ cS fun _ => ?_
  ·exact leL_refl _
  ((try dsimp only[awp]);(conv=>whnf))
  (refine fM ?_;(conv=>whnf);refine ⟨?_,rfl⟩;(conv=>whnf))
  (repeat' first|exact rfl|exact trivial|exact wR|exact lR _|apply aI)
 ·rw [if_neg g] at c1 c2
  rw [errAV_ne g] at cN
  have cS := c_Same0
  refine FnH.intro lay mixed Tryz.func6 (by kernel_rfl) rfl (by kernel_rfl) rfl fun hok => ?_
  ((try dsimp only[argC,succC]);(try dsimp only[awp]);(conv=>whnf))
  refine .pure _ _ ?_ ⟨rfl, rfl⟩ c0 fun _ => ?_
  ·exact leL_refl _
  ((try dsimp only[awp]);(conv=>whnf))
  refine .pure _ _ ?_ ⟨rfl, rfl⟩ cl fun _ => ?_
  ·exact leL_refl _
  ((try dsimp only[awp]);(conv=>whnf))
  refine .pure _ _ ?_ ⟨rfl, rfl⟩ cr fun _ => ?_
  ·exact leL_refl _
  ((try dsimp only[awp]);(conv=>whnf))
  refine And.intro (fun h => absurd rfl h) (fun _ => ?_)
  ((try dsimp only[awp]);(conv=>whnf))
  refine .pure _ _ ?_ ⟨rfl, rfl⟩ c1 fun _ => ?_
  ·exact leL_refl _
  ((try dsimp only[awp]);(conv=>whnf))
  refine .pure _ _ ?_ ⟨rfl, rfl⟩ c2 fun _ => ?_
  ·exact leL_refl _
  ((try dsimp only[awp]);(conv=>whnf))
  refine .pure _ _ ?_ ⟨rfl, rfl⟩ cN fun _ => ?_
  ·exact leL_refl _
  ((try dsimp only[awp]);(conv=>whnf))
  refine And.intro (fun _ => ?_) (fun h => absurd rfl h)
  ((try dsimp only[awp]);(conv=>whnf))
  refine .pure _ _ ?_ ⟨rfl, rfl⟩ cS fun _ => ?_
  ·exact leL_refl _
  ((try dsimp only[awp]);(conv=>whnf))
  (refine fM ?_;(conv=>whnf);refine ⟨?_,rfl⟩;(conv=>whnf))
  (repeat' first|exact rfl|exact trivial|exact wR|exact lR _|apply aI)
end S

open Go Go.AL Go.Proofs
namespace S
theorem one : OneC := r_of
end S
