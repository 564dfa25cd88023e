/-
  Contracts of functions of the program, over the logic of the texts before. Nothing is assumed.
-/
import Derived.Test.YtkhinhepefmdhaaGreatT5

open Go Go.AL Go.Proofs
namespace S
set_option maxRecDepth 100000

def errAV (e : Int) : AV := if e = 0 then .nilI else .ifc 104 (.int .i64 e)

def badRat (r : Rat) : Bool := !valid r || decide (sign r < 0)

def gatesErr (d : Dyn) : List Gate → Nat → List Int → Int
  | [], _, _ => 0
  | g :: l, i, sp => if gateErr d i g sp = 0 then gatesErr d l (i + 1) (spAfter g sp) else gateErr d i g sp

/-- The first error of a tree. -/
def checkR (d : Dyn) : Int :=
  if d.vars < 1 then 3 else if 24 < d.vars then 3 else if 64 < d.gates.length then 4
  else if (d.fail.length : Int) ≠ d.vars then 11 else if (d.repair.length : Int) ≠ d.vars then 11
  else if (d.fail.any badRat || d.repair.any badRat) = true then 3
  else if gatesErr d d.gates 0 [] ≠ 0 then gatesErr d d.gates 0 []
  else if d.top < 0 then 10 else if d.vars + d.gates.length ≤ d.top then 10 else 0

theorem gateErr_zero {d : Dyn} {i : Nat} {g : Gate} {sp : List Int} (h : gateErr d i g sp = 0) :
    (0 ≤ g.kind ∧ g.kind ≤ 8) ∧ argsR g.kind g.args.length = true ∧ (∀ a ∈ g.args, 0 ≤ a ∧ a < d.vars + i) ∧
    (g.kind = 7 → ∀ a ∈ g.args, a < d.vars) ∧ (g.kind = 8 → ∀ a ∈ g.args.drop 1, a < d.vars) ∧ (g.kind = 7 → twice sp g.args = false) := by
  unfold gateErr at h
  split at h
  · cases h
  rename_i h1
  split at h
  · cases h
  rename_i h2
  split at h
  · cases h
  rename_i h3
  split at h
  · cases h
  rename_i h4
  split at h
  · cases h
  rename_i h5
  split at h
  · cases h
  rename_i h6
  refine ⟨by omega, by simpa using h3, fun a ha => ?_, fun hk a ha => ?_, fun hk a ha => ?_, fun hk => ?_⟩
  · have h4 : (g.args.any fun a => decide (a < 0) || decide (d.vars + i ≤ a)) = false := by simpa using h4
    have := List.any_eq_false.1 h4 a ha
    simp at this; omega
  · rw [not_or] at h5
    have h5 := h5.1
    apply Classical.byContradiction
    intro hn
    exact h5 ⟨hk, List.any_eq_true.2 ⟨a, ha, by simp; omega⟩⟩
  · rw [not_or] at h5
    have h5 := h5.2
    apply Classical.byContradiction
    intro hn
    exact h5 ⟨hk, List.any_eq_true.2 ⟨a, ha, by simp; omega⟩⟩
  · cases ht : twice sp g.args with
    | false => rfl
    | true => exact absurd ⟨hk, ht⟩ h6

theorem argsR_le {k : Int} {n : Nat} (h : argsR k n = true) : n ≤ 16 := by
  unfold argsR at h
  split at h <;> first | (simp at h; omega) | skip
  split at h <;> first | (simp at h; omega) | skip
  split at h <;> (simp at h; omega)

theorem argsR_two {k : Int} {n : Nat} (h : argsR k n = true) (hk : k = 6 ∨ k = 7 ∨ k = 8) : 2 ≤ n := by
  unfold argsR at h
  rw [if_neg (by omega), if_neg (by omega), if_pos hk] at h
  simp at h; omega

theorem gatesErr_zero {d : Dyn} : ∀ {l : List Gate} {i : Nat} {sp : List Int}, gatesErr d l i sp = 0 → ∀ (k : Nat) (h : k < l.length), ∃ sp', gateErr d (i + k) l[k] sp' = 0
  | [], _, _, _, k, h => by simp at h
  | g :: l, i, sp, he, k, h => by
    simp only [gatesErr] at he
    split at he
    · rename_i h0
      cases k with
      | zero => exact ⟨sp, h0⟩
      | succ k =>
        obtain ⟨sp', h1⟩ := gatesErr_zero he k (by simpa using h)
        exact ⟨sp', by rw [show i + (k + 1) = i + 1 + k by omega]; simpa using h1⟩
    · rename_i h0; exact absurd he h0

theorem checkR_ok {d : Dyn} (h : checkR d = 0) : TreeOk d := by
  unfold checkR at h
  split at h
  · cases h
  split at h
  · cases h
  split at h
  · cases h
  split at h
  · cases h
  split at h
  · cases h
  split at h
  · cases h
  split at h
  · rename_i h0; exact absurd h h0
  rename_i hg
  split at h
  · cases h
  split at h
  · cases h
  have hg : gatesErr d d.gates 0 [] = 0 := by simpa using hg
  refine ⟨by omega, by omega, fun i hi => ?_, fun i hi hk => ?_, fun i hi hk => ?_, fun i hi hk => ?_, fun i hi hk => ?_, by omega⟩
  · obtain ⟨sp, h1⟩ := gatesErr_zero hg i hi
    have := (gateErr_zero h1).2.2.1
    simpa using this
  · obtain ⟨sp, h1⟩ := gatesErr_zero hg i hi
    exact argsR_two (gateErr_zero h1).2.1 (.inr (.inr hk))
  · obtain ⟨sp, h1⟩ := gatesErr_zero hg i hi
    exact (gateErr_zero h1).2.2.2.2.1 hk
  · obtain ⟨sp, h1⟩ := gatesErr_zero hg i hi
    exact argsR_two (gateErr_zero h1).2.1 (.inr (.inl hk))
  · obtain ⟨sp, h1⟩ := gatesErr_zero hg i hi
    exact (gateErr_zero h1).2.2.2.1 hk


/-- What is known of the fractions of a tree. -/
structure DynC (d : Dyn) : Prop where
  fail : ∀ x ∈ d.fail, RatC x
  repair : ∀ x ∈ d.repair, RatC x
  dorm : ∀ g ∈ d.gates, RatC g.dorm

theorem c_Check (d : Dyn) (hd : DynC d) (R : AV) (hR : R = errAV (checkR d)) : FnH Tryz.prog 19 [d.av] [] R [] := by
  refine FnH.intro lay mixed Tryz.func19 (by kernel_rfl) rfl (by kernel_rfl) rfl fun hok => ?_
  have lf : d.fail.length ≤ 9223372036854775807 := by have := hok.1.2.2.2.1.1; simpa [maxL] using this
  have lr : d.repair.length ≤ 9223372036854775807 := by have := hok.1.2.2.2.2.1.1; simpa [maxL] using this
  (conv => whnf)
  refine And.intro (fun n1 => ?_) (fun n1 => ?_)
  · obtain rfl : R = .ifc 104 (.int .i64 3) := by rw [hR, show checkR d = 3 from by unfold checkR; rw [if_pos n1]]; rfl
    (conv => whnf)
    (refine FinSpec.mono ?_; (conv => whnf); refine ⟨?_, rfl⟩; (conv => whnf))
    exact ⟨rfl, rfl, rfl⟩
  (conv => whnf)
  refine And.intro (fun n2 => ?_) (fun n2 => ?_)
  · obtain rfl : R = .ifc 104 (.int .i64 3) := by rw [hR, show checkR d = 3 from by unfold checkR; rw [if_neg n1, if_pos n2]]; rfl
    (conv => whnf)
    (refine FinSpec.mono ?_; (conv => whnf); refine ⟨?_, rfl⟩; (conv => whnf))
    exact ⟨rfl, rfl, rfl⟩
  (conv => whnf)
  refine And.intro (fun n3 => ?_) (fun n3 => ?_)
  · have n3 : 64 < d.gates.length := by simp only [List.length_map] at n3; omega
    obtain rfl : R = .ifc 104 (.int .i64 4) := by rw [hR, show checkR d = 4 from by unfold checkR; rw [if_neg n1, if_neg n2, if_pos n3]]; rfl
    (conv => whnf)
    (refine FinSpec.mono ?_; (conv => whnf); refine ⟨?_, rfl⟩; (conv => whnf))
    exact ⟨rfl, rfl, rfl⟩
  have n3 : ¬ 64 < d.gates.length := by simp only [List.length_map] at n3; omega
  (conv => whnf)
  refine And.intro (fun n4 => ?_) (fun n4 => ?_)
  · have n4 : (d.fail.length : Int) ≠ d.vars := by simpa using n4
    obtain rfl : R = .ifc 104 (.int .i64 11) := by rw [hR, show checkR d = 11 from by unfold checkR; rw [if_neg n1, if_neg n2, if_neg n3, if_pos n4]]; rfl
    (conv => whnf)
    (refine FinSpec.mono ?_; (conv => whnf); refine ⟨?_, rfl⟩; (conv => whnf))
    exact ⟨rfl, rfl, rfl⟩
  have n4 : ¬ (d.fail.length : Int) ≠ d.vars := by simpa using n4
  (conv => whnf)
  refine And.intro (fun n5 => ?_) (fun n5 => ?_)
  · have n5 : (d.repair.length : Int) ≠ d.vars := by simpa using n5
    obtain rfl : R = .ifc 104 (.int .i64 11) := by rw [hR, show checkR d = 11 from by unfold checkR; rw [if_neg n1, if_neg n2, if_neg n3, if_neg n4, if_pos n5]]; rfl
    (conv => whnf)
    (refine FinSpec.mono ?_; (conv => whnf); refine ⟨?_, rfl⟩; (conv => whnf))
    exact ⟨rfl, rfl, rfl⟩
  have n5 : ¬ (d.repair.length : Int) ≠ d.vars := by simpa using n5
  (conv => whnf)
  have hall : ∀ l ∈ [d.fail, d.repair], (l.length : Int) = d.vars ∧ ∀ x ∈ l, RatC x := by
    intro l hl
    simp at hl
    rcases hl with rfl | rfl
    · exact ⟨by omega, hd.fail⟩
    · exact ⟨by omega, hd.repair⟩
  have hbad : ∀ l ∈ [d.fail, d.repair], l.any badRat = true → (d.fail.any badRat || d.repair.any badRat) = true := by
    intro l hl h
    simp at hl
    rcases hl with rfl | rfl <;> simp [h]
  refine LoopE.of <| LoopSpec.inv (.refl _ _) (fun (i : Nat) => i ≤ 2 ∧ ∀ (k : Nat) (hk : k < 2), k < i → ([d.fail, d.repair][k]).any badRat = false) (fun (i : Nat) => [(46, .int .i64 i)]) (fun _ => _) (fun (i : Nat) => 2 - i) 0 ?_ (fun _ => rfl) ?_ ?_
  · exact ⟨Nat.zero_le _, by omega⟩
  · (repeat' (first | exact rfl | exact trivial | exact HWk.refl rfl | exact leRL_refl _ | (refine And.intro ?_ ?_)))
  rintro i ⟨hi, hn⟩ _
  (conv => whnf)
  refine And.intro (fun h => ?_) (fun h => ?_)
  · have h : (i : Int) < 2 := h
    have hlt : i < [d.fail, d.repair].length := by show i < 2; omega
    (conv => whnf)
    refine aidx (l := [d.fail, d.repair]) (f := fun l => .sl 3 (l.map Rat.av) .no) hlt ?_
    have hmem := List.getElem_mem hlt
    have hn' : ([d.fail, d.repair][i]).any badRat = false → i + 1 ≤ 2 ∧ ∀ (k : Nat) (hk : k < 2), k < i + 1 → ([d.fail, d.repair][k]).any badRat = false := by
      intro h0
      refine ⟨by omega, fun k hk hki => ?_⟩
      by_cases hki' : k = i
      · subst hki'; exact h0
      · exact hn k hk (by omega)
    generalize [d.fail, d.repair][i] = l at *
    obtain ⟨hll, hlr⟩ := hall l hmem
    (conv => whnf)
    refine LoopE.of <| LoopSpec.inv (.refl _ _) (fun (j : Nat) => j ≤ l.length ∧ (l.take j).any badRat = false) (fun (j : Nat) => [(52, .int .i64 j)]) (fun _ => _) (fun (j : Nat) => l.length - j) 0 ?_ (fun _ => rfl) ?_ ?_
    · exact ⟨Nat.zero_le _, by simp⟩
    · (repeat' (first | exact rfl | exact trivial | exact HWk.refl rfl | exact leRL_refl _ | (refine And.intro ?_ ?_)))
    rintro j ⟨hj, hm⟩ _
    (conv => whnf)
    refine And.intro (fun h => ?_) (fun h => ?_)
    · have hjlt : j < l.length := by simpa using h
      have hany := any_take (p := badRat) hjlt
      rw [hm, Bool.false_or] at hany
      have hxm := List.getElem_mem hjlt
      (conv => whnf)
      refine aidx hjlt ?_
      generalize l[j] = x at *
      have hx := hlr x hxm
      have fin : badRat x = true → (d.fail.any badRat || d.repair.any badRat) = true := fun hb => hbad l hmem (List.any_eq_true.2 ⟨x, hxm, hb⟩)
      (conv => whnf)
      refine .pure _ _ ?_ ⟨rfl, rfl⟩ hx.v fun _ => ?_
      · exact leL_refl _
      (conv => whnf)
      refine And.intro (fun v1 => ?_) (fun v1 => ?_)
      · obtain rfl : R = .ifc 104 (.int .i64 3) := by rw [hR, show checkR d = 3 from by unfold checkR; rw [if_neg n1, if_neg n2, if_neg n3, if_neg n4, if_neg n5, if_pos (fin (by simp [badRat, v1]))]]; rfl
        (conv => whnf)
        (refine FinSpec.mono ?_; (conv => whnf); refine ⟨?_, rfl⟩; (conv => whnf))
        exact ⟨rfl, rfl, rfl⟩
      (conv => whnf)
      refine .pure _ _ ?_ ⟨rfl, rfl⟩ hx.s fun _ => ?_
      · exact leL_refl _
      (conv => whnf)
      refine And.intro (fun v2 => ?_) (fun v2 => ?_)
      · obtain rfl : R = .ifc 104 (.int .i64 3) := by rw [hR, show checkR d = 3 from by unfold checkR; rw [if_neg n1, if_neg n2, if_neg n3, if_neg n4, if_neg n5, if_pos (fin (by simp [badRat, v2]))]]; rfl
        (conv => whnf)
        (refine FinSpec.mono ?_; (conv => whnf); refine ⟨?_, rfl⟩; (conv => whnf))
        exact ⟨rfl, rfl, rfl⟩
      (conv => whnf)
      (refine ⟨inr64 (by omega) (by omega), ?_⟩; (conv => whnf))
      refine ⟨j + 1, ?_, ?_, ?_⟩
      · refine ⟨hjlt, ?_⟩
        rw [hany]
        simp only [badRat, v1, v2, decide_false, Bool.or_false]
      · refine ⟨?_, .mk ?_ ⟨by simp, trivial⟩⟩
        · (repeat' (first | exact rfl | exact trivial | exact HWk.refl rfl | exact leRL_refl _ | (refine And.intro ?_ ?_)))
        · (repeat' (first | exact rfl | exact trivial | exact HWk.refl rfl | exact leRL_refl _ | (refine And.intro ?_ ?_)))
      · omega
    · have hjl : j = l.length := by have : ¬ j < l.length := by simpa using h
                                    omega
      rw [hjl, List.take_length] at hm
      (conv => whnf)
      (refine ⟨inr64 (by omega) (by omega), ?_⟩; (conv => whnf))
      refine ⟨i + 1, ?_, ?_, ?_⟩
      · exact hn' hm
      · (repeat' (first | exact rfl | exact trivial | exact HWk.refl rfl | exact leRL_refl _ | (refine And.intro ?_ ?_)))
      · omega
  have hi2 : i = 2 := by have : ¬ (i : Int) < 2 := h
                         omega
  subst hi2
  have m1 := hn 0 (by omega) (by omega)
  have m2 := hn 1 (by omega) (by omega)
  simp only [List.getElem_cons_zero, List.getElem_cons_succ] at m1 m2
  have n6 : ¬ (d.fail.any badRat || d.repair.any badRat) = true := by rw [m1, m2]; simp
  (conv => whnf)
  refine LoopE.of <| LoopSpec.inv (.grow 7 1 [] _ rfl (.inl ⟨rfl, rfl⟩) (.refl _ _)) (fun x : Nat × List Int => x.1 ≤ d.gates.length ∧ x.2.length ≤ 16 * x.1 ∧ gatesErr d d.gates 0 [] = gatesErr d (d.gates.drop x.1) x.1 x.2)
    (fun | (i, sp) => [(70, .int .i64 i), (7, .sl 1 (sp.map (.int .i64)) (.own 1))]) (fun | (_, sp) => [(1, .tok 1 sp.length), (0, .box d.av)]) (fun x => d.gates.length - x.1) (0, []) ?_ (fun _ => rfl) ?_ ?_
  · exact ⟨Nat.zero_le _, by simp, by simp⟩
  · refine ⟨?_, .mk ?_ ⟨by simp, by simp, trivial⟩⟩
    · (repeat' (first | exact rfl | exact trivial | exact HWk.refl rfl | exact leRL_refl _ | (refine And.intro ?_ ?_)))
    · (repeat' (first | exact rfl | exact trivial | exact HWk.refl rfl | exact leRL_refl _ | (refine And.intro ?_ ?_)))
  rintro ⟨i, sp⟩ ⟨hi, hsp, hg⟩ _
  simp only at hi hsp hg
  (conv => whnf)
  refine And.intro (fun h => ?_) (fun h => ?_)
  · have hlt : i < d.gates.length := by simpa using h
    rw [List.drop_eq_getElem_cons hlt] at hg
    simp only [gatesErr] at hg
    have hc := fun R G => c_checkGate d i sp hlt (by omega) (by omega) (by omega) (hd.dorm _ (List.getElem_mem hlt)) R G
    (conv => whnf)
    by_cases hE : gateErr d i d.gates[i] sp = 0
    · rw [if_pos hE] at hg
      have h16 := argsR_le (gateErr_zero hE).2.1
      refine .gen _ _ (FnH.frame [1] (hc _ _ (by rw [if_pos hE]) (by rw [if_pos hE])) ⟨rfl, rfl, rfl, rfl⟩ ?_ ?_) fun _ => ?_
      · (repeat' (first | exact rfl | exact trivial | exact HWk.refl rfl | exact leRL_refl _ | (refine And.intro ?_ ?_)))
      · (repeat' (first | exact rfl | exact trivial | exact HWk.refl rfl | exact leRL_refl _ | (refine And.intro ?_ ?_)))
      (conv => whnf)
      (refine ⟨inr64 (by omega) (by omega), ?_⟩; (conv => whnf))
      refine ⟨(i + 1, spAfter d.gates[i] sp), ?_, ?_, ?_⟩
      · refine ⟨hlt, ?_, hg⟩
        show (spAfter d.gates[i] sp).length ≤ 16 * (i + 1)
        unfold spAfter; split
        · simp; omega
        · omega
      · refine ⟨?_, .mk ?_ ⟨by simp, by simp, trivial⟩⟩
        · (repeat' (first | exact rfl | exact trivial | exact HWk.refl rfl | exact leRL_refl _ | (refine And.intro ?_ ?_)))
        · (repeat' (first | exact rfl | exact trivial | exact HWk.refl rfl | exact leRL_refl _ | (refine And.intro ?_ ?_)))
      · show d.gates.length - (i + 1) < d.gates.length - i
        omega
    · rw [if_neg hE] at hg
      refine .gen _ _ (FnH.frame [1] (hc _ _ (by rw [if_neg hE]) (by rw [if_neg hE])) ⟨rfl, rfl, rfl, rfl⟩ ?_ ?_) fun _ => ?_
      · (repeat' (first | exact rfl | exact trivial | exact HWk.refl rfl | exact leRL_refl _ | (refine And.intro ?_ ?_)))
      · (repeat' (first | exact rfl | exact trivial | exact HWk.refl rfl | exact leRL_refl _ | (refine And.intro ?_ ?_)))
      have n7 : gatesErr d d.gates 0 [] ≠ 0 := by rw [hg]; exact hE
      obtain rfl : R = .ifc 104 (.int .i64 (gateErr d i d.gates[i] sp)) := by
        rw [hR, show checkR d = gateErr d i d.gates[i] sp from by unfold checkR; rw [if_neg n1, if_neg n2, if_neg n3, if_neg n4, if_neg n5, if_neg n6, if_pos n7, hg]]
        unfold errAV; rw [if_neg hE]
      (conv => whnf)
      (refine FinSpec.mono ?_; (conv => whnf); refine ⟨?_, rfl⟩; (conv => whnf))
      exact ⟨rfl, rfl, rfl⟩
  have hil : i = d.gates.length := by have : ¬ i < d.gates.length := by simpa using h
                                      omega
  subst hil
  rw [List.drop_length] at hg
  have n7 : ¬ gatesErr d d.gates 0 [] ≠ 0 := by rw [hg]; simp [gatesErr]
  (conv => whnf)
  refine And.intro (fun n8 => ?_) (fun n8 => ?_)
  · obtain rfl : R = .ifc 104 (.int .i64 10) := by rw [hR, show checkR d = 10 from by unfold checkR; rw [if_neg n1, if_neg n2, if_neg n3, if_neg n4, if_neg n5, if_neg n6, if_neg n7, if_pos n8]]; rfl
    (conv => whnf)
    (refine FinSpec.mono ?_; (conv => whnf); refine ⟨?_, rfl⟩; (conv => whnf))
    exact ⟨rfl, rfl, rfl⟩
  (conv => whnf)
  refine ⟨inr64 (by simp; omega) (by simp; omega), ?_⟩
  (conv => whnf)
  refine And.intro (fun n9 => ?_) (fun n9 => ?_)
  · have n9 : d.vars + d.gates.length ≤ d.top := by simpa using n9
    obtain rfl : R = .ifc 104 (.int .i64 10) := by rw [hR, show checkR d = 10 from by unfold checkR; rw [if_neg n1, if_neg n2, if_neg n3, if_neg n4, if_neg n5, if_neg n6, if_neg n7, if_neg n8, if_pos n9]]; rfl
    (conv => whnf)
    (refine FinSpec.mono ?_; (conv => whnf); refine ⟨?_, rfl⟩; (conv => whnf))
    exact ⟨rfl, rfl, rfl⟩
  have n9 : ¬ d.vars + d.gates.length ≤ d.top := by simpa using n9
  obtain rfl : R = .nilI := by rw [hR, show checkR d = 0 from by unfold checkR; rw [if_neg n1, if_neg n2, if_neg n3, if_neg n4, if_neg n5, if_neg n6, if_neg n7, if_neg n8, if_neg n9]]; rfl
  (conv => whnf)
  (refine FinSpec.mono ?_; (conv => whnf); refine ⟨?_, rfl⟩; (conv => whnf))
end S

open Go Go.AL Go.Proofs
namespace S
set_option maxRecDepth 100000

def loG (g : Gate) : Int := if g.kind = 7 then -1 else 0
def hiG (g : Gate) : Int := if g.kind = 6 then 1 else if g.kind = 7 then (g.args.length : Int) - 1 else 0

def memoErr (d : Dyn) (memo : List Int) : Bool := (List.range d.gates.length).any fun k => decide (memo.getD k 0 < loG (d.gates.getD k default)) || decide (hiG (d.gates.getD k default) < memo.getD k 0)

/-- The first error of a tree and a state. -/
def checkSR (d : Dyn) (s : St) : Int :=
  if checkR d ≠ 0 then checkR d else if s.memo.length ≠ d.gates.length then 11
  else if s.failed < 0 then 3 else if (2 ^ d.vars.toNat : Nat) ≤ s.failed then 3
  else if memoErr d s.memo = true then 3 else 0

structure StOk (d : Dyn) (s : St) : Prop where
  len : s.memo.length = d.gates.length
  pos : 0 ≤ s.failed
  lt : s.failed < (2 ^ d.vars.toNat : Nat)
  memo : ∀ (k : Nat) (h : k < d.gates.length), loG d.gates[k] ≤ s.memo.getD k 0 ∧ s.memo.getD k 0 ≤ hiG d.gates[k]

theorem getD_lt {α : Type} {l : List α} {i : Nat} {x : α} (h : i < l.length) : l.getD i x = l[i] := by
  rw [List.getD_eq_getElem?_getD, List.getElem?_eq_getElem h]; rfl

theorem checkSR_ok {d : Dyn} {s : St} (h : checkSR d s = 0) : checkR d = 0 ∧ StOk d s := by
  unfold checkSR at h
  split at h
  · rename_i h0; exact absurd h h0
  rename_i h0
  split at h
  · cases h
  rename_i h1
  split at h
  · cases h
  rename_i h2
  split at h
  · cases h
  rename_i h3
  split at h
  · cases h
  rename_i h4
  refine ⟨by simpa using h0, by simpa using h1, by omega, by omega, fun k hk => ?_⟩
  have h4 : memoErr d s.memo = false := by simpa using h4
  unfold memoErr at h4
  have := List.any_eq_false.1 h4 k (by simpa using hk)
  rw [getD_lt hk] at this
  simp only [Bool.or_eq_true, decide_eq_true_eq] at this
  omega

theorem StOk.memoOk {d : Dyn} {s : St} (h : StOk d s) : MemoOk d s.memo := by
  refine ⟨h.len, fun i hi hk => ?_⟩
  have := (h.memo i hi).2
  unfold hiG at this
  rw [if_neg (by omega), if_pos hk] at this
  omega

theorem pow_int {n : Nat} (h : n ≤ 24) : ((2 ^ n : Nat) : Int) ≤ 16777216 := by
  have : 2 ^ n ≤ 2 ^ 24 := Nat.pow_le_pow_right (by omega) h
  have h2 : (2 : Nat) ^ 24 = 16777216 := by decide
  omega

theorem aidxN {α : Type} (d : α) {f : α → AV} {l : List α} {i : Nat} {k : AV → Prop} (h : i < l.length) (hk : k (f (l.getD i d))) : AIdx (l.map f) (i : Int) k := by
  refine aidx h ?_
  rw [getD_lt h] at hk; exact hk


theorem c_check (d : Dyn) (s : St) (hd : DynC d) (R : AV) (hR : R = errAV (checkSR d s)) : FnH Tryz.prog 49 [d.av, s.av] [] R [] := by
  refine FnH.intro lay mixed Tryz.func49 (by kernel_rfl) rfl (by kernel_rfl) rfl fun hok => ?_
  (conv => whnf)
  refine .pure _ _ ?_ ⟨rfl, ?_⟩ (c_Check d hd _ rfl) fun _ => ?_
  · (repeat' (first | exact rfl | exact trivial | exact HWk.refl rfl | exact leRL_refl _ | (refine And.intro ?_ ?_)))
  · unfold errAV; split <;> rfl
  by_cases n0 : checkR d ≠ 0
  · rw [show errAV (checkR d) = .ifc 104 (.int .i64 (checkR d)) from if_neg n0]
    obtain rfl : R = .ifc 104 (.int .i64 (checkR d)) := by
      rw [hR, show checkSR d s = checkR d from by unfold checkSR; rw [if_pos n0]]
      exact if_neg n0
    (conv => whnf)
    (refine FinSpec.mono ?_; (conv => whnf); refine ⟨?_, rfl⟩; (conv => whnf))
    exact ⟨rfl, rfl, rfl⟩
  have h0 : checkR d = 0 := by simpa using n0
  have hT := checkR_ok h0
  have hv := hT.vars
  have hg := hT.gates
  have hp := pow_int (n := d.vars.toNat) (by omega)
  rw [show errAV (checkR d) = .nilI from if_pos h0]
  (conv => whnf)
  refine And.intro (fun n1 => ?_) (fun n1 => ?_)
  · have n1 : s.memo.length ≠ d.gates.length := by simp only [List.length_map] at n1; omega
    obtain rfl : R = .ifc 104 (.int .i64 11) := by rw [hR, show checkSR d s = 11 from by unfold checkSR; rw [if_neg n0, if_pos n1]]; rfl
    (conv => whnf)
    (refine FinSpec.mono ?_; (conv => whnf); refine ⟨?_, rfl⟩; (conv => whnf))
    exact ⟨rfl, rfl, rfl⟩
  have n1 : ¬ s.memo.length ≠ d.gates.length := by simp only [List.length_map] at n1; omega
  (conv => whnf)
  (refine ADraw.auto (by kernel_rfl) ?_; (conv => whnf))
  refine And.intro (fun n2 => ?_) (fun n2 => ?_)
  · obtain rfl : R = .ifc 104 (.int .i64 3) := by rw [hR, show checkSR d s = 3 from by unfold checkSR; rw [if_neg n0, if_neg n1, if_pos n2]]; rfl
    (conv => whnf)
    (refine FinSpec.mono ?_; (conv => whnf); refine ⟨?_, rfl⟩; (conv => whnf))
    exact ⟨rfl, rfl, rfl⟩
  (conv => whnf)
  refine ⟨by omega, ?_⟩
  have hsh : shlR .i64 1 d.vars = (2 ^ d.vars.toNat : Nat) := by
    have := shl_one (i := d.vars.toNat) (by omega)
    rw [show ((d.vars.toNat : Nat) : Int) = d.vars by omega] at this
    exact this
  rw [hsh]
  (conv => whnf)
  refine And.intro (fun n3 => ?_) (fun n3 => ?_)
  · obtain rfl : R = .ifc 104 (.int .i64 3) := by rw [hR, show checkSR d s = 3 from by unfold checkSR; rw [if_neg n0, if_neg n1, if_neg n2, if_pos n3]]; rfl
    (conv => whnf)
    (refine FinSpec.mono ?_; (conv => whnf); refine ⟨?_, rfl⟩; (conv => whnf))
    exact ⟨rfl, rfl, rfl⟩
  (conv => whnf)
  refine LoopE.of <| LoopSpec.inv (.refl _ _) (fun (i : Nat) => i ≤ d.gates.length ∧ ∀ (k : Nat) (h : k < d.gates.length), k < i → ¬ (s.memo.getD k 0 < loG d.gates[k] ∨ hiG d.gates[k] < s.memo.getD k 0)) (fun (i : Nat) => [(38, .int .i64 i)]) (fun _ => _) (fun (i : Nat) => d.gates.length - i) 0 ?_ (fun _ => rfl) ?_ ?_
  · exact ⟨Nat.zero_le _, by omega⟩
  · (repeat' (first | exact rfl | exact trivial | exact HWk.refl rfl | exact leRL_refl _ | (refine And.intro ?_ ?_)))
  rintro i ⟨hi, hn⟩ _
  (conv => whnf)
  refine And.intro (fun h => ?_) (fun h => ?_)
  · have hlt : i < d.gates.length := by simpa using h
    have hx : (i : Int) < (s.memo.length : Int) := by omega
    have hal : (d.gates[i]).args.length ≤ 9223372036854775807 := Gate.okArgs (Dyn.okGates hok.1 _ (List.getElem_mem hlt))
    have fin : (s.memo.getD i 0 < loG d.gates[i] ∨ hiG d.gates[i] < s.memo.getD i 0) → memoErr d s.memo = true := by
      intro h
      unfold memoErr
      refine List.any_eq_true.2 ⟨i, by simpa using hlt, ?_⟩
      rw [getD_lt hlt]; simpa using h
    have step : ¬ (s.memo.getD i 0 < loG d.gates[i] ∨ hiG d.gates[i] < s.memo.getD i 0) → i + 1 ≤ d.gates.length ∧ ∀ (k : Nat) (h : k < d.gates.length), k < i + 1 → ¬ (s.memo.getD k 0 < loG d.gates[k] ∨ hiG d.gates[k] < s.memo.getD k 0) := by
      intro h0
      refine ⟨hlt, fun k hk hki => ?_⟩
      by_cases hki' : k = i
      · subst hki'; exact h0
      · exact hn k hk (by omega)
    (conv => whnf)
    refine aidx hlt ?_
    generalize d.gates[i] = g at *
    (conv => whnf)
    refine And.intro (fun k6 => ?_) (fun k6 => ?_)
    · have hlo : loG g = 0 := by unfold loG; rw [if_neg (by omega)]
      have hhi : hiG g = 1 := by unfold hiG; rw [if_pos k6]
      rw [hlo, hhi] at fin step
      (conv => whnf)
      refine aidxN 0 (by omega) ?_
      (conv => whnf)
      refine And.intro (fun m1 => ?_) (fun m1 => ?_)
      · obtain rfl : R = .ifc 104 (.int .i64 3) := by rw [hR, show checkSR d s = 3 from by unfold checkSR; rw [if_neg n0, if_neg n1, if_neg n2, if_neg n3, if_pos (fin (.inl m1))]]; rfl
        (conv => whnf)
        (refine FinSpec.mono ?_; (conv => whnf); refine ⟨?_, rfl⟩; (conv => whnf))
        exact ⟨rfl, rfl, rfl⟩
      (conv => whnf)
      refine aidxN 0 (by omega) ?_
      (conv => whnf)
      refine And.intro (fun m2 => ?_) (fun m2 => ?_)
      · obtain rfl : R = .ifc 104 (.int .i64 3) := by rw [hR, show checkSR d s = 3 from by unfold checkSR; rw [if_neg n0, if_neg n1, if_neg n2, if_neg n3, if_pos (fin (.inr m2))]]; rfl
        (conv => whnf)
        (refine FinSpec.mono ?_; (conv => whnf); refine ⟨?_, rfl⟩; (conv => whnf))
        exact ⟨rfl, rfl, rfl⟩
      (conv => whnf)
      (refine ⟨inr64 (by omega) (by omega), ?_⟩; (conv => whnf))
      refine ⟨i + 1, ?_, ?_, ?_⟩
      · exact step (by omega)
      · refine ⟨?_, .mk ?_ ⟨by simp, by simp, trivial⟩⟩
        · (repeat' (first | exact rfl | exact trivial | exact HWk.refl rfl | exact leRL_refl _ | (refine And.intro ?_ ?_)))
        · (repeat' (first | exact rfl | exact trivial | exact HWk.refl rfl | exact leRL_refl _ | (refine And.intro ?_ ?_)))
      · omega
    (conv => whnf)
    refine And.intro (fun k7 => ?_) (fun k7 => ?_)
    · (conv => whnf)
      (refine ADraw.auto (by kernel_rfl) ?_; (conv => whnf))
      refine ⟨inr64 (by simp; omega) (by simp; omega), ?_⟩
      rw [show ((g.args.map (AV.int .i64)).length : Int) = (g.args.length : Int) by simp]
      have hlo : loG g = -1 := by unfold loG; rw [if_pos k7]
      have hhi : hiG g = (g.args.length : Int) - 1 := by unfold hiG; rw [if_neg (by omega), if_pos k7]
      rw [hlo, hhi] at fin step
      (conv => whnf)
      refine aidxN 0 (by omega) ?_
      (conv => whnf)
      refine And.intro (fun m1 => ?_) (fun m1 => ?_)
      · obtain rfl : R = .ifc 104 (.int .i64 3) := by rw [hR, show checkSR d s = 3 from by unfold checkSR; rw [if_neg n0, if_neg n1, if_neg n2, if_neg n3, if_pos (fin (.inl m1))]]; rfl
        (conv => whnf)
        (refine FinSpec.mono ?_; (conv => whnf); refine ⟨?_, rfl⟩; (conv => whnf))
        exact ⟨rfl, rfl, rfl⟩
      (conv => whnf)
      refine aidxN 0 (by omega) ?_
      (conv => whnf)
      refine And.intro (fun m2 => ?_) (fun m2 => ?_)
      · obtain rfl : R = .ifc 104 (.int .i64 3) := by rw [hR, show checkSR d s = 3 from by unfold checkSR; rw [if_neg n0, if_neg n1, if_neg n2, if_neg n3, if_pos (fin (.inr m2))]]; rfl
        (conv => whnf)
        (refine FinSpec.mono ?_; (conv => whnf); refine ⟨?_, rfl⟩; (conv => whnf))
        exact ⟨rfl, rfl, rfl⟩
      (conv => whnf)
      (refine ⟨inr64 (by omega) (by omega), ?_⟩; (conv => whnf))
      refine ⟨i + 1, ?_, ?_, ?_⟩
      · exact step (by omega)
      · refine ⟨?_, .mk ?_ ⟨by simp, by simp, trivial⟩⟩
        · (repeat' (first | exact rfl | exact trivial | exact HWk.refl rfl | exact leRL_refl _ | (refine And.intro ?_ ?_)))
        · (repeat' (first | exact rfl | exact trivial | exact HWk.refl rfl | exact leRL_refl _ | (refine And.intro ?_ ?_)))
      · omega
    · have hlo : loG g = 0 := by unfold loG; rw [if_neg (by omega)]
      have hhi : hiG g = 0 := by unfold hiG; rw [if_neg (by omega), if_neg (by omega)]
      rw [hlo, hhi] at fin step
      (conv => whnf)
      refine aidxN 0 (by omega) ?_
      (conv => whnf)
      refine And.intro (fun m1 => ?_) (fun m1 => ?_)
      · obtain rfl : R = .ifc 104 (.int .i64 3) := by rw [hR, show checkSR d s = 3 from by unfold checkSR; rw [if_neg n0, if_neg n1, if_neg n2, if_neg n3, if_pos (fin (.inl m1))]]; rfl
        (conv => whnf)
        (refine FinSpec.mono ?_; (conv => whnf); refine ⟨?_, rfl⟩; (conv => whnf))
        exact ⟨rfl, rfl, rfl⟩
      (conv => whnf)
      refine aidxN 0 (by omega) ?_
      (conv => whnf)
      refine And.intro (fun m2 => ?_) (fun m2 => ?_)
      · obtain rfl : R = .ifc 104 (.int .i64 3) := by rw [hR, show checkSR d s = 3 from by unfold checkSR; rw [if_neg n0, if_neg n1, if_neg n2, if_neg n3, if_pos (fin (.inr m2))]]; rfl
        (conv => whnf)
        (refine FinSpec.mono ?_; (conv => whnf); refine ⟨?_, rfl⟩; (conv => whnf))
        exact ⟨rfl, rfl, rfl⟩
      (conv => whnf)
      (refine ⟨inr64 (by omega) (by omega), ?_⟩; (conv => whnf))
      refine ⟨i + 1, ?_, ?_, ?_⟩
      · exact step (by omega)
      · refine ⟨?_, .mk ?_ ⟨by simp, by simp, trivial⟩⟩
        · (repeat' (first | exact rfl | exact trivial | exact HWk.refl rfl | exact leRL_refl _ | (refine And.intro ?_ ?_)))
        · (repeat' (first | exact rfl | exact trivial | exact HWk.refl rfl | exact leRL_refl _ | (refine And.intro ?_ ?_)))
      · omega
  have hil : i = d.gates.length := by have : ¬ i < d.gates.length := by simpa using h
                                      omega
  subst hil
  have n4 : ¬ memoErr d s.memo = true := by
    unfold memoErr
    intro h
    obtain ⟨k, hk, hp⟩ := List.any_eq_true.1 h
    have hk : k < d.gates.length := by simpa using hk
    rw [getD_lt hk] at hp
    exact hn k hk hk (by simpa using hp)
  obtain rfl : R = .nilI := by rw [hR, show checkSR d s = 0 from by unfold checkSR; rw [if_neg n0, if_neg n1, if_neg n2, if_neg n3, if_neg n4]]; rfl
  (conv => whnf)
  (refine FinSpec.mono ?_; (conv => whnf); refine ⟨?_, rfl⟩; (conv => whnf))
end S

open Go Go.AL Go.Proofs
namespace S
set_option maxRecDepth 100000

abbrev z0 : St := ⟨0, []⟩

def startR (d : Dyn) : St × Int := if checkR d ≠ 0 then (z0, checkR d) else (settleR d 0 (List.replicate d.gates.length 0), 0)

def failR (d : Dyn) (s : St) (i : Int) : St × Int :=
  if checkSR d s ≠ 0 then (z0, checkSR d s) else if i < 0 then (z0, 10) else if d.vars ≤ i then (z0, 10)
  else if s.failed.toNat.testBit i.toNat = true then (z0, 12) else (settleR d (s.failed.toNat ||| 2 ^ i.toNat) s.memo, 0)

def repairR (d : Dyn) (s : St) (i : Int) : St × Int :=
  if checkSR d s ≠ 0 then (z0, checkSR d s) else if i < 0 then (z0, 10) else if d.vars ≤ i then (z0, 10)
  else if s.failed.toNat.testBit i.toNat = false then (z0, 12) else if heldR d (valuesR d s.failed.toNat s.memo) i = true then (z0, 12)
  else (settleR d (nandN s.failed.toNat (2 ^ i.toNat)) s.memo, 0)

def topR (d : Dyn) (s : St) : Bool × Int :=
  if checkSR d s ≠ 0 then (false, checkSR d s) else ((valuesR d s.failed.toNat s.memo).getD d.top.toNat false, 0)

theorem zeroMemo {d : Dyn} (hd : TreeOk d) : MemoOk d (List.replicate d.gates.length 0) := by
  refine ⟨by simp, fun i hi hk => ?_⟩
  have := hd.sp i hi hk
  rw [List.getD_eq_getElem?_getD, List.getElem?_replicate, if_pos hi]
  show (0 : Int) < _
  omega

theorem errAV_zero : errAV 0 = .nilI := rfl
theorem errAV_ne {e : Int} (h : e ≠ 0) : errAV e = .ifc 104 (.int .i64 e) := if_neg h


theorem c_Start (d : Dyn) (hd : DynC d) (R : AV) (hR : R = .tup [(startR d).1.av, errAV (startR d).2]) : FnH Tryz.prog 16 [d.av] [] R [] := by
  refine FnH.intro lay mixed Tryz.func16 (by kernel_rfl) rfl (by kernel_rfl) rfl fun hok => ?_
  (conv => whnf)
  refine .pure _ _ ?_ ⟨rfl, ?_⟩ (c_Check d hd _ rfl) fun _ => ?_
  · (repeat' (first | exact rfl | exact trivial | exact HWk.refl rfl | exact leRL_refl _ | (refine And.intro ?_ ?_)))
  · unfold errAV; split <;> rfl
  by_cases n0 : checkR d ≠ 0
  · rw [errAV_ne n0]
    obtain rfl : R = .tup [z0.av, .ifc 104 (.int .i64 (checkR d))] := by
      rw [hR, show startR d = (z0, checkR d) from if_pos n0, errAV_ne n0]
    (conv => whnf)
    (refine FinSpec.mono ?_; (conv => whnf); refine ⟨?_, rfl⟩; (conv => whnf))
    (repeat' (first | exact rfl | exact trivial | exact HWk.refl rfl | exact leRL_refl _ | (refine And.intro ?_ ?_)))
  have h0 : checkR d = 0 := by simpa using n0
  have hT := checkR_ok h0
  rw [h0, errAV_zero]
  obtain rfl : R = .tup [(settleR d 0 (List.replicate d.gates.length 0)).av, .nilI] := by
    rw [hR, show startR d = _ from if_neg n0]; rfl
  (conv => whnf)
  (refine ADraw.auto (by kernel_rfl) ?_; (conv => whnf))
  have hg := hT.gates
  refine ⟨⟨by omega, by omega, by simp; omega, by simp; omega⟩, rfl, ?_⟩
  (conv => whnf)
  refine ACallP.pure _ _ ?_ ⟨rfl, rfl⟩ (c_settle d 0 (List.replicate d.gates.length 0) (Nat.two_pow_pos _) hT (zeroMemo hT)) ?_
  · (repeat' (first | exact rfl | exact trivial | exact HWk.refl rfl | exact leRL_refl _ | (refine And.intro ?_ ?_)))
    exact leRL_of (by simp)
  (conv => whnf)
  (refine FinSpec.mono ?_; (conv => whnf); refine ⟨?_, rfl⟩; (conv => whnf))
  (repeat' (first | exact rfl | exact trivial | exact HWk.refl rfl | exact leRL_refl _ | (refine And.intro ?_ ?_)))

theorem c_Top (d : Dyn) (s : St) (hd : DynC d) (R : AV) (hR : R = .tup [.bool (topR d s).1, errAV (topR d s).2]) : FnH Tryz.prog 15 [d.av, s.av] [] R [] := by
  refine FnH.intro lay mixed Tryz.func15 (by kernel_rfl) rfl (by kernel_rfl) rfl fun hok => ?_
  (conv => whnf)
  refine .pure _ _ ?_ ⟨rfl, ?_⟩ (c_check d s hd _ rfl) fun _ => ?_
  · (repeat' (first | exact rfl | exact trivial | exact HWk.refl rfl | exact leRL_refl _ | (refine And.intro ?_ ?_)))
  · unfold errAV; split <;> rfl
  by_cases n0 : checkSR d s ≠ 0
  · rw [errAV_ne n0]
    obtain rfl : R = .tup [.bool false, .ifc 104 (.int .i64 (checkSR d s))] := by
      rw [hR, show topR d s = _ from if_pos n0, errAV_ne n0]
    (conv => whnf)
    (refine FinSpec.mono ?_; (conv => whnf); refine ⟨?_, rfl⟩; (conv => whnf))
    (repeat' (first | exact rfl | exact trivial | exact HWk.refl rfl | exact leRL_refl _ | (refine And.intro ?_ ?_)))
  have h0 : checkSR d s = 0 := by simpa using n0
  obtain ⟨hc, hs⟩ := checkSR_ok h0
  have hT := checkR_ok hc
  rw [h0, errAV_zero]
  obtain rfl : R = .tup [.bool ((valuesR d s.failed.toNat s.memo).getD d.top.toNat false), .nilI] := by
    rw [hR, show topR d s = _ from if_neg n0]; rfl
  have hv := hT.vars
  have hp := pow_int (n := d.vars.toNat) (by omega)
  have hpos := hs.pos
  have hlt := hs.lt
  have htop := hT.top
  obtain ⟨f, hf⟩ : ∃ f : Nat, s.failed = f := ⟨s.failed.toNat, by omega⟩
  obtain ⟨fl, memo⟩ := s
  simp only at hf
  subst hf
  (conv => whnf)
  (refine ADraw.auto (by kernel_rfl) ?_; (conv => whnf))
  refine ACallP.pure _ _ ?_ ⟨rfl, rfl⟩ (c_values d f memo (by have : (f : Int) < (2 ^ d.vars.toNat : Nat) := hlt; omega) hT hs.len) ?_
  · (repeat' (first | exact rfl | exact trivial | exact HWk.refl rfl | exact leRL_refl _ | (refine And.intro ?_ ?_)))
  (conv => whnf)
  refine aidxD false ⟨htop.1, by rw [valuesR_len]; omega⟩ ?_
  (conv => whnf)
  (refine FinSpec.mono ?_; (conv => whnf); refine ⟨?_, rfl⟩; (conv => whnf))
  (repeat' (first | exact rfl | exact trivial | exact HWk.refl rfl | exact leRL_refl _ | (refine And.intro ?_ ?_)))

theorem c_Fail (d : Dyn) (s : St) (i : Int) (hd : DynC d) (R : AV) (hR : R = .tup [(failR d s i).1.av, errAV (failR d s i).2]) : FnH Tryz.prog 11 [d.av, s.av, .int .i64 i] [] R [] := by
  refine FnH.intro lay mixed Tryz.func11 (by kernel_rfl) rfl (by kernel_rfl) rfl fun hok => ?_
  (conv => whnf)
  refine .pure _ _ ?_ ⟨rfl, ?_⟩ (c_check d s hd _ rfl) fun _ => ?_
  · (repeat' (first | exact rfl | exact trivial | exact HWk.refl rfl | exact leRL_refl _ | (refine And.intro ?_ ?_)))
  · unfold errAV; split <;> rfl
  by_cases n0 : checkSR d s ≠ 0
  · rw [errAV_ne n0]
    obtain rfl : R = .tup [z0.av, .ifc 104 (.int .i64 (checkSR d s))] := by
      rw [hR, show failR d s i = (z0, checkSR d s) from if_pos n0, errAV_ne n0]
    (conv => whnf)
    (refine FinSpec.mono ?_; (conv => whnf); refine ⟨?_, rfl⟩; (conv => whnf))
    (repeat' (first | exact rfl | exact trivial | exact HWk.refl rfl | exact leRL_refl _ | (refine And.intro ?_ ?_)))
  have h0 : checkSR d s = 0 := by simpa using n0
  obtain ⟨hc, hs⟩ := checkSR_ok h0
  have hT := checkR_ok hc
  rw [h0, errAV_zero]
  have hv := hT.vars
  have hp := pow_int (n := d.vars.toNat) (by omega)
  have hpos := hs.pos
  have hlt := hs.lt
  have hmo := hs.memoOk
  obtain ⟨f, hf⟩ : ∃ f : Nat, s.failed = f := ⟨s.failed.toNat, by omega⟩
  obtain ⟨fl, memo⟩ := s
  simp only at hf
  subst hf
  have hlt : (f : Int) < (2 ^ d.vars.toNat : Nat) := hlt
  have hmo : MemoOk d memo := hmo
  have err : ∀ e : Int, failR d ⟨f, memo⟩ i = (z0, e) → e ≠ 0 → R = .tup [z0.av, .ifc 104 (.int .i64 e)] := by
    intro e he h0
    rw [hR, he, errAV_ne h0]
  (conv => whnf)
  refine And.intro (fun n1 => ?_) (fun n1 => ?_)
  · obtain rfl := err 10 (by unfold failR; rw [if_neg n0, if_pos n1]) (by decide)
    (conv => whnf)
    (refine FinSpec.mono ?_; (conv => whnf); refine ⟨?_, rfl⟩; (conv => whnf))
    (repeat' (first | exact rfl | exact trivial | exact HWk.refl rfl | exact leRL_refl _ | (refine And.intro ?_ ?_)))
  (conv => whnf)
  refine And.intro (fun n2 => ?_) (fun n2 => ?_)
  · obtain rfl := err 10 (by unfold failR; rw [if_neg n0, if_neg n1, if_pos n2]) (by decide)
    (conv => whnf)
    (refine FinSpec.mono ?_; (conv => whnf); refine ⟨?_, rfl⟩; (conv => whnf))
    (repeat' (first | exact rfl | exact trivial | exact HWk.refl rfl | exact leRL_refl _ | (refine And.intro ?_ ?_)))
  obtain ⟨j, rfl⟩ : ∃ j : Nat, i = j := ⟨i.toNat, by omega⟩
  have hj2 : 2 ^ j < 2 ^ d.vars.toNat := Nat.pow_lt_pow_right (by omega) (by omega)
  (conv => whnf)
  refine ⟨by omega, ?_⟩
  have hb := bit_test (a := f) (i := j) (by omega) (by omega)
  (conv => whnf)
  rw [hb]
  refine And.intro (fun n3 => ?_) (fun n3 => ?_)
  · have n3 : f.testBit j = true := by
      cases hbit : f.testBit j with
      | true => rfl
      | false => rw [hbit] at n3; simp at n3
    obtain rfl := err 12 (by unfold failR; rw [if_neg n0, if_neg n1, if_neg n2]; exact if_pos n3) (by decide)
    (conv => whnf)
    (refine FinSpec.mono ?_; (conv => whnf); refine ⟨?_, rfl⟩; (conv => whnf))
    (repeat' (first | exact rfl | exact trivial | exact HWk.refl rfl | exact leRL_refl _ | (refine And.intro ?_ ?_)))
  have n3 : ¬ f.testBit j = true := by
    intro hbit; rw [hbit] at n3; simp at n3
  have hbl := Nat.or_lt_two_pow (x := f) (y := 2 ^ j) (n := d.vars.toNat) (by omega) hj2
  obtain rfl : R = .tup [(settleR d (f ||| 2 ^ j) memo).av, .nilI] := by
    rw [hR, show failR d ⟨f, memo⟩ j = (settleR d (f ||| 2 ^ j) memo, 0) from by unfold failR; rw [if_neg n0, if_neg n1, if_neg n2]; exact if_neg n3]; rfl
  (conv => whnf)
  (refine ADraw.auto (by kernel_rfl) ?_; (conv => whnf))
  refine ⟨by omega, ?_⟩
  rw [shl_one (by omega)]
  (conv => whnf)
  rw [or_nat (by omega) (by omega)]
  (conv => whnf)
  refine ACallP.pure _ _ ?_ ⟨rfl, rfl⟩ (c_settle d (f ||| 2 ^ j) memo hbl hT hmo) ?_
  · (repeat' (first | exact rfl | exact trivial | exact HWk.refl rfl | exact leRL_refl _ | (refine And.intro ?_ ?_)))
  (conv => whnf)
  (refine FinSpec.mono ?_; (conv => whnf); refine ⟨?_, rfl⟩; (conv => whnf))
  (repeat' (first | exact rfl | exact trivial | exact HWk.refl rfl | exact leRL_refl _ | (refine And.intro ?_ ?_)))

theorem c_Repair (d : Dyn) (s : St) (i : Int) (hd : DynC d) (R : AV) (hR : R = .tup [(repairR d s i).1.av, errAV (repairR d s i).2]) : FnH Tryz.prog 12 [d.av, s.av, .int .i64 i] [] R [] := by
  refine FnH.intro lay mixed Tryz.func12 (by kernel_rfl) rfl (by kernel_rfl) rfl fun hok => ?_
  (conv => whnf)
  refine .pure _ _ ?_ ⟨rfl, ?_⟩ (c_check d s hd _ rfl) fun _ => ?_
  · (repeat' (first | exact rfl | exact trivial | exact HWk.refl rfl | exact leRL_refl _ | (refine And.intro ?_ ?_)))
  · unfold errAV; split <;> rfl
  by_cases n0 : checkSR d s ≠ 0
  · rw [errAV_ne n0]
    obtain rfl : R = .tup [z0.av, .ifc 104 (.int .i64 (checkSR d s))] := by
      rw [hR, show repairR d s i = (z0, checkSR d s) from if_pos n0, errAV_ne n0]
    (conv => whnf)
    (refine FinSpec.mono ?_; (conv => whnf); refine ⟨?_, rfl⟩; (conv => whnf))
    (repeat' (first | exact rfl | exact trivial | exact HWk.refl rfl | exact leRL_refl _ | (refine And.intro ?_ ?_)))
  have h0 : checkSR d s = 0 := by simpa using n0
  obtain ⟨hc, hs⟩ := checkSR_ok h0
  have hT := checkR_ok hc
  rw [h0, errAV_zero]
  have hv := hT.vars
  have hp := pow_int (n := d.vars.toNat) (by omega)
  have hpos := hs.pos
  have hlt := hs.lt
  have hmo := hs.memoOk
  obtain ⟨f, hf⟩ : ∃ f : Nat, s.failed = f := ⟨s.failed.toNat, by omega⟩
  obtain ⟨fl, memo⟩ := s
  simp only at hf
  subst hf
  have hlt : (f : Int) < (2 ^ d.vars.toNat : Nat) := hlt
  have hmo : MemoOk d memo := hmo
  have err : ∀ e : Int, repairR d ⟨f, memo⟩ i = (z0, e) → e ≠ 0 → R = .tup [z0.av, .ifc 104 (.int .i64 e)] := by
    intro e he h0
    rw [hR, he, errAV_ne h0]
  (conv => whnf)
  refine And.intro (fun n1 => ?_) (fun n1 => ?_)
  · obtain rfl := err 10 (by unfold repairR; rw [if_neg n0, if_pos n1]) (by decide)
    (conv => whnf)
    (refine FinSpec.mono ?_; (conv => whnf); refine ⟨?_, rfl⟩; (conv => whnf))
    (repeat' (first | exact rfl | exact trivial | exact HWk.refl rfl | exact leRL_refl _ | (refine And.intro ?_ ?_)))
  (conv => whnf)
  refine And.intro (fun n2 => ?_) (fun n2 => ?_)
  · obtain rfl := err 10 (by unfold repairR; rw [if_neg n0, if_neg n1, if_pos n2]) (by decide)
    (conv => whnf)
    (refine FinSpec.mono ?_; (conv => whnf); refine ⟨?_, rfl⟩; (conv => whnf))
    (repeat' (first | exact rfl | exact trivial | exact HWk.refl rfl | exact leRL_refl _ | (refine And.intro ?_ ?_)))
  obtain ⟨j, rfl⟩ : ∃ j : Nat, i = j := ⟨i.toNat, by omega⟩
  have hj2 : 2 ^ j < 2 ^ d.vars.toNat := Nat.pow_lt_pow_right (by omega) (by omega)
  (conv => whnf)
  refine ⟨by omega, ?_⟩
  have hb := bit_test (a := f) (i := j) (by omega) (by omega)
  (conv => whnf)
  rw [hb]
  refine And.intro (fun n3 => ?_) (fun n3 => ?_)
  · have n3 : f.testBit j = false := by
      cases hbit : f.testBit j with
      | false => rfl
      | true => rw [hbit] at n3; simp at n3
    obtain rfl := err 12 (by unfold repairR; rw [if_neg n0, if_neg n1, if_neg n2]; exact if_pos n3) (by decide)
    (conv => whnf)
    (refine FinSpec.mono ?_; (conv => whnf); refine ⟨?_, rfl⟩; (conv => whnf))
    (repeat' (first | exact rfl | exact trivial | exact HWk.refl rfl | exact leRL_refl _ | (refine And.intro ?_ ?_)))
  have n3 : ¬ f.testBit j = false := by
    intro hbit; rw [hbit] at n3; simp at n3
  (conv => whnf)
  refine .pure _ _ ?_ ⟨rfl, rfl⟩ (c_held d f memo j (by omega) hT hmo.len) fun _ => ?_
  · (repeat' (first | exact rfl | exact trivial | exact HWk.refl rfl | exact leRL_refl _ | (refine And.intro ?_ ?_)))
  (conv => whnf)
  refine And.intro (fun n4 => ?_) (fun n4 => ?_)
  · obtain rfl := err 12 (by unfold repairR; rw [if_neg n0, if_neg n1, if_neg n2]; exact (if_neg n3).trans (if_pos n4)) (by decide)
    (conv => whnf)
    (refine FinSpec.mono ?_; (conv => whnf); refine ⟨?_, rfl⟩; (conv => whnf))
    (repeat' (first | exact rfl | exact trivial | exact HWk.refl rfl | exact leRL_refl _ | (refine And.intro ?_ ?_)))
  have hnl := nandN_le (a := f) (b := 2 ^ j) (by omega)
  obtain rfl : R = .tup [(settleR d (nandN f (2 ^ j)) memo).av, .nilI] := by
    rw [hR, show repairR d ⟨f, memo⟩ j = (settleR d (nandN f (2 ^ j)) memo, 0) from by unfold repairR; rw [if_neg n0, if_neg n1, if_neg n2]; exact (if_neg n3).trans (if_neg (by rw [show valuesR d (St.failed ⟨f, memo⟩).toNat (St.memo ⟨f, memo⟩) = valuesR d f memo from rfl, n4]; simp))]; rfl
  (conv => whnf)
  (refine ADraw.auto (by kernel_rfl) ?_; (conv => whnf))
  refine ⟨by omega, ?_⟩
  rw [shl_one (by omega)]
  (conv => whnf)
  rw [andNot_nat (by omega)]
  (conv => whnf)
  refine ACallP.pure _ _ ?_ ⟨rfl, rfl⟩ (c_settle d (nandN f (2 ^ j)) memo (by omega) hT hmo) ?_
  · (repeat' (first | exact rfl | exact trivial | exact HWk.refl rfl | exact leRL_refl _ | (refine And.intro ?_ ?_)))
  (conv => whnf)
  (refine FinSpec.mono ?_; (conv => whnf); refine ⟨?_, rfl⟩; (conv => whnf))
  (repeat' (first | exact rfl | exact trivial | exact HWk.refl rfl | exact leRL_refl _ | (refine And.intro ?_ ?_)))
end S

open Go Go.AL Go.Proofs
namespace S
set_option maxRecDepth 100000

theorem c_ints (a b : List Int) : FnH Tryz.prog 47 [iL a, iL b] [] (.bool (decide (a = b))) [] := by
  refine FnH.intro lay mixed Tryz.func47 (by kernel_rfl) rfl (by kernel_rfl) rfl fun hok => ?_
  have ha : a.length ≤ 9223372036854775807 := by simpa [OkL, Ok, maxL] using hok.1.1
  (conv => whnf)
  refine And.intro (fun h => ?_) (fun h => ?_)
  · have h : a ≠ b := by intro e; apply h; rw [e]
    (conv => whnf)
    (refine FinSpec.mono ?_; (conv => whnf); refine ⟨?_, rfl⟩; (conv => whnf))
    simpa using h
  have h : a.length = b.length := by simp only [List.length_map] at h; omega
  (conv => whnf)
  refine LoopE.of <| LoopSpec.inv (.refl _ _) (fun (i : Nat) => i ≤ a.length ∧ (a = b ↔ a.drop i = b.drop i)) (fun (i : Nat) => [(13, .int .i64 i)]) (fun _ => _) (fun (i : Nat) => a.length - i) 0 ?_ (fun _ => rfl) ?_ ?_
  · exact ⟨Nat.zero_le _, by simp⟩
  · (repeat' (first | exact rfl | exact trivial | exact HWk.refl rfl | exact leRL_refl _ | (refine And.intro ?_ ?_)))
  rintro i ⟨hi, hx⟩ _
  (conv => whnf)
  refine And.intro (fun h1 => ?_) (fun h1 => ?_)
  · have hlt : i < a.length := by simpa using h1
    have hlt2 : i < b.length := by omega
    rw [List.drop_eq_getElem_cons hlt, List.drop_eq_getElem_cons hlt2] at hx
    (conv => whnf)
    (refine ADraw.auto (by kernel_rfl) ?_; (conv => whnf))
    refine aidx hlt ?_
    (conv => whnf)
    refine aidx hlt2 ?_
    (conv => whnf)
    refine And.intro (fun h2 => ?_) (fun h2 => ?_)
    · (conv => whnf)
      (refine FinSpec.mono ?_; (conv => whnf); refine ⟨?_, rfl⟩; (conv => whnf))
      have : ¬ a = b := fun e => h2 (by simpa using (List.cons.inj (hx.1 e)).1)
      simpa using this
    · have h2 : a[i] = b[i] := by simpa using h2
      (conv => whnf)
      (refine ⟨inr64 (by omega) (by omega), ?_⟩; (conv => whnf))
      refine ⟨i + 1, ?_, ?_, ?_⟩
      · refine ⟨hlt, ?_⟩
        rw [hx, h2]
        exact ⟨fun e => (List.cons.inj e).2, fun e => by rw [e]⟩
      · (repeat' (first | exact rfl | exact trivial | exact HWk.refl rfl | exact leRL_refl _ | (refine And.intro ?_ ?_)))
      · omega
  · have hil : i = a.length := by have : ¬ i < a.length := by simpa using h1
                                  omega
    (conv => whnf)
    (refine FinSpec.mono ?_; (conv => whnf); refine ⟨?_, rfl⟩; (conv => whnf))
    have : a = b := hx.2 (by rw [hil, List.drop_length, h, List.drop_length])
    simpa using this

/-- The document's example. -/
def exD : Dyn := ⟨2, [⟨6, 0, [0, 1], ⟨false, [], []⟩⟩], 2, [⟨false, [1], [1]⟩, ⟨false, [1], [1]⟩], [⟨false, [1], [1]⟩, ⟨false, [1], [1]⟩]⟩

theorem exC : DynC exD := by
  refine ⟨?_, ?_, ?_⟩
  · intro x hx; simp [exD] at hx; subst hx; exact ratC_one
  · intro x hx; simp [exD] at hx; subst hx; exact ratC_one
  · intro x hx; simp [exD] at hx; subst hx; exact ratC_zero

/-- What is asked of the reference. -/
def OneC : Prop := FnH Tryz.prog 113 [.int .i64 1] [] (Rat.av ⟨false, [1], [1]⟩) []

theorem c_Example (h1 : OneC) : FnH Tryz.prog 46 [] [] exD.av [] := by
  refine FnH.intro lay mixed Tryz.func46 (by kernel_rfl) rfl (by kernel_rfl) rfl fun hok => ?_
  (conv => whnf)
  refine .pure _ _ ?_ ⟨rfl, rfl⟩ h1 fun _ => ?_
  · exact leL_refl _
  (conv => whnf)
  refine .pure _ _ ?_ ⟨rfl, rfl⟩ h1 fun _ => ?_
  · exact leL_refl _
  (conv => whnf)
  (refine FinSpec.mono ?_; (conv => whnf); refine ⟨?_, rfl⟩; (conv => whnf))
  (repeat' (first | exact rfl | exact trivial | exact HWk.refl rfl | exact leRL_refl _ | (refine And.intro ?_ ?_)))

def fstep (d : Dyn) (s : St × Int) (i : Int) : St × Int := if s.2 = 0 then failR d s.1 i else s

def faultsR (d : Dyn) (l : List Int) : St × Int := l.foldl (fstep d) (startR d)

theorem bE (n : Nat) (e : Int) : bndB n (errAV e) = true := by unfold errAV; split <;> rfl
theorem bS (n : Nat) (s : St) (e : Int) : bndB n (AV.tup [s.av, errAV e]) = true := by unfold errAV; split <;> rfl

theorem c_faults (d : Dyn) (l : List Int) (hd : DynC d) : FnH Tryz.prog 45 [d.av, iL l] [] (.tup [(faultsR d l).1.av, .bool (decide ((faultsR d l).2 = 0))]) [] := by
  refine FnH.intro lay mixed Tryz.func45 (by kernel_rfl) rfl (by kernel_rfl) rfl fun hok => ?_
  have hl : l.length ≤ 9223372036854775807 := by simpa [OkL, Ok, maxL] using hok.2.1.1
  (conv => whnf)
  refine .pure _ _ ?_ ⟨rfl, bS _ _ _⟩ (c_Start d hd _ rfl) fun _ => ?_
  · exact leL_refl _
  (conv => whnf)
  refine LoopE.of <| LoopSpec.inv (.refl _ _) (fun i : Nat => i ≤ l.length) (fun i => [(17, .int .i64 i), (7, errAV ((l.take i).foldl (fstep d) (startR d)).2)])
    (fun i => [(2, .box ((l.take i).foldl (fstep d) (startR d)).1.av), (1, .box (.ag [.int .i64 0, .nils])), (0, .box d.av)]) (fun i => l.length - i) 0 ?_ (fun _ => rfl) ?_ ?_
  · exact Nat.zero_le _
  · refine ⟨?_, .mk ?_ ⟨by simp, by simp, by simp, trivial⟩⟩
    · (repeat' (first | exact rfl | exact trivial | exact HWk.refl rfl | exact leRL_refl _ | (refine And.intro ?_ ?_)))
      · exact le_refl _
      · exact bE _ _
    · (repeat' (first | exact rfl | exact trivial | exact HWk.refl rfl | exact leRL_refl _ | (refine And.intro ?_ ?_)))
  intro i hi _
  (conv => whnf)
  refine And.intro (fun h => ?_) (fun h => ?_)
  · have hlt : i < l.length := by simpa using h
    have hs := foldl_take (f := fstep d) (s := startR d) hlt
    generalize (l.take i).foldl (fstep d) (startR d) = s at *
    obtain ⟨s, e⟩ := s
    (conv => whnf)
    refine aidx hlt ?_
    generalize l[i] = a at *
    (conv => whnf)
    by_cases h0 : e = 0
    · subst h0
      rw [fstep, if_pos rfl] at hs
      rw [errAV_zero]
      (conv => whnf)
      refine .pure _ _ ?_ ⟨rfl, bS _ _ _⟩ (c_Fail d s a hd _ rfl) fun _ => ?_
      · exact leL_refl _
      (conv => whnf)
      (refine ⟨inr64 (by omega) (by omega), ?_⟩; (conv => whnf))
      refine ⟨i + 1, ?_, ?_, ?_⟩
      · exact hlt
      · rw [hs]
        refine ⟨?_, .mk ?_ ⟨by simp, by simp, by simp, trivial⟩⟩
        · (repeat' (first | exact rfl | exact trivial | exact HWk.refl rfl | exact leRL_refl _ | (refine And.intro ?_ ?_)))
          · exact le_refl _
          · exact bE _ _
        · (repeat' (first | exact rfl | exact trivial | exact HWk.refl rfl | exact leRL_refl _ | (refine And.intro ?_ ?_)))
      · omega
    · rw [fstep, if_neg h0] at hs
      rw [show errAV (s, e).2 = _ from errAV_ne h0]
      (conv => whnf)
      (refine ⟨inr64 (by omega) (by omega), ?_⟩; (conv => whnf))
      refine ⟨i + 1, ?_, ?_, ?_⟩
      · exact hlt
      · rw [hs]
        refine ⟨?_, .mk ?_ ⟨by simp, by simp, by simp, trivial⟩⟩
        · (repeat' (first | exact rfl | exact trivial | exact HWk.refl rfl | exact leRL_refl _ | (refine And.intro ?_ ?_)))
          · rw [show errAV (s, e).2 = _ from errAV_ne h0]
            exact le_refl _
          · exact bE _ _
        · (repeat' (first | exact rfl | exact trivial | exact HWk.refl rfl | exact leRL_refl _ | (refine And.intro ?_ ?_)))
      · omega
  · have hlt : i = l.length := by have : ¬ i < l.length := by simpa using h
                                  omega
    subst hlt
    rw [List.take_length]
    have e0 : l.foldl (fstep d) (startR d) = faultsR d l := rfl
    rw [e0]
    generalize faultsR d l = s
    obtain ⟨s, e⟩ := s
    by_cases h0 : e = 0
    · subst h0
      rw [show errAV (s, (0 : Int)).2 = _ from errAV_zero]
      (conv => whnf)
      (refine ADraw.auto (by kernel_rfl) ?_; (conv => whnf))
      (refine FinSpec.mono ?_; (conv => whnf); refine ⟨?_, rfl⟩; (conv => whnf))
      (repeat' (first | exact rfl | exact trivial | exact HWk.refl rfl | exact leRL_refl _ | (refine And.intro ?_ ?_)))
    · rw [show errAV (s, e).2 = _ from errAV_ne h0]
      (conv => whnf)
      (refine ADraw.auto (by kernel_rfl) ?_; (conv => whnf))
      (refine FinSpec.mono ?_; (conv => whnf); refine ⟨?_, rfl⟩; (conv => whnf))
      (repeat' (first | exact rfl | exact trivial | exact HWk.refl rfl | exact leRL_refl _ | (refine And.intro ?_ ?_)))
      show decide ((s, e).2 = 0) = false
      simp [h0]
end S

open Go Go.AL Go.Proofs
namespace S
set_option maxRecDepth 100000

theorem ex1 : faultsR exD [0, 1] = (⟨3, [0]⟩, 0) := by decide
theorem ex2 : faultsR exD [1, 0] = (⟨3, [1]⟩, 0) := by decide
theorem ex3 : topR exD ⟨3, [0]⟩ = (true, 0) := by decide
theorem ex4 : topR exD ⟨3, [1]⟩ = (false, 0) := by decide

theorem c_awake (h1 : OneC) : FnH Tryz.prog 9 [] [] (.bool true) [] := by
  have c1 : FnH Tryz.prog 45 [exD.av, iL [0, 1]] [] (.tup [(⟨3, [0]⟩ : St).av, .tt]) [] := by
    have := c_faults exD [0, 1] exC
    rw [ex1] at this; exact this.weak ⟨le0_refl _, rfl, trivial⟩
  have c2 : FnH Tryz.prog 45 [exD.av, iL [1, 0]] [] (.tup [(⟨3, [1]⟩ : St).av, .tt]) [] := by
    have := c_faults exD [1, 0] exC
    rw [ex2] at this; exact this.weak ⟨le0_refl _, rfl, trivial⟩
  have c3 : FnH Tryz.prog 15 [exD.av, (⟨3, [0]⟩ : St).av] [] (.tup [.tt, .nilI]) [] := by
    have := c_Top exD ⟨3, [0]⟩ exC _ rfl
    rw [ex3] at this; exact this.weak ⟨rfl, rfl, trivial⟩
  have c4 : FnH Tryz.prog 15 [exD.av, (⟨3, [1]⟩ : St).av] [] (.tup [.ff, .nilI]) [] := by
    have := c_Top exD ⟨3, [1]⟩ exC _ rfl
    rw [ex4] at this; exact this.weak ⟨rfl, rfl, trivial⟩
  have c5 : FnH Tryz.prog 47 [iL [1], iL [1]] [] .tt [] := (c_ints [1] [1]).weak rfl
  have c0 := c_Example h1
  have bX : bndB 0 exD.av = true := rfl
  generalize exD.av = X at *
  refine FnH.intro lay mixed Tryz.func9 (by kernel_rfl) rfl (by kernel_rfl) rfl fun hok => ?_
  (conv => whnf)
  refine .pure _ _ ?_ ⟨rfl, bX⟩ c0 fun _ => ?_
  · exact leL_refl _
  (conv => whnf)
  refine .pure _ _ ?_ ⟨by simp only [bndBL, bX]; rfl, rfl⟩ c1 fun _ => ?_
  · (repeat' (first | exact rfl | exact trivial | exact HWk.refl rfl | exact leRL_refl _ | (refine And.intro ?_ ?_)))
    exact le0_refl _
  (conv => whnf)
  refine .pure _ _ ?_ ⟨rfl, bX⟩ c0 fun _ => ?_
  · exact leL_refl _
  (conv => whnf)
  refine .pure _ _ ?_ ⟨by simp only [bndBL, bX]; rfl, rfl⟩ c2 fun _ => ?_
  · (repeat' (first | exact rfl | exact trivial | exact HWk.refl rfl | exact leRL_refl _ | (refine And.intro ?_ ?_)))
    exact le0_refl _
  (conv => whnf)
  (refine ADraw.auto (by kernel_rfl) ?_; (conv => whnf))
  refine ACallP.pure _ _ ?_ ⟨rfl, bX⟩ c0 ?_
  · exact leL_refl _
  (conv => whnf)
  refine ACallP.pure _ _ ?_ ⟨by simp only [bndBL, bX]; rfl, rfl⟩ c3 ?_
  · exact leL_refl _
  (conv => whnf)
  (refine ADraw.auto (by kernel_rfl) ?_; (conv => whnf))
  refine ACallP.pure _ _ ?_ ⟨rfl, bX⟩ c0 ?_
  · exact leL_refl _
  (conv => whnf)
  refine ACallP.pure _ _ ?_ ⟨by simp only [bndBL, bX]; rfl, rfl⟩ c4 ?_
  · exact leL_refl _
  (conv => whnf)
  refine .pure _ _ ?_ ⟨rfl, rfl⟩ c5 fun _ => ?_
  · (repeat' (first | exact rfl | exact trivial | exact HWk.refl rfl | exact leRL_refl _ | (refine And.intro ?_ ?_)))
  (conv => whnf)
  (refine FinSpec.mono ?_; (conv => whnf); refine ⟨?_, rfl⟩; (conv => whnf))
end S

open Go Go.AL Go.Proofs
namespace S
theorem one : OneC := r_of
end S
