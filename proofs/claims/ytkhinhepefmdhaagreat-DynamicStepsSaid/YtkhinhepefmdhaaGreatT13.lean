/-
  Contracts of functions of the program, over the logic of the texts before. Nothing is assumed.
-/
import Derived.Test.YtkhinhepefmdhaaGreatT12

open Go Go.AL Go.Proofs
namespace S
set_option maxRecDepth 100000

theorem c_Start48 (d : Dyn) (hc : checkR d = 0) : FnH Tryz.prog 21 [d.av] [] (startR d).1.av [] := by
  have hT := checkR_ok hc
  have hg := hT.gates
  have e : (startR d).1 = settleR d 0 (List.replicate d.gates.length 0) := by unfold startR; rw [if_neg (by simp [hc])]
  rw [e]
  refine FnH.intro lay mixed Tryz.func21 (by kernel_rfl) rfl (by kernel_rfl) rfl fun hok => ?_
  ((try dsimp only [argC, succC]); (try dsimp only [awp]); (conv => whnf))
  (refine ADraw.auto (by kernel_rfl) ?_; (conv => whnf))
  refine ⟨⟨by omega, by omega, by simp; omega, by simp; omega⟩, rfl, ?_⟩
  ((try dsimp only [awp]); (conv => whnf))
  refine ACallP.pure _ _ ?_ ⟨rfl, rfl⟩ (c_Settle48 d 0 (List.replicate d.gates.length 0) (Nat.two_pow_pos _) hc (zeroMemo hT)) ?_
  · (repeat' (first | exact rfl | exact trivial | exact HWk.refl rfl | exact leRL_refl _ | (refine And.intro ?_ ?_)))
    exact leRL_of (by simp)
  ((try dsimp only [awp]); (conv => whnf))
  (refine FinSpec.mono ?_; (conv => whnf); refine ⟨?_, rfl⟩; (conv => whnf))
  (repeat' (first | exact rfl | exact trivial | exact HWk.refl rfl | exact leRL_refl _ | (refine And.intro ?_ ?_)))


theorem c_Top48 (d : Dyn) (s : St) (h0 : checkSR d s = 0) : FnH Tryz.prog 29 [d.av, s.av] [] (.bool (topR d s).1) [] := by
  obtain ⟨hc, hs⟩ := checkSR_ok h0
  have hT := checkR_ok hc
  have hv := hT.vars
  have hp := pow_int (n := d.vars.toNat) (by omega)
  have hpos := hs.pos
  have hlt := hs.lt
  have hmo := hs.memoOk
  obtain ⟨f, hf⟩ : ∃ f : Nat, s.failed = f := ⟨s.failed.toNat, by omega⟩
  obtain ⟨fl, memo⟩ := s
  simp only at hf
  subst hf
  have hlt : (f : Int) < (2 ^ d.vars.toNat : Nat) := hlt
  have hmo : MemoOk d memo := hmo
  have hml : memo.length = d.gates.length := hmo.len
  have n0 : ¬ checkSR d ⟨f, memo⟩ ≠ 0 := by simp [h0]
  have htop := hT.top
  have cv := c_Values48 d f memo (by omega) hc hml
  have hpre := evs_drop (vfold_pre d.vars.toNat memo d.gates (evs d.vars.toNat f))
  have hvr : d.gates.foldl (vstep d.vars.toNat memo) (evs d.vars.toNat f) = valuesR d f memo := rfl
  rw [hvr] at hpre
  have hvl : ((valuesR d f memo).drop d.vars.toNat).length = d.gates.length := by rw [List.length_drop, valuesR_len]; omega
  have co := c_of d ((valuesR d f memo).drop d.vars.toNat) f d.top ⟨by omega, hv.2⟩ (by omega) ⟨htop.1, by rw [hvl]; exact htop.2⟩
  rw [hpre] at co
  have e : (topR d ⟨f, memo⟩).1 = (valuesR d f memo).getD d.top.toNat false := by unfold topR; rw [if_neg n0]; rfl
  rw [e]
  refine FnH.intro lay mixed Tryz.func29 (by kernel_rfl) rfl (by kernel_rfl) rfl fun hok => ?_
  ((try dsimp only [argC, succC]); (try dsimp only [awp]); (conv => whnf))
  (refine ADraw.auto (by kernel_rfl) ?_; (conv => whnf))
  refine ACallP.pure _ _ ?_ ⟨rfl, rfl⟩ cv ?_
  · (repeat' (first | exact rfl | exact trivial | exact HWk.refl rfl | exact leRL_refl _ | (refine And.intro ?_ ?_)))
  ((try dsimp only [awp]); (conv => whnf))
  refine ACallP.pure _ _ ?_ ⟨rfl, rfl⟩ co ?_
  · (repeat' (first | exact rfl | exact trivial | exact HWk.refl rfl | exact leRL_refl _ | (refine And.intro ?_ ?_)))
  ((try dsimp only [awp]); (conv => whnf))
  (refine FinSpec.mono ?_; (conv => whnf); refine ⟨?_, rfl⟩; (conv => whnf))
  (repeat' (first | exact rfl | exact trivial | exact HWk.refl rfl | exact leRL_refl _ | (refine And.intro ?_ ?_)))


theorem c_Fail48 (d : Dyn) (s : St) (i : Int) (h0 : checkSR d s = 0) (R : AV) (hR : R = .tup [(failR d s i).1.av, .int .i64 (failR d s i).2]) : FnH Tryz.prog 24 [d.av, s.av, .int .i64 i] [] R [] := by
  obtain ⟨hc, hs⟩ := checkSR_ok h0
  have hT := checkR_ok hc
  have hv := hT.vars
  have hp := pow_int (n := d.vars.toNat) (by omega)
  have hpos := hs.pos
  have hlt := hs.lt
  have hmo := hs.memoOk
  obtain ⟨f, hf⟩ : ∃ f : Nat, s.failed = f := ⟨s.failed.toNat, by omega⟩
  obtain ⟨fl, memo⟩ := s
  simp only at hf
  subst hf
  have hlt : (f : Int) < (2 ^ d.vars.toNat : Nat) := hlt
  have hmo : MemoOk d memo := hmo
  have hml : memo.length = d.gates.length := hmo.len
  have n0 : ¬ checkSR d ⟨f, memo⟩ ≠ 0 := by simp [h0]
  have err : ∀ e : Int, failR d ⟨f, memo⟩ i = (z0, e) → R = .tup [z0.av, .int .i64 e] := by
    intro e he
    rw [hR, he]
  refine FnH.intro lay mixed Tryz.func24 (by kernel_rfl) rfl (by kernel_rfl) rfl fun hok => ?_
  ((try dsimp only [argC, succC]); (try dsimp only [awp]); (conv => whnf))
  refine And.intro (fun n1 => ?_) (fun n1 => ?_)
  · obtain rfl := err 10 (by unfold failR; rw [if_neg n0, if_pos n1])
    ((try dsimp only [awp]); (conv => whnf))
    (refine FinSpec.mono ?_; (conv => whnf); refine ⟨?_, rfl⟩; (conv => whnf))
    (repeat' (first | exact rfl | exact trivial | exact HWk.refl rfl | exact leRL_refl _ | (refine And.intro ?_ ?_)))
  ((try dsimp only [awp]); (conv => whnf))
  refine And.intro (fun n2 => ?_) (fun n2 => ?_)
  · obtain rfl := err 10 (by unfold failR; rw [if_neg n0, if_neg n1, if_pos n2])
    ((try dsimp only [awp]); (conv => whnf))
    (refine FinSpec.mono ?_; (conv => whnf); refine ⟨?_, rfl⟩; (conv => whnf))
    (repeat' (first | exact rfl | exact trivial | exact HWk.refl rfl | exact leRL_refl _ | (refine And.intro ?_ ?_)))
  obtain ⟨j, rfl⟩ : ∃ j : Nat, i = j := ⟨i.toNat, by omega⟩
  have hj2 : 2 ^ j < 2 ^ d.vars.toNat := Nat.pow_lt_pow_right (by omega) (by omega)
  ((try dsimp only [awp]); (conv => whnf))
  refine ⟨by omega, ?_⟩
  have hb := bit_test (a := f) (i := j) (by omega) (by omega)
  (conv => whnf)
  rw [hb]
  ((try dsimp only [awp]); (conv => whnf))
  refine And.intro (fun n3 => ?_) (fun n3 => ?_)
  · have n3 : f.testBit j = true := by
      cases hbit : f.testBit j with
      | true => rfl
      | false => rw [hbit] at n3; simp at n3
    obtain rfl := err 12 (by unfold failR; rw [if_neg n0, if_neg n1, if_neg n2]; exact if_pos n3)
    ((try dsimp only [awp]); (conv => whnf))
    (refine FinSpec.mono ?_; (conv => whnf); refine ⟨?_, rfl⟩; (conv => whnf))
    (repeat' (first | exact rfl | exact trivial | exact HWk.refl rfl | exact leRL_refl _ | (refine And.intro ?_ ?_)))
  have n3 : f.testBit j = false := by
    cases hbit : f.testBit j with
    | false => rfl
    | true => rw [hbit] at n3; simp at n3
  have hor : f ||| 2 ^ j < 2 ^ d.vars.toNat := Nat.or_lt_two_pow (by omega) hj2
  obtain rfl : R = .tup [(settleR d (f ||| 2 ^ j) memo).av, .int .i64 0] := by
    rw [hR, show failR d ⟨f, memo⟩ j = (settleR d (f ||| 2 ^ j) memo, 0) from by unfold failR; rw [if_neg n0, if_neg n1, if_neg n2]; exact if_neg (by show ¬ f.testBit j = true; simp [n3])]
  ((try dsimp only [awp]); (conv => whnf))
  (refine ADraw.auto (by kernel_rfl) ?_; (conv => whnf))
  refine ⟨by omega, ?_⟩
  rw [shl_one (by omega)]
  (conv => whnf)
  rw [or_nat (by omega) (by omega)]
  ((try dsimp only [awp]); (conv => whnf))
  refine ACallP.pure _ _ ?_ ⟨rfl, rfl⟩ (c_Settle48 d (f ||| 2 ^ j) memo hor hc hmo) ?_
  · (repeat' (first | exact rfl | exact trivial | exact HWk.refl rfl | exact leRL_refl _ | (refine And.intro ?_ ?_)))
  ((try dsimp only [awp]); (conv => whnf))
  (refine FinSpec.mono ?_; (conv => whnf); refine ⟨?_, rfl⟩; (conv => whnf))
  (repeat' (first | exact rfl | exact trivial | exact HWk.refl rfl | exact leRL_refl _ | (refine And.intro ?_ ?_)))
end S

open Go Go.AL Go.Proofs
namespace S
set_option maxRecDepth 100000



theorem c_Repair48 (d : Dyn) (s : St) (i : Int) (h0 : checkSR d s = 0) (R : AV) (hR : R = .tup [(repairR d s i).1.av, .int .i64 (repairR d s i).2]) : FnH Tryz.prog 25 [d.av, s.av, .int .i64 i] [] R [] := by
  obtain ⟨hc, hs⟩ := checkSR_ok h0
  have hT := checkR_ok hc
  have hv := hT.vars
  have hp := pow_int (n := d.vars.toNat) (by omega)
  have hpos := hs.pos
  have hlt := hs.lt
  have hmo := hs.memoOk
  obtain ⟨f, hf⟩ : ∃ f : Nat, s.failed = f := ⟨s.failed.toNat, by omega⟩
  obtain ⟨fl, memo⟩ := s
  simp only at hf
  subst hf
  have hlt : (f : Int) < (2 ^ d.vars.toNat : Nat) := hlt
  have hmo : MemoOk d memo := hmo
  have hml : memo.length = d.gates.length := hmo.len
  have n0 : ¬ checkSR d ⟨f, memo⟩ ≠ 0 := by simp [h0]
  have hg := hT.gates
  have h16 := args16 hc
  have cv := c_Values48 d f memo (by omega) hc hml
  have hpre := evs_drop (vfold_pre d.vars.toNat memo d.gates (evs d.vars.toNat f))
  have hvr : d.gates.foldl (vstep d.vars.toNat memo) (evs d.vars.toNat f) = valuesR d f memo := rfl
  rw [hvr] at hpre
  have hvl : ((valuesR d f memo).drop d.vars.toNat).length = d.gates.length := by rw [List.length_drop, valuesR_len]; omega
  have co := fun a h => c_of d ((valuesR d f memo).drop d.vars.toNat) f a ⟨by omega, hv.2⟩ (by omega) h
  rw [hpre] at co
  rw [hvl] at co
  have hRR : repairR d ⟨f, memo⟩ i = if i < 0 then (z0, 10) else if d.vars ≤ i then (z0, 10) else if f.testBit i.toNat = false then (z0, 12) else if heldR d (valuesR d f memo) i = true then (z0, 12) else (settleR d (nandN f (2 ^ i.toNat)) memo, 0) := by
    unfold repairR; rw [if_neg n0]; rfl
  have hheld : heldR d (valuesR d f memo) i = d.gates.any (holds (valuesR d f memo) i) := rfl
  generalize (valuesR d f memo).drop d.vars.toNat = V at *
  generalize valuesR d f memo = v at *
  rw [hRR] at hR
  clear hRR
  refine FnH.intro lay mixed Tryz.func25 (by kernel_rfl) rfl (by kernel_rfl) rfl fun hok => ?_
  ((try dsimp only [argC, succC]); (try dsimp only [awp]); (conv => whnf))
  refine And.intro (fun n1 => ?_) (fun n1 => ?_)
  · rw [if_pos n1] at hR
    subst hR
    ((try dsimp only [awp]); (conv => whnf))
    (refine FinSpec.mono ?_; (conv => whnf); refine ⟨?_, rfl⟩; (conv => whnf))
    (repeat' (first | exact rfl | exact trivial | exact HWk.refl rfl | exact leRL_refl _ | (refine And.intro ?_ ?_)))
  rw [if_neg n1] at hR
  ((try dsimp only [awp]); (conv => whnf))
  refine And.intro (fun n2 => ?_) (fun n2 => ?_)
  · rw [if_pos n2] at hR
    subst hR
    ((try dsimp only [awp]); (conv => whnf))
    (refine FinSpec.mono ?_; (conv => whnf); refine ⟨?_, rfl⟩; (conv => whnf))
    (repeat' (first | exact rfl | exact trivial | exact HWk.refl rfl | exact leRL_refl _ | (refine And.intro ?_ ?_)))
  rw [if_neg n2] at hR
  obtain ⟨j, rfl⟩ : ∃ j : Nat, i = j := ⟨i.toNat, by omega⟩
  have hj2 : 2 ^ j < 2 ^ d.vars.toNat := Nat.pow_lt_pow_right (by omega) (by omega)
  rw [Int.toNat_natCast] at hR
  ((try dsimp only [awp]); (conv => whnf))
  refine ⟨by omega, ?_⟩
  have hb := bit_test (a := f) (i := j) (by omega) (by omega)
  (conv => whnf)
  rw [hb]
  ((try dsimp only [awp]); (conv => whnf))
  refine And.intro (fun n3 => ?_) (fun n3 => ?_)
  · have n3 : f.testBit j = false := by
      cases hbit : f.testBit j with
      | false => rfl
      | true => rw [hbit] at n3; simp at n3
    rw [if_pos n3] at hR
    subst hR
    ((try dsimp only [awp]); (conv => whnf))
    (refine FinSpec.mono ?_; (conv => whnf); refine ⟨?_, rfl⟩; (conv => whnf))
    (repeat' (first | exact rfl | exact trivial | exact HWk.refl rfl | exact leRL_refl _ | (refine And.intro ?_ ?_)))
  have n3 : ¬ f.testBit j = false := by
    intro hbit; rw [hbit] at n3; simp at n3
  rw [if_neg n3] at hR
  ((try dsimp only [awp]); (conv => whnf))
  refine .pure _ _ ?_ ⟨rfl, rfl⟩ cv fun _ => ?_
  · (repeat' (first | exact rfl | exact trivial | exact HWk.refl rfl | exact leRL_refl _ | (refine And.intro ?_ ?_)))
  ((try dsimp only [awp]); (conv => whnf))
  refine LoopE.of <| LoopSpec.inv (.refl _ _) (fun k : Nat => k ≤ d.gates.length ∧ (d.gates.take k).any (holds v j) = false)
    (fun k => [(35, .int .i64 k)]) (fun _ => _) (fun k => d.gates.length - k) 0 ?_ (fun _ => rfl) ?_ ?_
  · exact ⟨Nat.zero_le _, by simp⟩
  · (repeat' (first | exact rfl | exact trivial | exact HWk.refl rfl | exact leRL_refl _ | (refine And.intro ?_ ?_)))
  rintro k ⟨hk, hn⟩ _
  ((try dsimp only [awp]); (conv => whnf))
  refine And.intro (fun h => ?_) (fun h => ?_)
  · have hkl : k < d.gates.length := by simpa using h
    have hany := any_take (p := holds v j) hkl
    rw [hn, Bool.false_or] at hany
    have hhit : holds v j d.gates[k] = true → heldR d v j = true := fun h => by rw [hheld]; exact List.any_eq_true.2 ⟨_, List.getElem_mem hkl, h⟩
    have ha := hT.args k hkl
    have h2 := hT.two k hkl
    have hl16 := h16 k hkl
    generalize hg0 : d.gates[k] = g at *
    ((try dsimp only [awp]); (conv => whnf))
    refine aidx hkl ?_
    rw [hg0]
    ((try dsimp only [awp]); (conv => whnf))
    (refine ADraw.auto (by kernel_rfl) ?_; (conv => whnf))
    refine And.intro (fun k8 => ?_) (fun k8 => ?_)
    · have hno : holds v j g = false := by unfold holds; simp [k8]
      ((try dsimp only [awp]); (conv => whnf))
      (refine ⟨inr64 (by omega) (by omega), ?_⟩; (conv => whnf))
      refine ⟨k + 1, ?_, ?_, ?_⟩
      · exact ⟨hkl, by rw [hany, hno]⟩
      · refine ⟨?_, .mk ?_ ⟨by simp, by simp, by simp, trivial⟩⟩
        · (repeat' (first | exact rfl | exact trivial | exact HWk.refl rfl | exact leRL_refl _ | (refine And.intro ?_ ?_)))
        · (repeat' (first | exact rfl | exact trivial | exact HWk.refl rfl | exact leRL_refl _ | (refine And.intro ?_ ?_)))
      · omega
    have k8 : g.kind = 8 := by omega
    have hlen0 : 0 < g.args.length := by have := h2 k8; omega
    have ha0 := ha (g.args.getD 0 0) (getD_mem hlen0)
    have co := co (g.args.getD 0 0) ⟨ha0.1, by omega⟩
    ((try dsimp only [awp]); (conv => whnf))
    refine aidx0 0 hlen0 ?_
    ((try dsimp only [awp]); (conv => whnf))
    refine ACallP.pure _ _ ?_ ⟨rfl, rfl⟩ co ?_
    · (repeat' (first | exact rfl | exact trivial | exact HWk.refl rfl | exact leRL_refl _ | (refine And.intro ?_ ?_)))
    ((try dsimp only [awp]); (conv => whnf))
    refine And.intro (fun hb => ?_) (fun hb => ?_)
    · have hb : v.getD (g.args.getD 0 0).toNat false = false := by simpa using hb
      have hno : holds v j g = false := by unfold holds; rw [hb]; simp
      ((try dsimp only [awp]); (conv => whnf))
      (refine ⟨inr64 (by omega) (by omega), ?_⟩; (conv => whnf))
      refine ⟨k + 1, ?_, ?_, ?_⟩
      · exact ⟨hkl, by rw [hany, hno]⟩
      · refine ⟨?_, .mk ?_ ⟨by simp, by simp, by simp, trivial⟩⟩
        · (repeat' (first | exact rfl | exact trivial | exact HWk.refl rfl | exact leRL_refl _ | (refine And.intro ?_ ?_)))
        · (repeat' (first | exact rfl | exact trivial | exact HWk.refl rfl | exact leRL_refl _ | (refine And.intro ?_ ?_)))
      · omega
    have hb : v.getD (g.args.getD 0 0).toNat false = true := by simpa using hb
    have hho : holds v j g = (g.args.drop 1).any fun y => decide ((j : Int) = y) := by unfold holds; rw [hb, k8]; simp
    rw [hho] at hhit hany
    ((try dsimp only [awp]); (conv => whnf))
    refine ⟨⟨by omega, by simp; omega, by simp⟩, ?_⟩
    have hcut : ((g.args.map (AV.int .i64)).drop (1 : Int).toNat).take (((g.args.map (AV.int .i64)).length : Int).toNat - (1 : Int).toNat) = (g.args.drop 1).map (AV.int .i64) := by
      rw [List.take_of_length_le (by simp), ← List.map_drop]; rfl
    rw [hcut]
    have hdl : (g.args.drop 1).length ≤ 16 := by simp; omega
    generalize g.args.drop 1 = l at *
    ((try dsimp only [awp]); (conv => whnf))
    refine LoopE.of <| LoopSpec.inv (.refl _ _) (fun (q : Nat) => q ≤ l.length ∧ (l.take q).any (fun y => decide ((j : Int) = y)) = false) (fun (q : Nat) => [(58, .int .i64 q)]) (fun _ => _) (fun (q : Nat) => l.length - q) 0 ?_ (fun _ => rfl) ?_ ?_
    · exact ⟨Nat.zero_le _, by simp⟩
    · (repeat' (first | exact rfl | exact trivial | exact HWk.refl rfl | exact leRL_refl _ | (refine And.intro ?_ ?_)))
    rintro q ⟨hq, hnq⟩ _
    ((try dsimp only [awp]); (conv => whnf))
    refine And.intro (fun hh => ?_) (fun hh => ?_)
    · have hql : q < l.length := by simpa using hh
      have hany2 := any_take (p := fun y => decide ((j : Int) = y)) hql
      rw [hnq, Bool.false_or] at hany2
      ((try dsimp only [awp]); (conv => whnf))
      refine aidx hql ?_
      ((try dsimp only [awp]); (conv => whnf))
      refine And.intro (fun he => ?_) (fun he => ?_)
      · rw [if_pos (hhit (List.any_eq_true.2 ⟨_, List.getElem_mem hql, decide_eq_true he.symm⟩))] at hR
        subst hR
        ((try dsimp only [awp]); (conv => whnf))
        (refine FinSpec.mono ?_; (conv => whnf); refine ⟨?_, rfl⟩; (conv => whnf))
        (repeat' (first | exact rfl | exact trivial | exact HWk.refl rfl | exact leRL_refl _ | (refine And.intro ?_ ?_)))
      · ((try dsimp only [awp]); (conv => whnf))
        (refine ⟨inr64 (by omega) (by omega), ?_⟩; (conv => whnf))
        refine ⟨q + 1, ?_, ?_, ?_⟩
        · exact ⟨hql, by rw [hany2]; exact decide_eq_false (fun e => he e.symm)⟩
        · (repeat' (first | exact rfl | exact trivial | exact HWk.refl rfl | exact leRL_refl _ | (refine And.intro ?_ ?_)))
        · omega
    · have hql : q = l.length := by have : ¬ q < l.length := by simpa using hh
                                    omega
      subst hql
      rw [List.take_length] at hnq
      ((try dsimp only [awp]); (conv => whnf))
      (refine ⟨inr64 (by omega) (by omega), ?_⟩; (conv => whnf))
      refine ⟨k + 1, ?_, ?_, ?_⟩
      · exact ⟨hkl, by rw [hany, hnq]⟩
      · refine ⟨?_, .mk ?_ ⟨by simp, by simp, by simp, trivial⟩⟩
        · (repeat' (first | exact rfl | exact trivial | exact HWk.refl rfl | exact leRL_refl _ | (refine And.intro ?_ ?_)))
        · (repeat' (first | exact rfl | exact trivial | exact HWk.refl rfl | exact leRL_refl _ | (refine And.intro ?_ ?_)))
      · omega
  · have hkl : k = d.gates.length := by have : ¬ k < d.gates.length := by simpa using h
                                        omega
    subst hkl
    rw [List.take_length, ← hheld] at hn
    rw [if_neg (by rw [hn]; simp)] at hR
    subst hR
    have hnl := nandN_le (a := f) (b := 2 ^ j) (by omega)
    ((try dsimp only [awp]); (conv => whnf))
    (refine ADraw.auto (by kernel_rfl) ?_; (conv => whnf))
    refine ⟨by omega, ?_⟩
    rw [shl_one (by omega)]
    (conv => whnf)
    rw [andNot_nat (by omega)]
    ((try dsimp only [awp]); (conv => whnf))
    refine ACallP.pure _ _ ?_ ⟨rfl, rfl⟩ (c_Settle48 d (nandN f (2 ^ j)) memo (by omega) hc hmo) ?_
    · (repeat' (first | exact rfl | exact trivial | exact HWk.refl rfl | exact leRL_refl _ | (refine And.intro ?_ ?_)))
    ((try dsimp only [awp]); (conv => whnf))
    (refine FinSpec.mono ?_; (conv => whnf); refine ⟨?_, rfl⟩; (conv => whnf))
    (repeat' (first | exact rfl | exact trivial | exact HWk.refl rfl | exact leRL_refl _ | (refine And.intro ?_ ?_)))
end S

open Go Go.AL Go.Proofs
namespace S
set_option maxRecDepth 100000



theorem c_Rate48 (d : Dyn) (s : St) (i : Int) (hl : lightD d = true) (h0 : checkSR d s = 0) (R : AV) (hR : R = .tup [(rateR d s i).1.av, (rateR d s i).2.1.av, .int .i64 (rateR d s i).2.2]) : FnH Tryz.prog 26 [d.av, s.av, .int .i64 i] [] R [] := by
  obtain ⟨lf, lr, lg⟩ := lightD_rats hl
  obtain ⟨hc, hs⟩ := checkSR_ok h0
  have hT := checkR_ok hc
  have hv := hT.vars
  have hp := pow_int (n := d.vars.toNat) (by omega)
  have hpos := hs.pos
  have hlt := hs.lt
  have hmo := hs.memoOk
  obtain ⟨f, hf⟩ : ∃ f : Nat, s.failed = f := ⟨s.failed.toNat, by omega⟩
  obtain ⟨fl, memo⟩ := s
  simp only at hf
  subst hf
  have hlt : (f : Int) < (2 ^ d.vars.toNat : Nat) := hlt
  have hmo : MemoOk d memo := hmo
  have hml : memo.length = d.gates.length := hmo.len
  have n0 : ¬ checkSR d ⟨f, memo⟩ ≠ 0 := by simp [h0]
  obtain ⟨hlf, hlr⟩ := checkR_lens hc
  have hg := hT.gates
  have h16 := args16 hc
  have cR := c_Repair48 d ⟨f, memo⟩ i h0 _ rfl
  have hRR : rateR d ⟨f, memo⟩ i = if i < 0 then (zr, zr, 10) else if d.vars ≤ i then (zr, zr, 10) else if f.testBit i.toNat = true then (zr, if heldR d (valuesR d f memo) i = true then zr else d.repair.getD i.toNat zr, 0) else (rateF d memo i, zr, 0) := by
    unfold rateR; rw [if_neg n0]; rfl
  have hPP : ¬ i < 0 → ¬ d.vars ≤ i → f.testBit i.toNat = true → (repairR d ⟨f, memo⟩ i).2 = if heldR d (valuesR d f memo) i = true then 12 else 0 := by
    intro a b c
    unfold repairR
    rw [if_neg n0, if_neg a, if_neg b]
    have : ¬ (St.failed ⟨f, memo⟩).toNat.testBit i.toNat = false := by show ¬ f.testBit i.toNat = false; simp [c]
    rw [if_neg this]
    show (if heldR d (valuesR d f memo) i = true then _ else _ : St × Int).2 = _
    split <;> rfl
  obtain ⟨RP, hRP⟩ : ∃ RP, repairR d ⟨f, memo⟩ i = RP := ⟨_, rfl⟩
  rw [hRP] at cR hPP
  obtain ⟨rs, re⟩ := RP
  dsimp only at hPP cR
  rw [hRR] at hR
  clear hRR
  refine FnH.intro lay mixed Tryz.func26 (by kernel_rfl) rfl (by kernel_rfl) rfl fun hok => ?_
  ((try dsimp only [argC, succC]); (try dsimp only [awp]); (conv => whnf))
  refine And.intro (fun n1 => ?_) (fun n1 => ?_)
  · rw [if_pos n1] at hR
    subst hR
    ((try dsimp only [awp]); (conv => whnf))
    (refine FinSpec.mono ?_; (conv => whnf); refine ⟨?_, rfl⟩; (conv => whnf))
    (repeat' (first | exact rfl | exact trivial | exact HWk.refl rfl | exact leRL_refl _ | (refine And.intro ?_ ?_)))
  rw [if_neg n1] at hR
  ((try dsimp only [awp]); (conv => whnf))
  refine And.intro (fun n2 => ?_) (fun n2 => ?_)
  · rw [if_pos n2] at hR
    subst hR
    ((try dsimp only [awp]); (conv => whnf))
    (refine FinSpec.mono ?_; (conv => whnf); refine ⟨?_, rfl⟩; (conv => whnf))
    (repeat' (first | exact rfl | exact trivial | exact HWk.refl rfl | exact leRL_refl _ | (refine And.intro ?_ ?_)))
  rw [if_neg n2] at hR
  obtain ⟨j, rfl⟩ : ∃ j : Nat, i = j := ⟨i.toNat, by omega⟩
  have hj2 : 2 ^ j < 2 ^ d.vars.toNat := Nat.pow_lt_pow_right (by omega) (by omega)
  rw [Int.toNat_natCast] at hR hPP
  ((try dsimp only [awp]); (conv => whnf))
  refine ⟨by omega, ?_⟩
  have hb := bit_test (a := f) (i := j) (by omega) (by omega)
  (conv => whnf)
  rw [hb]
  ((try dsimp only [awp]); (conv => whnf))
  refine And.intro (fun n3 => ?_) (fun n3 => ?_)
  · have n3 : f.testBit j = true := by
      cases hbit : f.testBit j with
      | true => rfl
      | false => rw [hbit] at n3; simp at n3
    have hPP := hPP n1 n2 n3
    rw [if_pos n3] at hR
    ((try dsimp only [awp]); (conv => whnf))
    refine .pure _ _ ?_ ⟨rfl, rfl⟩ cR fun _ => ?_
    · (repeat' (first | exact rfl | exact trivial | exact HWk.refl rfl | exact leRL_refl _ | (refine And.intro ?_ ?_)))
    by_cases n4 : heldR d (valuesR d f memo) j = true
    · rw [if_pos n4] at hR hPP
      subst hR
      rw [hPP]
      ((try dsimp only [awp]); (conv => whnf))
      refine And.intro (fun h => absurd h (by decide)) (fun _ => ?_)
      ((try dsimp only [awp]); (conv => whnf))
      (refine ADraw.all (by kernel_rfl) ?_; (conv => whnf); (repeat' (first | exact trivial | (refine And.intro ?_ ?_ <;> (conv => whnf)))))
      all_goals
        (refine FinSpec.mono ?_; (conv => whnf); refine ⟨?_, rfl⟩; (conv => whnf))
        (repeat' (first | exact rfl | exact trivial | exact HWk.refl rfl | exact leRL_refl _ | (refine And.intro ?_ ?_)))
    · rw [if_neg n4] at hR hPP
      subst hR
      rw [hPP]
      ((try dsimp only [awp]); (conv => whnf))
      refine And.intro (fun _ => ?_) (fun h => absurd rfl h)
      ((try dsimp only [awp]); (conv => whnf))
      refine aidxN zr (show j < d.repair.length by omega) ?_
      ((try dsimp only [awp]); (conv => whnf))
      (refine ADraw.all (by kernel_rfl) ?_; (conv => whnf); (repeat' (first | exact trivial | (refine And.intro ?_ ?_ <;> (conv => whnf)))))
      all_goals
        (refine FinSpec.mono ?_; (conv => whnf); refine ⟨?_, rfl⟩; (conv => whnf))
        (repeat' (first | exact rfl | exact trivial | exact HWk.refl rfl | exact leRL_refl _ | (refine And.intro ?_ ?_)))
  have n3 : f.testBit j = false := by
    cases hbit : f.testBit j with
    | false => rfl
    | true => rw [hbit] at n3; simp at n3
  rw [if_neg (by rw [n3]; simp)] at hR
  have hfm := lf _ (getD_mem (d := zr) (show j < d.fail.length by omega))
  have hrF : rateF d memo j = if dormAt d memo j < 0 then d.fail.getD j zr else mulR (d.fail.getD j zr) (d.gates.getD (dormAt d memo j).toNat default).dorm := rfl
  clear cR hPP
  ((try dsimp only [awp]); (conv => whnf))
  refine aidxN zr (show j < d.fail.length by omega) ?_
  generalize d.fail.getD j zr = fr at *
  ((try dsimp only [awp]); (conv => whnf))
  refine LoopE.of <| LoopSpec.inv (.refl _ _) (fun k : Nat => k ≤ d.gates.length) (fun k => [(55, .int .i64 k)])
    (fun k => [(3, .box zr.av), (2, .box (if 0 ≤ dormAt d memo j ∧ dormAt d memo j < k then mulR fr (d.gates.getD (dormAt d memo j).toNat default).dorm else fr).av), (1, .box (St.av ⟨f, memo⟩)), (0, .box d.av)]) (fun k => d.gates.length - k) 0 ?_ (fun _ => rfl) ?_ ?_
  · exact Nat.zero_le _
  · rw [show (if 0 ≤ dormAt d memo j ∧ dormAt d memo j < ((0 : Nat) : Int) then mulR fr (d.gates.getD (dormAt d memo j).toNat default).dorm else fr) = fr from if_neg (by omega)]
    refine ⟨?_, .mk ?_ ⟨by simp, by simp, by simp, by simp, trivial⟩⟩
    · (repeat' (first | exact rfl | exact trivial | exact HWk.refl rfl | exact leRL_refl _ | (refine And.intro ?_ ?_)))
    · (repeat' (first | exact rfl | exact trivial | exact HWk.refl rfl | exact leRL_refl _ | (refine And.intro ?_ ?_)))
  intro k hk _
  generalize hr : (if 0 ≤ dormAt d memo j ∧ dormAt d memo j < (k : Int) then mulR fr (d.gates.getD (dormAt d memo j).toNat default).dorm else fr) = r
  ((try dsimp only [awp]); (conv => whnf))
  refine And.intro (fun h => ?_) (fun h => ?_)
  · have hkl : k < d.gates.length := by simpa using h
    have hm := List.getElem_mem hkl
    have hgd := lg _ hm
    have hl16 := h16 k hkl
    have hdo : dormant d memo j k = (decide ((d.gates[k]).kind = 7) && decide (0 ≤ idxP (fun y => decide ((j : Int) = y)) (d.gates[k]).args) && decide (idxP (fun y => decide ((j : Int) = y)) (d.gates[k]).args ≠ memo.getD k 0)) := by unfold dormant; rw [getD_lt hkl]
    have hyes : dormant d memo j k = true → r = fr ∧ (if 0 ≤ dormAt d memo j ∧ dormAt d memo j < ((k + 1 : Nat) : Int) then mulR fr (d.gates.getD (dormAt d memo j).toNat default).dorm else fr) = mulR fr (d.gates[k]).dorm := by
      intro h
      have e := dormAt_is hc hkl h
      rw [e] at hr ⊢
      rw [if_neg (by omega)] at hr
      rw [if_pos (by omega), Int.toNat_natCast, getD_lt hkl]
      exact ⟨hr.symm, rfl⟩
    have hno : dormant d memo j k = false → (if 0 ≤ dormAt d memo j ∧ dormAt d memo j < ((k + 1 : Nat) : Int) then mulR fr (d.gates.getD (dormAt d memo j).toNat default).dorm else fr) = r := by
      intro h
      have e := dormAt_not h
      rw [← hr]
      by_cases h2 : 0 ≤ dormAt d memo j ∧ dormAt d memo j < (k : Int)
      · rw [if_pos h2, if_pos (by omega)]
      · rw [if_neg h2, if_neg (by omega)]
    have hidx : (d.gates[k]).kind = 7 → ∀ q (hq : q < (d.gates[k]).args.length), ((d.gates[k]).args[q] = j ↔ idxP (fun y => decide ((j : Int) = y)) (d.gates[k]).args = q) := by
      intro h7 q hq
      constructor
      · intro e
        have := spare_idx hc hkl h7 hq
        rw [e] at this; exact this
      · intro e
        rcases idxP_cases (fun y => decide ((j : Int) = y)) (d.gates[k]).args with ⟨h1, _⟩ | ⟨p, hp, h1, h2, _⟩
        · omega
        · obtain rfl : p = q := by omega
          exact (of_decide_eq_true h2).symm
    have hxl : idxP (fun y => decide ((j : Int) = y)) (d.gates[k]).args < ((d.gates[k]).args.length : Int) := by
      rcases idxP_cases (fun y => decide ((j : Int) = y)) (d.gates[k]).args with ⟨h1, _⟩ | ⟨p, hp, h1, _⟩ <;> omega
    obtain ⟨nr, hnr⟩ : ∃ nr, (if 0 ≤ dormAt d memo j ∧ dormAt d memo j < ((k + 1 : Nat) : Int) then mulR fr (d.gates.getD (dormAt d memo j).toNat default).dorm else fr) = nr := ⟨_, rfl⟩
    rw [hnr] at hyes hno
    ((try dsimp only [awp]); (conv => whnf))
    refine aidx hkl ?_
    generalize d.gates[k] = g at *
    generalize idxP (fun y => decide ((j : Int) = y)) g.args = x at *
    generalize dormant d memo j k = D at *
    ((try dsimp only [awp]); (conv => whnf))
    refine And.intro (fun h7 => ?_) (fun h7 => ?_)
    · have hD : D = false := by rw [hdo]; simp [h7]
      rw [hno hD] at hnr
      ((try dsimp only [awp]); (conv => whnf))
      (refine ⟨inr64 (by omega) (by omega), ?_⟩; (conv => whnf))
      refine ⟨k + 1, ?_, ?_, ?_⟩
      · exact hkl
      · rw [hnr]
        refine ⟨?_, .mk ?_ ⟨by simp, by simp, by simp, by simp, trivial⟩⟩
        · (repeat' (first | exact rfl | exact trivial | exact HWk.refl rfl | exact leRL_refl _ | (refine And.intro ?_ ?_)))
        · (repeat' (first | exact rfl | exact trivial | exact HWk.refl rfl | exact leRL_refl _ | (refine And.intro ?_ ?_)))
      · omega
    have h7 : g.kind = 7 := by omega
    have hidx := hidx h7
    rw [h7] at hdo
    simp only [decide_true, Bool.true_and] at hdo
    ((try dsimp only [awp]); (conv => whnf))
    refine LoopE.of <| LoopSpec.inv (.refl _ _) (fun q : Nat => q ≤ g.args.length) (fun q => [(66, .int .i64 q)])
      (fun q => [(4, .box g.av), (3, .box zr.av), (2, .box (if D = true ∧ x < q then nr else r).av), (1, .box (St.av ⟨f, memo⟩)), (0, .box d.av)]) (fun q => g.args.length - q) 0 ?_ (fun _ => rfl) ?_ ?_
    · exact Nat.zero_le _
    · have : ¬ (D = true ∧ x < ((0 : Nat) : Int)) := by
        rintro ⟨h1, h2⟩
        rw [h1] at hdo
        simp at hdo
        omega
      rw [if_neg this]
      refine ⟨?_, .mk ?_ ⟨by simp, by simp, by simp, by simp, by simp, trivial⟩⟩
      · (repeat' (first | exact rfl | exact trivial | exact HWk.refl rfl | exact leRL_refl _ | (refine And.intro ?_ ?_)))
      · (repeat' (first | exact rfl | exact trivial | exact HWk.refl rfl | exact leRL_refl _ | (refine And.intro ?_ ?_)))
    intro q hq _
    generalize hrq : (if D = true ∧ x < (q : Int) then nr else r) = rq
    ((try dsimp only [awp]); (conv => whnf))
    refine And.intro (fun hh => ?_) (fun hh => ?_)
    · have hql : q < g.args.length := by simpa using hh
      have hidx := hidx q hql
      ((try dsimp only [awp]); (conv => whnf))
      refine aidx hql ?_
      generalize g.args[q] = a at *
      ((try dsimp only [awp]); (conv => whnf))
      refine And.intro (fun he => ?_) (fun he => ?_)
      · have hxq := hidx.1 he
        ((try dsimp only [awp]); (conv => whnf))
        refine aidxN 0 (show k < memo.length by omega) ?_
        ((try dsimp only [awp]); (conv => whnf))
        refine And.intro (fun hne => ?_) (fun hne => ?_)
        · have hD : D = true := by rw [hdo, hxq]; simp only [Bool.and_eq_true, decide_eq_true_eq]; omega
          obtain ⟨e1, e2⟩ := hyes hD
          rw [if_neg (by omega)] at hrq
          subst hrq
          subst e1
          have e : (if D = true ∧ x < ((q + 1 : Nat) : Int) then nr else r) = nr := if_pos ⟨hD, by omega⟩
          ((try dsimp only [awp]); (conv => whnf))
          refine .pure _ _ ?_ ⟨rfl, rfl⟩ (c_mulRef r g.dorm (by omega) (by omega) (by omega) (by omega)) fun _ => ?_
          · exact leL_refl _
          rw [← e2]
          ((try dsimp only [awp]); (conv => whnf))
          (refine ⟨inr64 (by omega) (by omega), ?_⟩; (conv => whnf))
          refine ⟨q + 1, ?_, ?_, ?_⟩
          · exact hql
          · rw [e]
            refine ⟨?_, .mk ?_ ⟨by simp, by simp, by simp, by simp, by simp, trivial⟩⟩
            · (repeat' (first | exact rfl | exact trivial | exact HWk.refl rfl | exact leRL_refl _ | (refine And.intro ?_ ?_)))
            · (repeat' (first | exact rfl | exact trivial | exact HWk.refl rfl | exact leRL_refl _ | (refine And.intro ?_ ?_)))
          · omega
        · have hD : D = false := by
            rw [hdo, hxq, Bool.and_eq_false_iff]
            right
            exact decide_eq_false (by omega)
          have e : (if D = true ∧ x < ((q + 1 : Nat) : Int) then nr else r) = r := if_neg (by rw [hD]; simp)
          rw [if_neg (by rw [hD]; simp)] at hrq
          subst hrq
          ((try dsimp only [awp]); (conv => whnf))
          (refine ⟨inr64 (by omega) (by omega), ?_⟩; (conv => whnf))
          refine ⟨q + 1, ?_, ?_, ?_⟩
          · exact hql
          · rw [e]
            refine ⟨?_, .mk ?_ ⟨by simp, by simp, by simp, by simp, by simp, trivial⟩⟩
            · (repeat' (first | exact rfl | exact trivial | exact HWk.refl rfl | exact leRL_refl _ | (refine And.intro ?_ ?_)))
            · (repeat' (first | exact rfl | exact trivial | exact HWk.refl rfl | exact leRL_refl _ | (refine And.intro ?_ ?_)))
          · omega
      · have hxq : ¬ x = q := fun e => he (hidx.2 e)
        have e : (if D = true ∧ x < ((q + 1 : Nat) : Int) then nr else r) = rq := by
          rw [← hrq]
          by_cases h2 : D = true ∧ x < (q : Int)
          · rw [if_pos h2, if_pos ⟨h2.1, by omega⟩]
          · rw [if_neg h2, if_neg (fun h => h2 ⟨h.1, by omega⟩)]
        ((try dsimp only [awp]); (conv => whnf))
        (refine ⟨inr64 (by omega) (by omega), ?_⟩; (conv => whnf))
        refine ⟨q + 1, ?_, ?_, ?_⟩
        · exact hql
        · rw [e]
          refine ⟨?_, .mk ?_ ⟨by simp, by simp, by simp, by simp, by simp, trivial⟩⟩
          · (repeat' (first | exact rfl | exact trivial | exact HWk.refl rfl | exact leRL_refl _ | (refine And.intro ?_ ?_)))
          · (repeat' (first | exact rfl | exact trivial | exact HWk.refl rfl | exact leRL_refl _ | (refine And.intro ?_ ?_)))
        · omega
    · have hql : q = g.args.length := by have : ¬ q < g.args.length := by simpa using hh
                                         omega
      have e : rq = nr := by
        rw [← hrq]
        cases hD : D with
        | false => rw [if_neg (by simp)]; exact (hno hD).symm
        | true =>
          rw [hD] at hdo
          simp only [Bool.true_eq, Bool.and_eq_true, decide_eq_true_eq] at hdo
          rw [if_pos ⟨rfl, by omega⟩]
      subst e
      ((try dsimp only [awp]); (conv => whnf))
      (refine ⟨inr64 (by omega) (by omega), ?_⟩; (conv => whnf))
      refine ⟨k + 1, ?_, ?_, ?_⟩
      · exact hkl
      · rw [hnr]
        refine ⟨?_, .mk ?_ ⟨by simp, by simp, by simp, by simp, trivial⟩⟩
        · (repeat' (first | exact rfl | exact trivial | exact HWk.refl rfl | exact leRL_refl _ | (refine And.intro ?_ ?_)))
        · (repeat' (first | exact rfl | exact trivial | exact HWk.refl rfl | exact leRL_refl _ | (refine And.intro ?_ ?_)))
      · omega
  have hkl : k = d.gates.length := by have : ¬ k < d.gates.length := by simpa using h
                                      omega
  subst hkl
  have hfin : r = rateF d memo j := by
    rw [← hr, hrF]
    rcases dormAt_lt (d := d) (memo := memo) (i := (j : Int)) with h1 | ⟨k, h1, h2, _⟩
    · rw [h1, if_neg (by omega), if_pos (by omega)]
    · rw [h1, if_pos (by omega), if_neg (by omega)]
  subst hfin
  subst hR
  ((try dsimp only [awp]); (conv => whnf))
  (refine FinSpec.mono ?_; (conv => whnf); refine ⟨?_, rfl⟩; (conv => whnf))
  (repeat' (first | exact rfl | exact trivial | exact HWk.refl rfl | exact leRL_refl _ | (refine And.intro ?_ ?_)))
end S

open Go Go.AL Go.Proofs
namespace S
set_option maxRecDepth 100000

theorem sameSt (a : St) : FnH Tryz.prog 20 [a.av, a.av] [] .tt [] := (c_SameState a a).weak (R' := .tt) (by show decide _ = true; simp)
theorem sameRat (a : Rat) : FnH Tryz.prog 23 [a.av, a.av] [] .tt [] := (c_ratEq a a).weak (R' := .tt) (by show decide _ = true; simp)
theorem sameBools (a : List Bool) : FnH Tryz.prog 27 [bL a, bL a] [] .tt [] := (c_bools a a).weak (R' := .tt) (by show decide _ = true; simp)





theorem c_DynamicSteps (h1 : OneC) (d : Dyn) (s : St) (i : Int) : FnH Tryz.prog 3 [d.av, s.av, .int .i64 i] [] (.bool true) [] := by
  have c0 := (c_awake h1).weak (R' := .tt) rfl
  have cl := c_LightD d
  cases hL : lightD d with
  | false =>
    rw [hL] at cl
    have cl := cl.weak (R' := .ff) rfl
    refine FnH.intro lay mixed Tryz.func3 (by kernel_rfl) rfl (by kernel_rfl) rfl fun hok => ?_
    ((try dsimp only [argC, succC]); (try dsimp only [awp]); (conv => whnf))
    refine .pure _ _ ?_ ⟨rfl, rfl⟩ c0 fun _ => ?_
    · exact leL_refl _
    ((try dsimp only [awp]); (conv => whnf))
    refine .pure _ _ ?_ ⟨rfl, rfl⟩ cl fun _ => ?_
    · exact leL_refl _
    ((try dsimp only [awp]); (conv => whnf))
    refine .pure _ _ ?_ ⟨rfl, rfl⟩ c0 fun _ => ?_
    · exact leL_refl _
    ((try dsimp only [awp]); (conv => whnf))
    (refine FinSpec.mono ?_; (conv => whnf); refine ⟨?_, rfl⟩; (conv => whnf))
    (repeat' (first | exact rfl | exact trivial | exact HWk.refl rfl | exact leRL_refl _ | (refine And.intro ?_ ?_)))
  | true =>
  rw [hL] at cl
  have cl := cl.weak (R' := .tt) rfl
  have hd := lightD_C hL
  by_cases hm : 100 < s.memo.length
  · refine FnH.intro lay mixed Tryz.func3 (by kernel_rfl) rfl (by kernel_rfl) rfl fun hok => ?_
    ((try dsimp only [argC, succC]); (try dsimp only [awp]); (conv => whnf))
    refine .pure _ _ ?_ ⟨rfl, rfl⟩ c0 fun _ => ?_
    · exact leL_refl _
    ((try dsimp only [awp]); (conv => whnf))
    refine .pure _ _ ?_ ⟨rfl, rfl⟩ cl fun _ => ?_
    · exact leL_refl _
    ((try dsimp only [awp]); (conv => whnf))
    refine And.intro (fun _ => ?_) (fun h => absurd (by simp; omega) h)
    ((try dsimp only [awp]); (conv => whnf))
    refine .pure _ _ ?_ ⟨rfl, rfl⟩ c0 fun _ => ?_
    · exact leL_refl _
    ((try dsimp only [awp]); (conv => whnf))
    (refine FinSpec.mono ?_; (conv => whnf); refine ⟨?_, rfl⟩; (conv => whnf))
    (repeat' (first | exact rfl | exact trivial | exact HWk.refl rfl | exact leRL_refl _ | (refine And.intro ?_ ?_)))
  have cF := c_Fail d s i hd _ rfl
  have cP := c_Repair d s i hd _ rfl
  have cR := c_Rate d s i hL _ rfl
  have cV := c_Values d s hd _ rfl
  have cT := c_Top d s hd _ rfl
  have cS := c_Start d hd _ rfl
  have cC := c_Check d hd _ rfl
  have cC48 := c_Check48 h1 d hL _ rfl
  by_cases hc : checkR d ≠ 0
  · have hcs : checkSR d s = checkR d := if_pos hc
    have hcs0 : checkSR d s ≠ 0 := by rw [hcs]; exact hc
    rw [show failR d s i = (z0, checkR d) by unfold failR; rw [if_pos hcs0, hcs]] at cF
    rw [show repairR d s i = (z0, checkR d) by unfold repairR; rw [if_pos hcs0, hcs]] at cP
    rw [show rateR d s i = (zr, zr, checkR d) by unfold rateR; rw [if_pos hcs0, hcs]] at cR
    rw [show valuesGR d s = ([], checkR d) by unfold valuesGR; rw [if_pos hcs0, hcs]] at cV
    rw [show topR d s = (false, checkR d) by unfold topR; rw [if_pos hcs0, hcs]] at cT
    rw [show startR d = (z0, checkR d) by unfold startR; rw [if_pos hc]] at cS
    have cN := c_Num (checkR d)
    dsimp only at cF cP cR cV cT cS
    rw [errAV_ne hc] at cF cP cR cV cT cS cC cN
    have cT := cT.weak (R' := .tup [.ff, .ifc 104 (.int .i64 (checkR d))]) ⟨rfl, le0_refl _, trivial⟩
    have he := hc
    clear hcs hcs0
    generalize checkR d = e at *
    refine FnH.intro lay mixed Tryz.func3 (by kernel_rfl) rfl (by kernel_rfl) rfl fun hok => ?_
    ((try dsimp only [argC, succC]); (try dsimp only [awp]); (conv => whnf))
    refine .pure _ _ ?_ ⟨rfl, rfl⟩ c0 fun _ => ?_
    · exact leL_refl _
    ((try dsimp only [awp]); (conv => whnf))
    refine .pure _ _ ?_ ⟨rfl, rfl⟩ cl fun _ => ?_
    · exact leL_refl _
    ((try dsimp only [awp]); (conv => whnf))
    refine And.intro (fun h => absurd (by simp at h; omega) hm) (fun _ => ?_)
    ((try dsimp only [awp]); (conv => whnf))
    refine .pure _ _ ?_ ⟨rfl, rfl⟩ cF fun _ => ?_
    · exact leL_refl _
    ((try dsimp only [awp]); (conv => whnf))
    refine .pure _ _ ?_ ⟨rfl, rfl⟩ cP fun _ => ?_
    · exact leL_refl _
    ((try dsimp only [awp]); (conv => whnf))
    refine .pure _ _ ?_ ⟨rfl, rfl⟩ cR fun _ => ?_
    · exact leL_refl _
    ((try dsimp only [awp]); (conv => whnf))
    refine .pure _ _ ?_ ⟨rfl, rfl⟩ cV fun _ => ?_
    · exact leL_refl _
    ((try dsimp only [awp]); (conv => whnf))
    refine .pure _ _ ?_ ⟨rfl, rfl⟩ cT fun _ => ?_
    · exact leL_refl _
    ((try dsimp only [awp]); (conv => whnf))
    refine .pure _ _ ?_ ⟨rfl, rfl⟩ cS fun _ => ?_
    · exact leL_refl _
    ((try dsimp only [awp]); (conv => whnf))
    refine .pure _ _ ?_ ⟨rfl, rfl⟩ cC48 fun _ => ?_
    · exact leL_refl _
    ((try dsimp only [awp]); (conv => whnf))
    refine .pure _ _ ?_ ⟨rfl, rfl⟩ cC fun _ => ?_
    · exact leL_refl _
    ((try dsimp only [awp]); (conv => whnf))
    refine .pure _ _ ?_ ⟨rfl, rfl⟩ cN fun _ => ?_
    · exact leL_refl _
    ((try dsimp only [awp]); (conv => whnf))
    refine And.intro (fun h => absurd rfl h) (fun _ => ?_)
    ((try dsimp only [awp]); (conv => whnf))
    refine And.intro (fun h => absurd h he) (fun _ => ?_)
    ((try dsimp only [awp]); (conv => whnf))
    refine .pure _ _ ?_ ⟨rfl, rfl⟩ cN fun _ => ?_
    · exact leL_refl _
    ((try dsimp only [awp]); (conv => whnf))
    refine And.intro (fun h => absurd rfl h) (fun _ => ?_)
    ((try dsimp only [awp]); (conv => whnf))
    refine .pure _ _ ?_ ⟨rfl, rfl⟩ (sameSt z0) fun _ => ?_
    · (repeat' (first | exact rfl | exact trivial | exact HWk.refl rfl | exact leRL_refl _ | (refine And.intro ?_ ?_)))
    ((try dsimp only [awp]); (conv => whnf))
    refine And.intro (fun _ => ?_) (fun h => absurd he h)
    ((try dsimp only [awp]); (conv => whnf))
    refine LoopE.step 6 ?_
    ((try dsimp only [awp]); (conv => whnf))
    refine And.intro (fun _ => ?_) (fun h => absurd (by simp) h)
    ((try dsimp only [awp]); (conv => whnf))
    refine AIdx.mk ⟨_, ⟨by decide, rfl⟩, ?_⟩
    ((try dsimp only [awp]); (conv => whnf))
    refine .pure _ _ ?_ ⟨rfl, rfl⟩ cN fun _ => ?_
    · (repeat' (first | exact rfl | exact trivial | exact HWk.refl rfl | exact leRL_refl _ | (refine And.intro ?_ ?_)))
    ((try dsimp only [awp]); (conv => whnf))
    refine And.intro (fun h => absurd rfl h) (fun _ => ?_)
    ((try dsimp only [awp]); (conv => whnf))
    (refine ⟨inr64 (by omega) (by omega), ?_⟩; (conv => whnf))
    refine And.intro (fun _ => ?_) (fun h => absurd (by simp) h)
    ((try dsimp only [awp]); (conv => whnf))
    refine AIdx.mk ⟨_, ⟨by decide, rfl⟩, ?_⟩
    ((try dsimp only [awp]); (conv => whnf))
    refine .pure _ _ ?_ ⟨rfl, rfl⟩ cN fun _ => ?_
    · (repeat' (first | exact rfl | exact trivial | exact HWk.refl rfl | exact leRL_refl _ | (refine And.intro ?_ ?_)))
    ((try dsimp only [awp]); (conv => whnf))
    refine And.intro (fun h => absurd rfl h) (fun _ => ?_)
    ((try dsimp only [awp]); (conv => whnf))
    (refine ⟨inr64 (by omega) (by omega), ?_⟩; (conv => whnf))
    refine And.intro (fun _ => ?_) (fun h => absurd (by simp) h)
    ((try dsimp only [awp]); (conv => whnf))
    refine AIdx.mk ⟨_, ⟨by decide, rfl⟩, ?_⟩
    ((try dsimp only [awp]); (conv => whnf))
    refine .pure _ _ ?_ ⟨rfl, rfl⟩ cN fun _ => ?_
    · (repeat' (first | exact rfl | exact trivial | exact HWk.refl rfl | exact leRL_refl _ | (refine And.intro ?_ ?_)))
    ((try dsimp only [awp]); (conv => whnf))
    refine And.intro (fun h => absurd rfl h) (fun _ => ?_)
    ((try dsimp only [awp]); (conv => whnf))
    (refine ⟨inr64 (by omega) (by omega), ?_⟩; (conv => whnf))
    refine And.intro (fun _ => ?_) (fun h => absurd (by simp) h)
    ((try dsimp only [awp]); (conv => whnf))
    refine AIdx.mk ⟨_, ⟨by decide, rfl⟩, ?_⟩
    ((try dsimp only [awp]); (conv => whnf))
    refine .pure _ _ ?_ ⟨rfl, rfl⟩ cN fun _ => ?_
    · (repeat' (first | exact rfl | exact trivial | exact HWk.refl rfl | exact leRL_refl _ | (refine And.intro ?_ ?_)))
    ((try dsimp only [awp]); (conv => whnf))
    refine And.intro (fun h => absurd rfl h) (fun _ => ?_)
    ((try dsimp only [awp]); (conv => whnf))
    (refine ⟨inr64 (by omega) (by omega), ?_⟩; (conv => whnf))
    refine And.intro (fun _ => ?_) (fun h => absurd (by simp) h)
    ((try dsimp only [awp]); (conv => whnf))
    refine AIdx.mk ⟨_, ⟨by decide, rfl⟩, ?_⟩
    ((try dsimp only [awp]); (conv => whnf))
    refine .pure _ _ ?_ ⟨rfl, rfl⟩ cN fun _ => ?_
    · (repeat' (first | exact rfl | exact trivial | exact HWk.refl rfl | exact leRL_refl _ | (refine And.intro ?_ ?_)))
    ((try dsimp only [awp]); (conv => whnf))
    refine And.intro (fun h => absurd rfl h) (fun _ => ?_)
    ((try dsimp only [awp]); (conv => whnf))
    (refine ⟨inr64 (by omega) (by omega), ?_⟩; (conv => whnf))
    refine And.intro (fun h => absurd h (by simp)) (fun _ => ?_)
    ((try dsimp only [awp]); (conv => whnf))
    refine .pure _ _ ?_ ⟨rfl, rfl⟩ (sameSt z0) fun _ => ?_
    · (repeat' (first | exact rfl | exact trivial | exact HWk.refl rfl | exact leRL_refl _ | (refine And.intro ?_ ?_)))
    ((try dsimp only [awp]); (conv => whnf))
    refine .pure _ _ ?_ ⟨rfl, rfl⟩ (sameSt z0) fun _ => ?_
    · (repeat' (first | exact rfl | exact trivial | exact HWk.refl rfl | exact leRL_refl _ | (refine And.intro ?_ ?_)))
    ((try dsimp only [awp]); (conv => whnf))
    refine .pure _ _ ?_ ⟨rfl, rfl⟩ (sameRat zr) fun _ => ?_
    · (repeat' (first | exact rfl | exact trivial | exact HWk.refl rfl | exact leRL_refl _ | (refine And.intro ?_ ?_)))
    ((try dsimp only [awp]); (conv => whnf))
    refine .pure _ _ ?_ ⟨rfl, rfl⟩ (sameRat zr) fun _ => ?_
    · (repeat' (first | exact rfl | exact trivial | exact HWk.refl rfl | exact leRL_refl _ | (refine And.intro ?_ ?_)))
    ((try dsimp only [awp]); (conv => whnf))
    refine And.intro (fun _ => ?_) (fun h => absurd rfl h)
    ((try dsimp only [awp]); (conv => whnf))
    (refine FinSpec.mono ?_; (conv => whnf); refine ⟨?_, rfl⟩; (conv => whnf))
    (repeat' (first | exact rfl | exact trivial | exact HWk.refl rfl | exact leRL_refl _ | (refine And.intro ?_ ?_)))
  have hc : checkR d = 0 := by simpa using hc
  rw [show startR d = ((startR d).1, 0) by unfold startR; rw [if_neg (by simp [hc])]] at cS
  have cS48 := c_Start48 d hc
  have cSt := c_State48 d s hc _ rfl
  dsimp only at cS
  rw [hc] at cC cC48
  rw [errAV_zero] at cS cC
  have cN0 := c_Num 0
  rw [errAV_zero] at cN0
  generalize (startR d).1 = o at *
  by_cases hcs : checkSR d s ≠ 0
  · rw [show failR d s i = (z0, checkSR d s) by unfold failR; rw [if_pos hcs]] at cF
    rw [show repairR d s i = (z0, checkSR d s) by unfold repairR; rw [if_pos hcs]] at cP
    rw [show rateR d s i = (zr, zr, checkSR d s) by unfold rateR; rw [if_pos hcs]] at cR
    rw [show valuesGR d s = ([], checkSR d s) by unfold valuesGR; rw [if_pos hcs]] at cV
    rw [show topR d s = (false, checkSR d s) by unfold topR; rw [if_pos hcs]] at cT
    have cN := c_Num (checkSR d s)
    dsimp only at cF cP cR cV cT
    rw [errAV_ne hcs] at cF cP cR cV cT cN
    have cT := cT.weak (R' := .tup [.ff, .ifc 104 (.int .i64 (checkSR d s))]) ⟨rfl, le0_refl _, trivial⟩
    have he := hcs
    generalize checkSR d s = e at *
    refine FnH.intro lay mixed Tryz.func3 (by kernel_rfl) rfl (by kernel_rfl) rfl fun hok => ?_
    ((try dsimp only [argC, succC]); (try dsimp only [awp]); (conv => whnf))
    refine .pure _ _ ?_ ⟨rfl, rfl⟩ c0 fun _ => ?_
    · exact leL_refl _
    ((try dsimp only [awp]); (conv => whnf))
    refine .pure _ _ ?_ ⟨rfl, rfl⟩ cl fun _ => ?_
    · exact leL_refl _
    ((try dsimp only [awp]); (conv => whnf))
    refine And.intro (fun h => absurd (by simp at h; omega) hm) (fun _ => ?_)
    ((try dsimp only [awp]); (conv => whnf))
    refine .pure _ _ ?_ ⟨rfl, rfl⟩ cF fun _ => ?_
    · exact leL_refl _
    ((try dsimp only [awp]); (conv => whnf))
    refine .pure _ _ ?_ ⟨rfl, rfl⟩ cP fun _ => ?_
    · exact leL_refl _
    ((try dsimp only [awp]); (conv => whnf))
    refine .pure _ _ ?_ ⟨rfl, rfl⟩ cR fun _ => ?_
    · exact leL_refl _
    ((try dsimp only [awp]); (conv => whnf))
    refine .pure _ _ ?_ ⟨rfl, rfl⟩ cV fun _ => ?_
    · exact leL_refl _
    ((try dsimp only [awp]); (conv => whnf))
    refine .pure _ _ ?_ ⟨rfl, rfl⟩ cT fun _ => ?_
    · exact leL_refl _
    ((try dsimp only [awp]); (conv => whnf))
    refine .pure _ _ ?_ ⟨rfl, rfl⟩ cS fun _ => ?_
    · exact leL_refl _
    ((try dsimp only [awp]); (conv => whnf))
    refine .pure _ _ ?_ ⟨rfl, rfl⟩ cC48 fun _ => ?_
    · exact leL_refl _
    ((try dsimp only [awp]); (conv => whnf))
    refine .pure _ _ ?_ ⟨rfl, rfl⟩ cC fun _ => ?_
    · exact leL_refl _
    ((try dsimp only [awp]); (conv => whnf))
    refine .pure _ _ ?_ ⟨rfl, rfl⟩ cN0 fun _ => ?_
    · exact leL_refl _
    ((try dsimp only [awp]); (conv => whnf))
    refine And.intro (fun h => absurd rfl h) (fun _ => ?_)
    ((try dsimp only [awp]); (conv => whnf))
    refine And.intro (fun _ => ?_) (fun h => absurd rfl h)
    ((try dsimp only [awp]); (conv => whnf))
    (refine ADraw.auto (by kernel_rfl) ?_; (conv => whnf))
    refine ACallP.pure _ _ ?_ ⟨rfl, rfl⟩ cS48 ?_
    · exact leL_refl _
    ((try dsimp only [awp]); (conv => whnf))
    refine ACallP.pure _ _ ?_ ⟨rfl, rfl⟩ (sameSt o) ?_
    · (repeat' (first | exact rfl | exact trivial | exact HWk.refl rfl | exact leRL_refl _ | (refine And.intro ?_ ?_)))
    ((try dsimp only [awp]); (conv => whnf))
    refine .pure _ _ ?_ ⟨rfl, rfl⟩ cSt fun _ => ?_
    · exact leL_refl _
    ((try dsimp only [awp]); (conv => whnf))
    refine And.intro (fun _ => ?_) (fun h => absurd he h)
    ((try dsimp only [awp]); (conv => whnf))
    refine LoopE.step 6 ?_
    ((try dsimp only [awp]); (conv => whnf))
    refine And.intro (fun _ => ?_) (fun h => absurd (by simp) h)
    ((try dsimp only [awp]); (conv => whnf))
    refine AIdx.mk ⟨_, ⟨by decide, rfl⟩, ?_⟩
    ((try dsimp only [awp]); (conv => whnf))
    refine .pure _ _ ?_ ⟨rfl, rfl⟩ cN fun _ => ?_
    · (repeat' (first | exact rfl | exact trivial | exact HWk.refl rfl | exact leRL_refl _ | (refine And.intro ?_ ?_)))
    ((try dsimp only [awp]); (conv => whnf))
    refine And.intro (fun h => absurd rfl h) (fun _ => ?_)
    ((try dsimp only [awp]); (conv => whnf))
    (refine ⟨inr64 (by omega) (by omega), ?_⟩; (conv => whnf))
    refine And.intro (fun _ => ?_) (fun h => absurd (by simp) h)
    ((try dsimp only [awp]); (conv => whnf))
    refine AIdx.mk ⟨_, ⟨by decide, rfl⟩, ?_⟩
    ((try dsimp only [awp]); (conv => whnf))
    refine .pure _ _ ?_ ⟨rfl, rfl⟩ cN fun _ => ?_
    · (repeat' (first | exact rfl | exact trivial | exact HWk.refl rfl | exact leRL_refl _ | (refine And.intro ?_ ?_)))
    ((try dsimp only [awp]); (conv => whnf))
    refine And.intro (fun h => absurd rfl h) (fun _ => ?_)
    ((try dsimp only [awp]); (conv => whnf))
    (refine ⟨inr64 (by omega) (by omega), ?_⟩; (conv => whnf))
    refine And.intro (fun _ => ?_) (fun h => absurd (by simp) h)
    ((try dsimp only [awp]); (conv => whnf))
    refine AIdx.mk ⟨_, ⟨by decide, rfl⟩, ?_⟩
    ((try dsimp only [awp]); (conv => whnf))
    refine .pure _ _ ?_ ⟨rfl, rfl⟩ cN fun _ => ?_
    · (repeat' (first | exact rfl | exact trivial | exact HWk.refl rfl | exact leRL_refl _ | (refine And.intro ?_ ?_)))
    ((try dsimp only [awp]); (conv => whnf))
    refine And.intro (fun h => absurd rfl h) (fun _ => ?_)
    ((try dsimp only [awp]); (conv => whnf))
    (refine ⟨inr64 (by omega) (by omega), ?_⟩; (conv => whnf))
    refine And.intro (fun _ => ?_) (fun h => absurd (by simp) h)
    ((try dsimp only [awp]); (conv => whnf))
    refine AIdx.mk ⟨_, ⟨by decide, rfl⟩, ?_⟩
    ((try dsimp only [awp]); (conv => whnf))
    refine .pure _ _ ?_ ⟨rfl, rfl⟩ cN fun _ => ?_
    · (repeat' (first | exact rfl | exact trivial | exact HWk.refl rfl | exact leRL_refl _ | (refine And.intro ?_ ?_)))
    ((try dsimp only [awp]); (conv => whnf))
    refine And.intro (fun h => absurd rfl h) (fun _ => ?_)
    ((try dsimp only [awp]); (conv => whnf))
    (refine ⟨inr64 (by omega) (by omega), ?_⟩; (conv => whnf))
    refine And.intro (fun _ => ?_) (fun h => absurd (by simp) h)
    ((try dsimp only [awp]); (conv => whnf))
    refine AIdx.mk ⟨_, ⟨by decide, rfl⟩, ?_⟩
    ((try dsimp only [awp]); (conv => whnf))
    refine .pure _ _ ?_ ⟨rfl, rfl⟩ cN fun _ => ?_
    · (repeat' (first | exact rfl | exact trivial | exact HWk.refl rfl | exact leRL_refl _ | (refine And.intro ?_ ?_)))
    ((try dsimp only [awp]); (conv => whnf))
    refine And.intro (fun h => absurd rfl h) (fun _ => ?_)
    ((try dsimp only [awp]); (conv => whnf))
    (refine ⟨inr64 (by omega) (by omega), ?_⟩; (conv => whnf))
    refine And.intro (fun h => absurd h (by simp)) (fun _ => ?_)
    ((try dsimp only [awp]); (conv => whnf))
    refine .pure _ _ ?_ ⟨rfl, rfl⟩ (sameSt z0) fun _ => ?_
    · (repeat' (first | exact rfl | exact trivial | exact HWk.refl rfl | exact leRL_refl _ | (refine And.intro ?_ ?_)))
    ((try dsimp only [awp]); (conv => whnf))
    refine .pure _ _ ?_ ⟨rfl, rfl⟩ (sameSt z0) fun _ => ?_
    · (repeat' (first | exact rfl | exact trivial | exact HWk.refl rfl | exact leRL_refl _ | (refine And.intro ?_ ?_)))
    ((try dsimp only [awp]); (conv => whnf))
    refine .pure _ _ ?_ ⟨rfl, rfl⟩ (sameRat zr) fun _ => ?_
    · (repeat' (first | exact rfl | exact trivial | exact HWk.refl rfl | exact leRL_refl _ | (refine And.intro ?_ ?_)))
    ((try dsimp only [awp]); (conv => whnf))
    refine .pure _ _ ?_ ⟨rfl, rfl⟩ (sameRat zr) fun _ => ?_
    · (repeat' (first | exact rfl | exact trivial | exact HWk.refl rfl | exact leRL_refl _ | (refine And.intro ?_ ?_)))
    ((try dsimp only [awp]); (conv => whnf))
    refine And.intro (fun _ => ?_) (fun h => absurd rfl h)
    ((try dsimp only [awp]); (conv => whnf))
    (refine FinSpec.mono ?_; (conv => whnf); refine ⟨?_, rfl⟩; (conv => whnf))
    (repeat' (first | exact rfl | exact trivial | exact HWk.refl rfl | exact leRL_refl _ | (refine And.intro ?_ ?_)))
  have hcs : checkSR d s = 0 := by simpa using hcs
  rw [hcs] at cSt
  have cF48 := c_Fail48 d s i hcs _ rfl
  have cP48 := c_Repair48 d s i hcs _ rfl
  have cR48 := c_Rate48 d s i hL hcs _ rfl
  have cT48 := c_Top48 d s hcs
  obtain ⟨hml, hpos, hlt, _⟩ := (checkSR_ok hcs).2
  have hp := pow_vars (checkR_ok hc)
  have cV48 := c_Values48 d s.failed.toNat s.memo (by omega) hc hml
  rw [show St.av ⟨(s.failed.toNat : Int), s.memo⟩ = s.av by show AV.ag [.int .i64 _, _] = AV.ag [.int .i64 s.failed, _]; rw [Int.toNat_of_nonneg hpos]] at cV48
  rw [show valuesGR d s = ((valuesR d s.failed.toNat s.memo).drop d.vars.toNat, 0) by unfold valuesGR; rw [if_neg (by simp [hcs])]] at cV
  rw [show topR d s = ((topR d s).1, 0) by unfold topR; rw [if_neg (by simp [hcs])]] at cT
  dsimp only at cV cT
  rw [errAV_zero] at cV cT
  have cB := sameBools ((valuesR d s.failed.toNat s.memo).drop d.vars.toNat)
  generalize (valuesR d s.failed.toNat s.memo).drop d.vars.toNat = V at *
  generalize (topR d s).1 = t at *
  generalize failR d s i = FF at *
  generalize repairR d s i = PP at *
  generalize rateR d s i = RR at *
  obtain ⟨fa, fe⟩ := FF
  obtain ⟨pa, pe⟩ := PP
  obtain ⟨ra, rb, re⟩ := RR
  dsimp only at cF cP cR cF48 cP48 cR48
  have nF := c_Num fe
  have nP := c_Num pe
  have nR := c_Num re
  have bF : bndB 0 (errAV fe) = true := by unfold errAV; split <;> rfl
  have bP : bndB 0 (errAV pe) = true := by unfold errAV; split <;> rfl
  have bR : bndB 0 (errAV re) = true := by unfold errAV; split <;> rfl
  generalize errAV fe = EF at *
  generalize errAV pe = EP at *
  generalize errAV re = ER at *
  refine FnH.intro lay mixed Tryz.func3 (by kernel_rfl) rfl (by kernel_rfl) rfl fun hok => ?_
  ((try dsimp only [argC, succC]); (try dsimp only [awp]); (conv => whnf))
  refine .pure _ _ ?_ ⟨rfl, rfl⟩ c0 fun _ => ?_
  · exact leL_refl _
  ((try dsimp only [awp]); (conv => whnf))
  refine .pure _ _ ?_ ⟨rfl, rfl⟩ cl fun _ => ?_
  · exact leL_refl _
  ((try dsimp only [awp]); (conv => whnf))
  refine And.intro (fun h => absurd (by simp at h; omega) hm) (fun _ => ?_)
  ((try dsimp only [awp]); (conv => whnf))
  refine .pure _ _ ?_ ⟨rfl, by simp [bndB, bndBL, bF]⟩ cF fun _ => ?_
  · exact leL_refl _
  ((try dsimp only [awp]); (conv => whnf))
  refine .pure _ _ ?_ ⟨rfl, by simp [bndB, bndBL, bP]⟩ cP fun _ => ?_
  · exact leL_refl _
  ((try dsimp only [awp]); (conv => whnf))
  refine .pure _ _ ?_ ⟨rfl, by simp [bndB, bndBL, bR]⟩ cR fun _ => ?_
  · exact leL_refl _
  ((try dsimp only [awp]); (conv => whnf))
  refine .pure _ _ ?_ ⟨rfl, rfl⟩ cV fun _ => ?_
  · exact leL_refl _
  ((try dsimp only [awp]); (conv => whnf))
  refine .pure _ _ ?_ ⟨rfl, rfl⟩ cT fun _ => ?_
  · exact leL_refl _
  ((try dsimp only [awp]); (conv => whnf))
  refine .pure _ _ ?_ ⟨rfl, rfl⟩ cS fun _ => ?_
  · exact leL_refl _
  ((try dsimp only [awp]); (conv => whnf))
  refine .pure _ _ ?_ ⟨rfl, rfl⟩ cC48 fun _ => ?_
  · exact leL_refl _
  ((try dsimp only [awp]); (conv => whnf))
  refine .pure _ _ ?_ ⟨rfl, rfl⟩ cC fun _ => ?_
  · exact leL_refl _
  ((try dsimp only [awp]); (conv => whnf))
  refine .pure _ _ ?_ ⟨rfl, rfl⟩ cN0 fun _ => ?_
  · exact leL_refl _
  ((try dsimp only [awp]); (conv => whnf))
  refine And.intro (fun h => absurd rfl h) (fun _ => ?_)
  ((try dsimp only [awp]); (conv => whnf))
  refine And.intro (fun _ => ?_) (fun h => absurd rfl h)
  ((try dsimp only [awp]); (conv => whnf))
  (refine ADraw.auto (by kernel_rfl) ?_; (conv => whnf))
  refine ACallP.pure _ _ ?_ ⟨rfl, rfl⟩ cS48 ?_
  · exact leL_refl _
  ((try dsimp only [awp]); (conv => whnf))
  refine ACallP.pure _ _ ?_ ⟨rfl, rfl⟩ (sameSt o) ?_
  · (repeat' (first | exact rfl | exact trivial | exact HWk.refl rfl | exact leRL_refl _ | (refine And.intro ?_ ?_)))
  ((try dsimp only [awp]); (conv => whnf))
  refine .pure _ _ ?_ ⟨rfl, rfl⟩ cSt fun _ => ?_
  · exact leL_refl _
  ((try dsimp only [awp]); (conv => whnf))
  refine And.intro (fun h => absurd rfl h) (fun _ => ?_)
  ((try dsimp only [awp]); (conv => whnf))
  refine .pure _ _ ?_ ⟨rfl, rfl⟩ cF48 fun _ => ?_
  · exact leL_refl _
  ((try dsimp only [awp]); (conv => whnf))
  refine .pure _ _ ?_ ⟨rfl, rfl⟩ cP48 fun _ => ?_
  · exact leL_refl _
  ((try dsimp only [awp]); (conv => whnf))
  refine .pure _ _ ?_ ⟨rfl, rfl⟩ cR48 fun _ => ?_
  · exact leL_refl _
  ((try dsimp only [awp]); (conv => whnf))
  refine .pure _ _ ?_ ⟨by simp [bndBL, bF], rfl⟩ nF fun _ => ?_
  · exact leL_refl _
  ((try dsimp only [awp]); (conv => whnf))
  refine And.intro (fun h => absurd rfl h) (fun _ => ?_)
  ((try dsimp only [awp]); (conv => whnf))
  refine .pure _ _ ?_ ⟨by simp [bndBL, bP], rfl⟩ nP fun _ => ?_
  · exact leL_refl _
  ((try dsimp only [awp]); (conv => whnf))
  refine And.intro (fun h => absurd rfl h) (fun _ => ?_)
  ((try dsimp only [awp]); (conv => whnf))
  refine .pure _ _ ?_ ⟨by simp [bndBL, bR], rfl⟩ nR fun _ => ?_
  · exact leL_refl _
  ((try dsimp only [awp]); (conv => whnf))
  refine And.intro (fun h => absurd rfl h) (fun _ => ?_)
  ((try dsimp only [awp]); (conv => whnf))
  refine .pure _ _ ?_ ⟨rfl, rfl⟩ (sameSt fa) fun _ => ?_
  · exact leL_refl _
  ((try dsimp only [awp]); (conv => whnf))
  refine .pure _ _ ?_ ⟨rfl, rfl⟩ (sameSt pa) fun _ => ?_
  · exact leL_refl _
  ((try dsimp only [awp]); (conv => whnf))
  refine .pure _ _ ?_ ⟨rfl, rfl⟩ (sameRat ra) fun _ => ?_
  · exact leL_refl _
  ((try dsimp only [awp]); (conv => whnf))
  refine .pure _ _ ?_ ⟨rfl, rfl⟩ (sameRat rb) fun _ => ?_
  · exact leL_refl _
  ((try dsimp only [awp]); (conv => whnf))
  refine .pure _ _ ?_ ⟨rfl, rfl⟩ cV48 fun _ => ?_
  · exact leL_refl _
  ((try dsimp only [awp]); (conv => whnf))
  refine .pure _ _ ?_ ⟨rfl, rfl⟩ cB fun _ => ?_
  · exact leL_refl _
  ((try dsimp only [awp]); (conv => whnf))
  refine .pure _ _ ?_ ⟨rfl, rfl⟩ cT48 fun _ => ?_
  · exact leL_refl _
  ((try dsimp only [awp]); (conv => whnf))
  (refine FinSpec.mono ?_; (conv => whnf); refine ⟨?_, rfl⟩; (conv => whnf))
  simp
end S
