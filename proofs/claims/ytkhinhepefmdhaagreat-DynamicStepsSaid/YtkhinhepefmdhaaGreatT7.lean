/-
  Contracts of functions of the program, over the logic of the texts before. Nothing is assumed.
-/
import Derived.Test.YtkhinhepefmdhaaGreatT6

open Go Go.AL Go.Proofs
namespace S
set_option maxRecDepth 100000

/-! ### states that are played (no program in sight) -/

theorem once_values (n : Nat) (old : List Int) : ∀ (l : List Gate) (ms : List Int) (v : List Bool), v.length = n + ms.length →
    (l.foldl (ostep old) (ms, v)).2 = l.foldl (vstep n (l.foldl (ostep old) (ms, v)).1) v ∧ ms <+: (l.foldl (ostep old) (ms, v)).1
  | [], ms, v, _ => ⟨rfl, List.prefix_refl _⟩
  | g :: l, ms, v, h => by
    simp only [List.foldl_cons]
    obtain ⟨h1, h2⟩ := once_values n old l (ostep old (ms, v) g).1 (ostep old (ms, v) g).2 (by simp [ostep, h]; omega)
    have h3 : (l.foldl (ostep old) (ostep old (ms, v) g)).1.getD ms.length 0 = memoR g v (old.getD ms.length 0) := by
      obtain ⟨t, ht⟩ := h2
      have ht : ms ++ [memoR g v (old.getD ms.length 0)] ++ t = _ := ht
      rw [← ht, List.getD_eq_getElem?_getD]
      simp
    refine ⟨?_, ?_⟩
    · refine Eq.trans h1 ?_
      congr 1
      show v ++ [gval g v (memoR g v (old.getD ms.length 0))] = vstep n _ v g
      unfold vstep
      rw [h, Nat.add_sub_cancel_left, h3]
    · refine List.IsPrefix.trans ?_ h2
      exact ⟨[memoR g v (old.getD ms.length 0)], rfl⟩

theorem onceR_values (d : Dyn) (f : Nat) (old : List Int) : (onceR d f old).2 = valuesR d f (onceR d f old).1 := by
  have := (once_values d.vars.toNat old d.gates [] (evs d.vars.toNat f) (by simp [evs_len])).1
  exact this

theorem onceR_memo {old : List Int} : ∀ (l : List Gate) (ms : List Int) (v : List Bool) (i : Nat) (h : i < l.length), ∃ v', (l.foldl (ostep old) (ms, v)).1.getD (ms.length + i) 0 = memoR l[i] v' (old.getD (ms.length + i) 0)
  | [], _, _, i, h => by simp at h
  | g :: l, ms, v, 0, _ => by
    refine ⟨v, ?_⟩
    simp only [List.foldl_cons]
    have key : ∀ (l : List Gate) (a : List Int) (w : List Bool), a <+: (l.foldl (ostep old) (a, w)).1 := by
      intro l
      induction l with
      | nil => intro a w; exact List.prefix_refl _
      | cons g l ih =>
        intro a w
        simp only [List.foldl_cons]
        refine List.IsPrefix.trans ?_ (ih _ _)
        exact ⟨[memoR g w (old.getD a.length 0)], rfl⟩
    obtain ⟨t, ht⟩ := key l (ms ++ [memoR g v (old.getD ms.length 0)]) (ostep old (ms, v) g).2
    have ht : ms ++ [memoR g v (old.getD ms.length 0)] ++ t = (l.foldl (ostep old) (ostep old (ms, v) g)).1 := ht
    rw [← ht, List.getD_eq_getElem?_getD]
    simp
  | g :: l, ms, v, i + 1, h => by
    simp only [List.foldl_cons]
    obtain ⟨v', hv⟩ := onceR_memo (old := old) l (ostep old (ms, v) g).1 (ostep old (ms, v) g).2 i (by simpa using h)
    refine ⟨v', ?_⟩
    have e : (ostep old (ms, v) g).1.length + i = ms.length + (i + 1) := by simp [ostep]; omega
    rw [e] at hv
    simpa using hv

theorem bstep_third (v : List Bool) : ∀ (l : List Int) (s : Bool × Bool × Int), (l.foldl (bstep v) s).2.2 = s.2.2 ∨ (l.foldl (bstep v) s).2.2 = 1
  | [], s => .inl rfl
  | a :: l, s => by
    simp only [List.foldl_cons]
    rcases bstep_third v l (bstep v s a) with h | h
    · rw [h]
      unfold bstep
      split
      · dsimp only
        split
        · exact .inr rfl
        · exact .inl rfl
      · exact .inl rfl
    · exact .inr h

theorem memoR_ok {g : Gate} {v : List Bool} {old : Int} (h : loG g ≤ old ∧ old ≤ hiG g) : loG g ≤ memoR g v old ∧ memoR g v old ≤ hiG g := by
  unfold loG hiG at *
  unfold memoR
  by_cases h6 : g.kind = 6
  · rw [if_pos h6]
    rw [if_neg (by omega), if_pos h6] at *
    have := bstep_third v g.args (false, false, old)
    unfold brokenR
    dsimp only at *
    split <;> omega
  · by_cases h7 : g.kind = 7
    · rw [if_neg h6, if_pos h7]
      rw [if_pos h7, if_neg h6, if_pos h7] at *
      unfold activeR
      split
      · exact h
      · rcases idxP_cases (fun a => !v.getD a.toNat false) g.args with ⟨h1, _⟩ | ⟨i, hi, h1, _⟩
        · rw [h1]; omega
        · rw [h1]; omega
    · rw [if_neg h6, if_neg h7]
      rw [if_neg h7, if_neg h6, if_neg h7] at *
      omega

/-- Memories that are within their bounds. -/
def MemoIn (d : Dyn) (memo : List Int) : Prop := memo.length = d.gates.length ∧ ∀ (k : Nat) (h : k < d.gates.length), loG d.gates[k] ≤ memo.getD k 0 ∧ memo.getD k 0 ≤ hiG d.gates[k]

theorem onceR_in {d : Dyn} {f : Nat} {old : List Int} (h : MemoIn d old) : MemoIn d (onceR d f old).1 := by
  refine ⟨?_, fun k hk => ?_⟩
  · unfold onceR; rw [(ostep_len old d.gates _).1]; simp
  · obtain ⟨v, hv⟩ := onceR_memo (old := old) d.gates [] (evs d.vars.toNat f) k hk
    simp only [List.length_nil, Nat.zero_add] at hv
    show loG d.gates[k] ≤ (onceR d f old).1.getD k 0 ∧ _
    unfold onceR
    rw [hv]
    exact memoR_ok (h.2 k hk)

theorem MemoIn.ok {d : Dyn} {memo : List Int} (h : MemoIn d memo) : MemoOk d memo := by
  refine ⟨h.1, fun i hi hk => ?_⟩
  have := (h.2 i hi).2
  unfold hiG at this
  rw [if_neg (by omega), if_pos hk] at this
  omega

theorem zeroIn {d : Dyn} (hd : TreeOk d) : MemoIn d (List.replicate d.gates.length 0) := by
  refine ⟨by simp, fun k hk => ?_⟩
  have h7 := hd.sp k hk
  rw [List.getD_eq_getElem?_getD, List.getElem?_replicate, if_pos hk]
  unfold loG hiG
  show (if _ then _ else _) ≤ (0 : Int) ∧ (0 : Int) ≤ _
  by_cases h : (d.gates[k]).kind = 7
  · have := h7 h
    rw [if_pos h, if_neg (by omega), if_pos h]
    omega
  · rw [if_neg h, if_neg h]
    split <;> omega

theorem orAll_bit {i : Nat} : ∀ (l : List Int) (f : Nat), (orAll l f).testBit i = (f.testBit i || l.any fun a => decide (a.toNat = i))
  | [], f => by simp [orAll]
  | a :: l, f => by
    have := orAll_bit (i := i) l (f ||| 2 ^ a.toNat)
    simp only [orAll, List.foldl_cons, List.any_cons] at this ⊢
    rw [this, Nat.testBit_or, Nat.testBit_two_pow, Bool.or_assoc]

theorem strike1_bit {v : List Bool} {f i : Nat} {g : Gate} (h : f.testBit i = true) : (strike1 v f g).testBit i = true := by
  unfold strike1
  split
  · rw [orAll_bit, h]; rfl
  · exact h

theorem strikeL_bit {v : List Bool} {i : Nat} : ∀ (l : List Gate) (f : Nat), f.testBit i = true → (l.foldl (strike1 v) f).testBit i = true
  | [], _, h => h
  | _ :: l, _, h => strikeL_bit l _ (strike1_bit h)

theorem strikeL_hit {v : List Bool} {a : Int} : ∀ (l : List Gate) (f : Nat), (∃ g ∈ l, g.kind = 8 ∧ v.getD (g.args.getD 0 0).toNat false = true ∧ a ∈ g.args.drop 1) → (l.foldl (strike1 v) f).testBit a.toNat = true
  | [], _, h => by simp at h
  | g :: l, f, ⟨x, hx, h8, hv, ha⟩ => by
    simp only [List.foldl_cons]
    rcases List.mem_cons.1 hx with rfl | hx
    · apply strikeL_bit
      unfold strike1
      rw [if_pos ⟨h8, hv⟩, orAll_bit]
      have : ((x.args.drop 1).any fun b => decide (b.toNat = a.toNat)) = true := List.any_eq_true.2 ⟨a, ha, by simp⟩
      rw [this]; simp
    · exact strikeL_hit l _ ⟨x, hx, h8, hv, ha⟩

/-- Its true triggers have their events failed. -/
def Settled (d : Dyn) (f : Nat) (memo : List Int) : Prop :=
  ∀ g ∈ d.gates, g.kind = 8 → (valuesR d f memo).getD (g.args.getD 0 0).toNat false = true → ∀ a ∈ g.args.drop 1, f.testBit a.toNat = true

theorem settled_of {d : Dyn} {f : Nat} {memo : List Int} (h : strike d (valuesR d f memo) f = f) : Settled d f memo := by
  intro g hg h8 hv a ha
  have := strikeL_hit (v := valuesR d f memo) (a := a) d.gates f ⟨g, hg, h8, hv, ha⟩
  rw [show d.gates.foldl (strike1 (valuesR d f memo)) f = f from h] at this
  exact this

/-- A state that may be there. -/
structure Good (d : Dyn) (s : St) : Prop where
  pos : 0 ≤ s.failed
  lt : s.failed.toNat < 2 ^ d.vars.toNat
  memo : MemoIn d s.memo
  settled : Settled d s.failed.toNat s.memo

theorem settleR_good {d : Dyn} (hd : TreeOk d) {old : List Int} (ho : MemoIn d old) : ∀ (n f : Nat), 2 ^ d.vars.toNat - f ≤ n → f < 2 ^ d.vars.toNat →
    Good d (settleR d f old) ∧ ∀ i, f.testBit i = true → (settleR d f old).failed.toNat.testBit i = true := by
  intro n
  induction n with
  | zero => intro f h1 h2; omega
  | succ n ih =>
    intro f h1 h2
    rw [settleR_step hd h2]
    split
    · rename_i he
      rw [onceR_values] at he
      refine ⟨⟨by simp, by simpa using h2, onceR_in ho, ?_⟩, fun i hi => by simpa using hi⟩
      exact settled_of he
    · rename_i hne
      have h4 : f ≤ strike d (onceR d f old).2 f := strike_le _ _ _
      have h5 := strike_lt hd (v := (onceR d f old).2) h2
      obtain ⟨g1, g2⟩ := ih (strike d (onceR d f old).2 f) (by omega) h5
      exact ⟨g1, fun i hi => g2 i (strikeL_bit _ _ hi)⟩

theorem checkSR_of {d : Dyn} {s : St} (hc : checkR d = 0) (h : Good d s) : checkSR d s = 0 := by
  unfold checkSR
  rw [if_neg (by simp [hc]), if_neg (by simp [h.memo.1]), if_neg (by have := h.pos; omega), if_neg (by have := h.lt; have := h.pos; omega), if_neg]
  intro hm
  unfold memoErr at hm
  obtain ⟨k, hk, hp⟩ := List.any_eq_true.1 hm
  have hk : k < d.gates.length := by simpa using hk
  rw [getD_lt hk] at hp
  have := h.memo.2 k hk
  simp only [Bool.or_eq_true, decide_eq_true_eq] at hp
  omega

theorem start_good {d : Dyn} (hc : checkR d = 0) : (startR d).2 = 0 ∧ Good d (startR d).1 := by
  have hd := checkR_ok hc
  unfold startR
  rw [if_neg (by simp [hc])]
  exact ⟨rfl, (settleR_good hd (zeroIn hd) _ 0 (Nat.le_refl _) (Nat.two_pow_pos _)).1⟩

theorem fail_good {d : Dyn} {s : St} {i : Nat} (hc : checkR d = 0) (h : Good d s) (hi : (i : Int) < d.vars) :
    (s.failed.toNat.testBit i = true ∧ (failR d s i).2 = 12) ∨
    (s.failed.toNat.testBit i = false ∧ (failR d s i).2 = 0 ∧ Good d (failR d s i).1 ∧ ∀ k, (s.failed.toNat ||| 2 ^ i).testBit k = true → (failR d s i).1.failed.toNat.testBit k = true) := by
  have hd := checkR_ok hc
  unfold failR
  rw [if_neg (by simp [checkSR_of hc h]), if_neg (by omega), if_neg (by omega)]
  rw [Int.toNat_natCast]
  cases hb : s.failed.toNat.testBit i with
  | true => exact .inl ⟨rfl, rfl⟩
  | false =>
    rw [if_neg (by simp)]
    have hlt : s.failed.toNat ||| 2 ^ i < 2 ^ d.vars.toNat := Nat.or_lt_two_pow h.lt (Nat.pow_lt_pow_right (by omega) (by omega))
    obtain ⟨g1, g2⟩ := settleR_good hd h.memo _ _ (Nat.le_refl _) hlt
    exact .inr ⟨rfl, rfl, g1, g2⟩

theorem repair_good {d : Dyn} {s : St} {i : Nat} (hc : checkR d = 0) (h : Good d s) (hi : (i : Int) < d.vars) :
    ((s.failed.toNat.testBit i = false ∨ heldR d (valuesR d s.failed.toNat s.memo) i = true) ∧ (repairR d s i).2 = 12) ∨
    (s.failed.toNat.testBit i = true ∧ heldR d (valuesR d s.failed.toNat s.memo) i = false ∧ (repairR d s i).2 = 0 ∧ Good d (repairR d s i).1 ∧ ∀ k, (nandN s.failed.toNat (2 ^ i)).testBit k = true → (repairR d s i).1.failed.toNat.testBit k = true) := by
  have hd := checkR_ok hc
  have hv := hd.vars
  have hp := pow_vars hd
  unfold repairR
  rw [if_neg (by simp [checkSR_of hc h]), if_neg (by omega), if_neg (by omega)]
  rw [Int.toNat_natCast]
  cases hb : s.failed.toNat.testBit i with
  | false => exact .inl ⟨.inl rfl, rfl⟩
  | true =>
    rw [if_neg (by simp)]
    cases hh : heldR d (valuesR d s.failed.toNat s.memo) i with
    | true => exact .inl ⟨.inr rfl, rfl⟩
    | false =>
      rw [if_neg (by simp)]
      have hl := h.lt
      have hlt : nandN s.failed.toNat (2 ^ i) < 2 ^ d.vars.toNat := Nat.lt_of_le_of_lt (nandN_le (by omega)) hl
      obtain ⟨g1, g2⟩ := settleR_good hd h.memo _ _ (Nat.le_refl _) hlt
      exact .inr ⟨rfl, rfl, rfl, g1, g2⟩

/-- One act. -/
def pstep (d : Dyn) (s : St) (a : Int) : St :=
  let i := a % 128 % d.vars
  if a < 128 then (if (failR d s i).2 = 0 then (failR d s i).1 else s) else (if (repairR d s i).2 = 0 then (repairR d s i).1 else s)

/-- The state after some acts. -/
def playR (d : Dyn) (acts : List Int) : St := acts.foldl (pstep d) (startR d).1

theorem pstep_good {d : Dyn} {s : St} {a : Int} (hc : checkR d = 0) (h : Good d s) : Good d (pstep d s a) := by
  have hv := (checkR_ok hc).vars
  have h1 : 0 ≤ a % 128 % d.vars := Int.emod_nonneg _ (by omega)
  have h2 : a % 128 % d.vars < d.vars := Int.emod_lt_of_pos _ (by omega)
  unfold pstep
  obtain ⟨i, hi⟩ : ∃ i : Nat, a % 128 % d.vars = i := ⟨(a % 128 % d.vars).toNat, by omega⟩
  dsimp only
  rw [hi] at h2 ⊢
  split
  · rcases fail_good hc h h2 with ⟨_, h3⟩ | ⟨_, h3, h4, _⟩
    · rw [if_neg (by omega)]; exact h
    · rw [if_pos h3]; exact h4
  · rcases repair_good hc h h2 with ⟨_, h3⟩ | ⟨_, _, h3, h4, _⟩
    · rw [if_neg (by omega)]; exact h
    · rw [if_pos h3]; exact h4

theorem play_good {d : Dyn} (hc : checkR d = 0) : ∀ (acts : List Int) (s : St), Good d s → Good d (acts.foldl (pstep d) s)
  | [], _, h => h
  | _ :: l, _, h => play_good hc l _ (pstep_good hc h)

/-- The value of a gate is what it was when it was found. -/
theorem values_get {n : Nat} {memo : List Int} : ∀ (l : List Gate) (v : List Bool) (k : Nat) (hk : k < l.length), n ≤ v.length →
    ∃ w : List Bool, w.length = v.length + k ∧ w <+: l.foldl (vstep n memo) v ∧ (l.foldl (vstep n memo) v).getD (v.length + k) false = gval l[k] w (memo.getD (v.length + k - n) 0)
  | [], _, k, h, _ => by simp at h
  | g :: l, v, k, h, hn => by
    have pre : ∀ (l : List Gate) (v : List Bool), v <+: l.foldl (vstep n memo) v := by
      intro l
      induction l with
      | nil => intro v; exact List.prefix_refl _
      | cons g l ih => intro v; exact List.IsPrefix.trans ⟨[gval g v (memo.getD (v.length - n) 0)], rfl⟩ (ih (vstep n memo v g))
    cases k with
    | zero =>
      simp only [List.foldl_cons]
      have p1 := pre l (vstep n memo v g)
      refine ⟨v, by simp, List.IsPrefix.trans ⟨[gval g v (memo.getD (v.length - n) 0)], rfl⟩ p1, ?_⟩
      obtain ⟨t, ht⟩ := p1
      have ht : v ++ [gval g v (memo.getD (v.length - n) 0)] ++ t = l.foldl (vstep n memo) (vstep n memo v g) := ht
      rw [← ht, List.getD_eq_getElem?_getD]
      simp
    | succ k =>
      simp only [List.foldl_cons]
      have hvl : (vstep n memo v g).length = v.length + 1 := by simp [vstep]
      obtain ⟨w, h1, h2, h3⟩ := values_get (n := n) (memo := memo) l (vstep n memo v g) k (by simpa using h) (by rw [hvl]; omega)
      refine ⟨w, by omega, h2, ?_⟩
      rw [hvl, show v.length + 1 + k = v.length + (k + 1) by omega] at h3
      simpa using h3

/-- A trigger has the value of its first argument. -/
theorem depend_value {d : Dyn} {f : Nat} {memo : List Int} (hd : TreeOk d) {k : Nat} (hk : k < d.gates.length) (h8 : (d.gates[k]).kind = 8) :
    (valuesR d f memo).getD (d.vars.toNat + k) false = (valuesR d f memo).getD ((d.gates[k]).args.getD 0 0).toNat false := by
  obtain ⟨w, h1, h2, h3⟩ := values_get (n := d.vars.toNat) (memo := memo) d.gates (evs d.vars.toNat f) k hk (by rw [evs_len]; omega)
  rw [evs_len] at h1 h3
  have h2' := hd.two k hk h8
  have h0 := hd.args k hk ((d.gates[k]).args.getD 0 0) (getD_mem (by omega))
  unfold valuesR
  rw [h3]
  unfold gval
  dsimp only
  rw [if_neg (by omega), if_neg (by omega), if_neg (by omega), if_neg (by omega), if_neg (by omega), if_pos h8]
  obtain ⟨t, ht⟩ := h2
  have hlt : ((d.gates[k]).args.getD 0 0).toNat < w.length := by have := hd.vars; omega
  rw [← ht]
  generalize ((d.gates[k]).args.getD 0 0).toNat = j at *
  rw [List.getD_eq_getElem?_getD, List.getD_eq_getElem?_getD, List.getElem?_append_left hlt]

/-- The events of a true trigger cannot be repaired. -/
theorem held_of {d : Dyn} {f : Nat} {memo : List Int} {g : Gate} {a : Int} (hg : g ∈ d.gates) (h8 : g.kind = 8) (hv : (valuesR d f memo).getD (g.args.getD 0 0).toNat false = true) (ha : a ∈ g.args.drop 1) : heldR d (valuesR d f memo) a = true := by
  refine List.any_eq_true.2 ⟨g, hg, ?_⟩
  unfold holds
  rw [hv, h8]
  simp only [decide_true, Bool.true_and]
  exact List.any_eq_true.2 ⟨a, ha, by simp⟩

theorem nand_or {f i : Nat} (hf : f < 2 ^ 24) (hi : i < 24) (hb : f.testBit i = false) : nandN (f ||| 2 ^ i) (2 ^ i) = f := by
  have h1 : f ||| 2 ^ i < 2 ^ 24 := Nat.or_lt_two_pow hf (Nat.pow_lt_pow_right (by omega) hi)
  apply Nat.eq_of_testBit_eq
  intro k
  rw [testBit_nandN (by omega), Nat.testBit_or, Nat.testBit_two_pow]
  by_cases hk : i = k
  · subst hk; simp [hb]
  · simp [hk]

/-- One set of bits in another one. -/
theorem and_of_sub {a b : Nat} (h : ∀ k, b.testBit k = true → a.testBit k = true) : a &&& b = b := by
  apply Nat.eq_of_testBit_eq
  intro k
  rw [Nat.testBit_and]
  cases hb : b.testBit k with
  | false => simp
  | true => rw [h k hb]; rfl
end S

open Go Go.AL Go.Proofs
namespace S
set_option maxRecDepth 100000

/-! ### fractions that are short -/

/-- What is known of where the arguments fit is known. -/
theorem FnH.ok {P : Program} {f : Nat} {args : List AV} {H : Heap} {R : AV} {H' : Heap} (hf : ∃ fn, P.funcs[f]? = some fn ∧ (fn.name == "runtime.NumGoroutine") = false ∧ fn.body.isSome = true) (h : OkL args → FnH P f args H R H') : FnH P f args H R H' :=
  ⟨hf, fun c vs hr hv => (h (EVL_ok hv)).2 c vs hr hv⟩

theorem ratAll (r : Rat) (h1 : r.num.length ≤ 999999) (h2 : r.den.length ≤ 999999) : RatC r := by
  have key : OkL [r.av] → RatC r := by
    intro hok
    have w1 : Ws r.num := Ws.ok hok.1.2.1.2
    have w2 : Ws r.den := Ws.ok hok.1.2.2.1.2
    refine ratC r (by omega) (by omega) fun _ x y hy hx hy' => ?_
    have l1 := wd_len_max w1 w2 h1 h2 hx
    have l2 := wd_len_max w1 w2 h1 h2 hy'
    exact divC x y l1 (by omega) hy
  exact ⟨FnH.ok ratC_zero.v.1 fun h => (key h).v, FnH.ok ratC_zero.s.1 fun h => (key h).s, FnH.ok ratC_zero.p.1 fun h => (key h).p⟩

def shortR (r : Rat) : Bool := decide (r.num.length ≤ 40) && decide (r.den.length ≤ 40)

theorem shortR_C {r : Rat} (h : shortR r = true) : RatC r := by
  simp only [shortR, Bool.and_eq_true, decide_eq_true_eq] at h
  exact ratAll r (by omega) (by omega)

theorem c_Short (r : Rat) : FnH Tryz.prog 48 [r.av] [] (.bool (shortR r)) [] := by
  refine FnH.intro lay mixed Tryz.func48 (by kernel_rfl) rfl (by kernel_rfl) rfl fun hok => ?_
  (conv => whnf)
  refine And.intro (fun h => ?_) (fun h => ?_)
  · have h : r.num.length ≤ 40 := by simp only [List.length_map] at h; omega
    (conv => whnf)
    (refine FinSpec.mono ?_; (conv => whnf); refine ⟨?_, rfl⟩; (conv => whnf))
    simp [shortR, h]
    omega
  · have h : ¬ r.num.length ≤ 40 := by simp only [List.length_map] at h; omega
    (conv => whnf)
    (refine FinSpec.mono ?_; (conv => whnf); refine ⟨?_, rfl⟩; (conv => whnf))
    simp [shortR, h]

def lightG (g : Gate) : Bool := decide (g.args.length ≤ 40) && shortR g.dorm
def lightL (l : List Rat) : Bool := decide (l.length ≤ 60) && l.all shortR
def lightD (d : Dyn) : Bool := d.gates.all lightG && lightL d.fail && lightL d.repair && decide (d.gates.length ≤ 100)

theorem lightD_C {d : Dyn} (h : lightD d = true) : DynC d := by
  simp only [lightD, lightL, Bool.and_eq_true] at h
  obtain ⟨⟨⟨h1, _, h2⟩, _, h3⟩, _⟩ := h
  refine ⟨fun x hx => shortR_C (List.all_eq_true.1 h2 x hx), fun x hx => shortR_C (List.all_eq_true.1 h3 x hx), fun g hg => ?_⟩
  have := List.all_eq_true.1 h1 g hg
  simp only [lightG, Bool.and_eq_true] at this
  exact shortR_C this.2

theorem all_take {α : Type} {p : α → Bool} {l : List α} {i : Nat} (h : i < l.length) : (l.take (i + 1)).all p = ((l.take i).all p && p l[i]) := by
  rw [List.take_add_one, List.getElem?_eq_getElem h, List.all_append]; simp

theorem all_false {α : Type} {p : α → Bool} {l : List α} {x : α} (h : x ∈ l) (hp : p x = false) : l.all p = false := by
  cases ha : l.all p with
  | false => rfl
  | true => have := List.all_eq_true.1 ha x h; rw [hp] at this; cases this


theorem c_LightD (d : Dyn) : FnH Tryz.prog 10 [d.av] [] (.bool (lightD d)) [] := by
  refine FnH.intro lay mixed Tryz.func10 (by kernel_rfl) rfl (by kernel_rfl) rfl fun hok => ?_
  have lg : d.gates.length ≤ 9223372036854775807 := by have := hok.1.2.1.1; simpa [maxL] using this
  have lf : d.fail.length ≤ 9223372036854775807 := by have := hok.1.2.2.2.1.1; simpa [maxL] using this
  have lr : d.repair.length ≤ 9223372036854775807 := by have := hok.1.2.2.2.2.1.1; simpa [maxL] using this
  (conv => whnf)
  refine LoopE.of <| LoopSpec.inv (.refl _ _) (fun (i : Nat) => i ≤ d.gates.length ∧ (d.gates.take i).all lightG = true) (fun (i : Nat) => [(12, .int .i64 i)]) (fun _ => _) (fun (i : Nat) => d.gates.length - i) 0 ?_ (fun _ => rfl) ?_ ?_
  · exact ⟨Nat.zero_le _, by simp⟩
  · (repeat' (first | exact rfl | exact trivial | exact HWk.refl rfl | exact leRL_refl _ | (refine And.intro ?_ ?_)))
  rintro i ⟨hi, hn⟩ _
  (conv => whnf)
  refine And.intro (fun h => ?_) (fun h => ?_)
  · have hlt : i < d.gates.length := by simpa using h
    have hall := all_take (p := lightG) hlt
    have hmem := List.getElem_mem hlt
    (conv => whnf)
    refine aidx hlt ?_
    generalize d.gates[i] = g at *
    (conv => whnf)
    refine And.intro (fun h1 => ?_) (fun h1 => ?_)
    · have h1 : ¬ g.args.length ≤ 40 := by simp only [List.length_map] at h1; omega
      have hL : lightD d = false := by unfold lightD; rw [all_false hmem (by simp [lightG, h1])]; rfl
      (conv => whnf)
      (refine FinSpec.mono ?_; (conv => whnf); refine ⟨?_, rfl⟩; (conv => whnf))
      rw [hL]
    have h1 : g.args.length ≤ 40 := by simp only [List.length_map] at h1; omega
    (conv => whnf)
    refine .pure _ _ ?_ ⟨rfl, rfl⟩ (c_Short g.dorm) fun _ => ?_
    · exact leL_refl _
    (conv => whnf)
    refine And.intro (fun h2 => ?_) (fun h2 => ?_)
    · have h2 : shortR g.dorm = false := by simpa using h2
      have hL : lightD d = false := by unfold lightD; rw [all_false hmem (by simp [lightG, h2])]; rfl
      (conv => whnf)
      (refine FinSpec.mono ?_; (conv => whnf); refine ⟨?_, rfl⟩; (conv => whnf))
      rw [hL]
    have h2 : shortR g.dorm = true := by simpa using h2
    (conv => whnf)
    (refine ⟨inr64 (by omega) (by omega), ?_⟩; (conv => whnf))
    refine ⟨i + 1, ?_, ?_, ?_⟩
    · exact ⟨hlt, by rw [hall, hn]; simp [lightG, h1, h2]⟩
    · refine ⟨?_, .mk ?_ ⟨by simp, trivial⟩⟩
      · (repeat' (first | exact rfl | exact trivial | exact HWk.refl rfl | exact leRL_refl _ | (refine And.intro ?_ ?_)))
      · (repeat' (first | exact rfl | exact trivial | exact HWk.refl rfl | exact leRL_refl _ | (refine And.intro ?_ ?_)))
    · omega
  have hil : i = d.gates.length := by have : ¬ i < d.gates.length := by simpa using h
                                      omega
  subst hil
  rw [List.take_length] at hn
  clear h
  (conv => whnf)
  refine LoopE.of <| LoopSpec.inv (.refl _ _) (fun (i : Nat) => i ≤ 2 ∧ ∀ (k : Nat) (hk : k < 2), k < i → lightL ([d.fail, d.repair][k]) = true) (fun (i : Nat) => [(33, .int .i64 i)]) (fun _ => _) (fun (i : Nat) => 2 - i) 0 ?_ (fun _ => rfl) ?_ ?_
  · exact ⟨Nat.zero_le _, by omega⟩
  · (repeat' (first | exact rfl | exact trivial | exact HWk.refl rfl | exact leRL_refl _ | (refine And.intro ?_ ?_)))
  rintro i ⟨hi, hm⟩ _
  (conv => whnf)
  refine And.intro (fun h => ?_) (fun h => ?_)
  · have h : (i : Int) < 2 := h
    have hlt : i < [d.fail, d.repair].length := by show i < 2; omega
    have hll : ([d.fail, d.repair][i]).length ≤ 9223372036854775807 := by
      have hi2 : i = 0 ∨ i = 1 := by omega
      rcases hi2 with rfl | rfl
      · exact lf
      · exact lr
    (conv => whnf)
    refine aidx (l := [d.fail, d.repair]) (f := fun l => .sl 3 (l.map Rat.av) .no) hlt ?_
    have hbad : lightL ([d.fail, d.repair][i]) = false → lightD d = false := by
      intro h0
      have hi2 : i = 0 ∨ i = 1 := by omega
      unfold lightD
      rcases hi2 with rfl | rfl
      · have h0 : lightL d.fail = false := h0
        rw [h0]; simp
      · have h0 : lightL d.repair = false := h0
        rw [h0]; simp
    have hgood : lightL ([d.fail, d.repair][i]) = true → i + 1 ≤ 2 ∧ ∀ (k : Nat) (hk : k < 2), k < i + 1 → lightL ([d.fail, d.repair][k]) = true := by
      intro h0
      refine ⟨by omega, fun k hk hki => ?_⟩
      by_cases hki' : k = i
      · subst hki'; exact h0
      · exact hm k hk (by omega)
    generalize [d.fail, d.repair][i] = l at *
    (conv => whnf)
    refine And.intro (fun h1 => ?_) (fun h1 => ?_)
    · have h1 : ¬ l.length ≤ 60 := by simp only [List.length_map] at h1; omega
      have hL := hbad (by simp [lightL, h1])
      (conv => whnf)
      (refine FinSpec.mono ?_; (conv => whnf); refine ⟨?_, rfl⟩; (conv => whnf))
      rw [hL]
    have h1 : l.length ≤ 60 := by simp only [List.length_map] at h1; omega
    (conv => whnf)
    refine LoopE.of <| LoopSpec.inv (.refl _ _) (fun (j : Nat) => j ≤ l.length ∧ (l.take j).all shortR = true) (fun (j : Nat) => [(42, .int .i64 j)]) (fun _ => _) (fun (j : Nat) => l.length - j) 0 ?_ (fun _ => rfl) ?_ ?_
    · exact ⟨Nat.zero_le _, by simp⟩
    · (repeat' (first | exact rfl | exact trivial | exact HWk.refl rfl | exact leRL_refl _ | (refine And.intro ?_ ?_)))
    rintro j ⟨hj, hs⟩ _
    (conv => whnf)
    refine And.intro (fun h => ?_) (fun h => ?_)
    · have hjlt : j < l.length := by simpa using h
      have hall := all_take (p := shortR) hjlt
      have hmem := List.getElem_mem hjlt
      (conv => whnf)
      refine aidx hjlt ?_
      generalize l[j] = x at *
      (conv => whnf)
      refine .pure _ _ ?_ ⟨rfl, rfl⟩ (c_Short x) fun _ => ?_
      · exact leL_refl _
      (conv => whnf)
      refine And.intro (fun h2 => ?_) (fun h2 => ?_)
      · have h2 : shortR x = false := by simpa using h2
        have hL := hbad (by unfold lightL; rw [all_false hmem h2]; simp)
        (conv => whnf)
        (refine FinSpec.mono ?_; (conv => whnf); refine ⟨?_, rfl⟩; (conv => whnf))
        rw [hL]
      have h2 : shortR x = true := by simpa using h2
      (conv => whnf)
      (refine ⟨inr64 (by omega) (by omega), ?_⟩; (conv => whnf))
      refine ⟨j + 1, ?_, ?_, ?_⟩
      · exact ⟨hjlt, by rw [hall, hs, h2]; rfl⟩
      · refine ⟨?_, .mk ?_ ⟨by simp, trivial⟩⟩
        · (repeat' (first | exact rfl | exact trivial | exact HWk.refl rfl | exact leRL_refl _ | (refine And.intro ?_ ?_)))
        · (repeat' (first | exact rfl | exact trivial | exact HWk.refl rfl | exact leRL_refl _ | (refine And.intro ?_ ?_)))
      · omega
    · have hjl : j = l.length := by have : ¬ j < l.length := by simpa using h
                                    omega
      subst hjl
      rw [List.take_length] at hs
      (conv => whnf)
      (refine ⟨inr64 (by omega) (by omega), ?_⟩; (conv => whnf))
      refine ⟨i + 1, ?_, ?_, ?_⟩
      · exact hgood (by simp only [lightL, hs, Bool.and_true]; simpa using h1)
      · (repeat' (first | exact rfl | exact trivial | exact HWk.refl rfl | exact leRL_refl _ | (refine And.intro ?_ ?_)))
      · omega
  have hi2 : i = 2 := by have : ¬ (i : Int) < 2 := h
                         omega
  subst hi2
  have m1 : lightL d.fail = true := hm 0 (by omega) (by omega)
  have m2 : lightL d.repair = true := hm 1 (by omega) (by omega)
  (conv => whnf)
  (refine FinSpec.mono ?_; (conv => whnf); refine ⟨?_, rfl⟩; (conv => whnf))
  show _ ↔ _
  simp [lightD, hn, m1, m2]
  try omega

theorem c_Is (e c : Int) : FnH Tryz.prog 69 [errAV e, .int .i64 c] [] (.bool (decide (e ≠ 0 ∧ e = c))) [] := by
  by_cases h0 : e = 0
  · subst h0
    rw [errAV_zero]
    refine FnH.intro lay mixed Tryz.func69 (by kernel_rfl) rfl (by kernel_rfl) rfl fun hok => ?_
    (conv => whnf)
    (refine FinSpec.mono ?_; (conv => whnf); refine ⟨?_, rfl⟩; (conv => whnf))
    simp
  · rw [errAV_ne h0]
    refine FnH.intro lay mixed Tryz.func69 (by kernel_rfl) rfl (by kernel_rfl) rfl fun hok => ?_
    (conv => whnf)
    (refine FinSpec.mono ?_; (conv => whnf); refine ⟨?_, rfl⟩; (conv => whnf))
    simp [h0]

theorem c_cloneBool (l : List Bool) (hl : l.length ≤ 1000000) : FnH Tryz.prog 55 [bL l] [] (bL l) [] := by
  refine FnH.intro lay mixed Tryz.func55 (by kernel_rfl) rfl (by kernel_rfl) rfl fun hok => ?_
  (conv => whnf)
  intro b hb
  (conv => whnf)
  refine And.intro (fun h => ?_) (fun h => ?_)
  · have : l = [] := by simpa using hb h
    subst this
    (conv => whnf)
    (refine FinSpec.mono ?_; (conv => whnf); refine ⟨?_, rfl⟩; (conv => whnf))
    rfl
  · (conv => whnf)
    refine .pure (by simp [maxL]; omega) (by simp; omega) ?_
    (conv => whnf)
    (refine FinSpec.mono ?_; (conv => whnf); refine ⟨?_, rfl⟩; (conv => whnf))
    (repeat' (first | exact rfl | exact trivial | exact HWk.refl rfl | exact leRL_refl _ | (refine And.intro ?_ ?_)))

def valuesGR (d : Dyn) (s : St) : List Bool × Int := if checkSR d s ≠ 0 then ([], checkSR d s) else ((valuesR d s.failed.toNat s.memo).drop d.vars.toNat, 0)

theorem c_Values (d : Dyn) (s : St) (hd : DynC d) (R : AV) (hR : R = .tup [bL (valuesGR d s).1, errAV (valuesGR d s).2]) : FnH Tryz.prog 14 [d.av, s.av] [] R [] := by
  refine FnH.intro lay mixed Tryz.func14 (by kernel_rfl) rfl (by kernel_rfl) rfl fun hok => ?_
  (conv => whnf)
  refine .pure _ _ ?_ ⟨rfl, ?_⟩ (c_check d s hd _ rfl) fun _ => ?_
  · (repeat' (first | exact rfl | exact trivial | exact HWk.refl rfl | exact leRL_refl _ | (refine And.intro ?_ ?_)))
  · unfold errAV; split <;> rfl
  by_cases n0 : checkSR d s ≠ 0
  · rw [errAV_ne n0]
    obtain rfl : R = .tup [bL [], .ifc 104 (.int .i64 (checkSR d s))] := by
      rw [hR, show valuesGR d s = _ from if_pos n0, errAV_ne n0]
    (conv => whnf)
    (refine FinSpec.mono ?_; (conv => whnf); refine ⟨?_, rfl⟩; (conv => whnf))
    (repeat' (first | exact rfl | exact trivial | exact HWk.refl rfl | exact leRL_refl _ | (refine And.intro ?_ ?_)))
  have h0 : checkSR d s = 0 := by simpa using n0
  obtain ⟨hc, hs⟩ := checkSR_ok h0
  have hT := checkR_ok hc
  rw [h0, errAV_zero]
  obtain rfl : R = .tup [bL ((valuesR d s.failed.toNat s.memo).drop d.vars.toNat), .nilI] := by
    rw [hR, show valuesGR d s = _ from if_neg n0]; rfl
  have hv := hT.vars
  have hg := hT.gates
  have hp := pow_int (n := d.vars.toNat) (by omega)
  have hpos := hs.pos
  have hlt := hs.lt
  obtain ⟨f, hf⟩ : ∃ f : Nat, s.failed = f := ⟨s.failed.toNat, by omega⟩
  obtain ⟨fl, memo⟩ := s
  simp only at hf
  subst hf
  have hvl : (valuesR d f memo).length = d.vars.toNat + d.gates.length := valuesR_len
  (conv => whnf)
  (refine ADraw.auto (by kernel_rfl) ?_; (conv => whnf))
  refine ACallP.pure _ _ ?_ ⟨rfl, rfl⟩ (c_values d f memo (by have : (f : Int) < (2 ^ d.vars.toNat : Nat) := hlt; omega) hT hs.len) ?_
  · (repeat' (first | exact rfl | exact trivial | exact HWk.refl rfl | exact leRL_refl _ | (refine And.intro ?_ ?_)))
  (conv => whnf)
  refine ⟨⟨by omega, by simp; omega, by simp⟩, ?_⟩
  have hcut : (((valuesR d f memo).map AV.bool).drop d.vars.toNat).take (((((valuesR d f memo).map AV.bool).length : Nat) : Int).toNat - d.vars.toNat) = ((valuesR d f memo).drop d.vars.toNat).map AV.bool := by
    rw [List.take_of_length_le (by simp), List.map_drop]
  rw [hcut]
  (conv => whnf)
  refine ACallP.pure _ _ ?_ ⟨rfl, rfl⟩ (c_cloneBool ((valuesR d f memo).drop d.vars.toNat) (by simp; omega)) ?_
  · (repeat' (first | exact rfl | exact trivial | exact HWk.refl rfl | exact leRL_refl _ | (refine And.intro ?_ ?_)))
  (conv => whnf)
  (refine FinSpec.mono ?_; (conv => whnf); refine ⟨?_, rfl⟩; (conv => whnf))
  (repeat' (first | exact rfl | exact trivial | exact HWk.refl rfl | exact leRL_refl _ | (refine And.intro ?_ ?_)))
end S

open Go Go.AL Go.Proofs
namespace S

/-! ### arguments, by their shapes -/

theorem list_of {α : Type} {f : α → AV} : ∀ {l : List AV}, (∀ x ∈ l, ∃ y, x = f y) → ∃ m : List α, l = m.map f
  | [], _ => ⟨[], rfl⟩
  | x :: l, h => by
    obtain ⟨y, rfl⟩ := h x (by simp)
    obtain ⟨m, rfl⟩ := list_of (l := l) fun z hz => h z (by simp [hz])
    exact ⟨y :: m, rfl⟩

theorem ints_of {sz : Nat} {k : IntKind} {A : AV} (h : (Sh.sl sz (.int k)).In A) : ∃ l : List Int, A = .sl sz (l.map (.int k)) .no := by
  simp only [Sh.In] at h
  obtain ⟨l, rfl, hl⟩ := h
  obtain ⟨m, rfl⟩ := list_of hl
  exact ⟨m, rfl⟩

abbrev shRat : Sh := .st [.bool, .sl 1 (.int .u32), .sl 1 (.int .u32)]
abbrev shGate : Sh := .st [.int .i64, .int .i64, .sl 1 (.int .i64), shRat]
abbrev shDyn : Sh := .st [.int .i64, .sl 6 shGate, .int .i64, .sl 3 shRat, .sl 3 shRat]
abbrev shSt : Sh := .st [.int .i64, .sl 1 (.int .i64)]

theorem Rat.of {A : AV} (h : shRat.In A) : ∃ r : Rat, A = r.av := by
  simp only [Sh.In, InL] at h
  obtain ⟨_, rfl, _, _, rfl, ⟨b, rfl⟩, _, _, rfl, h1, _, _, rfl, h2, rfl⟩ := h
  obtain ⟨n, rfl⟩ := ints_of (sz := 1) (k := .u32) (by simp only [Sh.In]; exact h1)
  obtain ⟨d, rfl⟩ := ints_of (sz := 1) (k := .u32) (by simp only [Sh.In]; exact h2)
  exact ⟨⟨b, n, d⟩, rfl⟩

theorem rats_of {A : AV} (h : (Sh.sl 3 shRat).In A) : ∃ l : List Rat, A = .sl 3 (l.map Rat.av) .no := by
  unfold Sh.In at h
  obtain ⟨l, rfl, hl⟩ := h
  obtain ⟨m, rfl⟩ := list_of fun x hx => Rat.of (hl x hx)
  exact ⟨m, rfl⟩

theorem Gate.of {A : AV} (h : shGate.In A) : ∃ g : Gate, A = g.av := by
  unfold Sh.In at h
  simp only [InL] at h
  obtain ⟨_, rfl, _, _, rfl, h0, _, _, rfl, h1, _, _, rfl, h2, _, _, rfl, h3, rfl⟩ := h
  obtain ⟨a, rfl⟩ := h0
  obtain ⟨b, rfl⟩ := h1
  obtain ⟨c, rfl⟩ := ints_of h2
  obtain ⟨r, rfl⟩ := Rat.of h3
  exact ⟨⟨a, b, c, r⟩, rfl⟩

theorem Dyn.of {A : AV} (h : shDyn.In A) : ∃ d : Dyn, A = d.av := by
  unfold Sh.In at h
  simp only [InL] at h
  obtain ⟨_, rfl, _, _, rfl, h0, _, _, rfl, h1, _, _, rfl, h2, _, _, rfl, h3, _, _, rfl, h4, rfl⟩ := h
  obtain ⟨a, rfl⟩ := h0
  obtain ⟨c, rfl⟩ := h2
  obtain ⟨f, rfl⟩ := rats_of h3
  obtain ⟨g, rfl⟩ := rats_of h4
  unfold Sh.In at h1
  obtain ⟨l, rfl, hl⟩ := h1
  obtain ⟨m, rfl⟩ := list_of fun x hx => Gate.of (hl x hx)
  exact ⟨⟨a, m, c, f, g⟩, rfl⟩

theorem St.of {A : AV} (h : shSt.In A) : ∃ s : St, A = s.av := by
  unfold Sh.In at h
  simp only [InL] at h
  obtain ⟨_, rfl, _, _, rfl, h0, _, _, rfl, h1, rfl⟩ := h
  obtain ⟨a, rfl⟩ := h0
  obtain ⟨c, rfl⟩ := ints_of h1
  exact ⟨⟨a, c⟩, rfl⟩

theorem int_of {k : IntKind} {A : AV} (h : (Sh.int k).In A) : ∃ n : Int, A = .int k n := by
  simpa only [Sh.In] using h

theorem str_of {A : AV} (h : Sh.str.In A) : ∃ s : List UInt8, A = .str s := by
  simpa only [Sh.In] using h
end S
