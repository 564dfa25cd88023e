/-
  Contracts of functions of the program, over the logic of the texts before. Nothing is assumed.
-/
import Derived.Test.YtkhinhepefmdhaaGreatT9

open Go Go.AL Go.Proofs
namespace S
set_option maxRecDepth 100000

/-! ### spare gates (no program in sight) -/

theorem twice_not {a : Int} : ∀ {l sp : List Int}, twice sp l = false → a ∈ l → a ∉ sp
  | [], _, _, h => by simp at h
  | b :: l, sp, ht, h => by
    simp only [twice, Bool.or_eq_false_iff] at ht
    rcases List.mem_cons.1 h with rfl | h
    · intro hs
      have := List.any_eq_false.1 ht.1 a hs
      simp at this
    · have := twice_not ht.2 h
      intro hs
      exact this (by simp [hs])

theorem twice_inj : ∀ {l sp : List Int}, twice sp l = false → ∀ (i j : Nat) (hi : i < l.length) (hj : j < l.length), l[i] = l[j] → i = j
  | [], _, _, i, _, hi, _, _ => by simp at hi
  | b :: l, sp, ht, i, j, hi, hj, he => by
    simp only [twice, Bool.or_eq_false_iff] at ht
    have hn : ∀ x ∈ l, x ≠ b := by
      intro x hx e
      subst e
      exact twice_not ht.2 hx (by simp)
    cases i with
    | zero => cases j with
      | zero => rfl
      | succ j => simp only [List.getElem_cons_zero, List.getElem_cons_succ] at he; exact absurd he.symm (hn _ (List.getElem_mem _))
    | succ i => cases j with
      | zero => simp only [List.getElem_cons_zero, List.getElem_cons_succ] at he; exact absurd he (hn _ (List.getElem_mem _))
      | succ j => simp only [List.getElem_cons_succ] at he; rw [twice_inj ht.2 i j _ _ he]

theorem gates_spares {d : Dyn} {a : Int} : ∀ {l : List Gate} {i : Nat} {sp : List Int}, gatesErr d l i sp = 0 → ∀ (k : Nat) (h : k < l.length), (l[k]).kind = 7 → a ∈ (l[k]).args →
    a ∉ sp ∧ twice [] (l[k]).args = false ∧ ∀ (j : Nat) (hj : j < l.length), (l[j]).kind = 7 → a ∈ (l[j]).args → j = k
  | [], _, _, _, k, h, _, _ => by simp at h
  | g :: l, i, sp, he, k, h, h7, ha => by
    simp only [gatesErr] at he
    split at he
    · rename_i h0
      have mono : ∀ (l sp : List Int), twice sp l = false → twice [] l = false := by
        have : ∀ (l sp sq : List Int), (∀ x ∈ sq, x ∈ sp) → twice sp l = false → twice sq l = false := by
          intro l
          induction l with
          | nil => intros; rfl
          | cons b l ih =>
            intro sp sq hs ht
            simp only [twice, Bool.or_eq_false_iff] at ht ⊢
            refine ⟨?_, ih (sp ++ [b]) (sq ++ [b]) ?_ ht.2⟩
            · apply List.any_eq_false.2
              intro x hx
              exact List.any_eq_false.1 ht.1 x (hs x hx)
            · intro x hx
              rcases List.mem_append.1 hx with hx | hx
              · exact List.mem_append.2 (.inl (hs x hx))
              · exact List.mem_append.2 (.inr hx)
        intro l sp h
        exact this l sp [] (by simp) h
      have head : ∀ b : Int, g.kind = 7 → b ∈ g.args → b ∉ sp ∧ twice [] g.args = false ∧ b ∈ spAfter g sp := by
        intro b hg hb
        have ht := (gateErr_zero h0).2.2.2.2.2 hg
        refine ⟨twice_not ht hb, mono _ _ ht, ?_⟩
        unfold spAfter; rw [if_pos hg]; exact List.mem_append.2 (.inr hb)
      have tail : ∀ b : Int, b ∈ sp → b ∈ spAfter g sp := by
        intro b hb
        unfold spAfter
        split
        · exact List.mem_append.2 (.inl hb)
        · exact hb
      cases k with
      | zero =>
        simp only [List.getElem_cons_zero] at h7 ha ⊢
        obtain ⟨h1, h2, h3⟩ := head a h7 ha
        refine ⟨h1, h2, ?_⟩
        intro j hj j7 ja
        cases j with
        | zero => rfl
        | succ j =>
          simp only [List.getElem_cons_succ] at j7 ja
          exact absurd h3 (gates_spares he j (by simpa using hj) j7 ja).1
      | succ k =>
        simp only [List.getElem_cons_succ] at h7 ha ⊢
        obtain ⟨h1, h2, h3⟩ := gates_spares he k (by simpa using h) h7 ha
        refine ⟨fun hs => h1 (tail a hs), h2, ?_⟩
        intro j hj j7 ja
        cases j with
        | zero =>
          simp only [List.getElem_cons_zero] at j7 ja
          exact absurd (head a j7 ja).2.2 h1
        | succ j =>
          simp only [List.getElem_cons_succ] at j7 ja
          rw [h3 j (by simpa using hj) j7 ja]
    · rename_i h0
      exact absurd he h0

theorem checkR_gates {d : Dyn} (h : checkR d = 0) : gatesErr d d.gates 0 [] = 0 := by
  unfold checkR at h
  by_cases h7 : gatesErr d d.gates 0 [] = 0
  · exact h7
  · rw [if_pos h7] at h
    split at h
    · cases h
    split at h
    · cases h
    split at h
    · cases h
    split at h
    · cases h
    split at h
    · cases h
    split at h
    · cases h
    exact absurd h h7

theorem checkR_lens {d : Dyn} (h : checkR d = 0) : (d.fail.length : Int) = d.vars ∧ (d.repair.length : Int) = d.vars := by
  unfold checkR at h
  split at h
  · cases h
  split at h
  · cases h
  split at h
  · cases h
  split at h
  · cases h
  rename_i h1
  split at h
  · cases h
  rename_i h2
  omega

/-- An event is an argument of one spare gate, in one place. -/
theorem spare_one {d : Dyn} (hc : checkR d = 0) {a : Int} {k j : Nat} (hk : k < d.gates.length) (hj : j < d.gates.length) (k7 : (d.gates[k]).kind = 7) (j7 : (d.gates[j]).kind = 7) (ka : a ∈ (d.gates[k]).args) (ja : a ∈ (d.gates[j]).args) : j = k :=
  (gates_spares (checkR_gates hc) k hk k7 ka).2.2 j hj j7 ja

theorem spare_at {d : Dyn} (hc : checkR d = 0) {k i j : Nat} (hk : k < d.gates.length) (k7 : (d.gates[k]).kind = 7) (hi : i < (d.gates[k]).args.length) (hj : j < (d.gates[k]).args.length) (e : (d.gates[k]).args[i] = (d.gates[k]).args[j]) : i = j :=
  twice_inj (gates_spares (checkR_gates hc) k hk k7 (List.getElem_mem hi)).2.1 i j hi hj e

theorem spare_idx {d : Dyn} (hc : checkR d = 0) {k i : Nat} (hk : k < d.gates.length) (k7 : (d.gates[k]).kind = 7) (hi : i < (d.gates[k]).args.length) : idxP (fun y => decide ((d.gates[k]).args[i] = y)) (d.gates[k]).args = i := by
  refine idxP_some hi (by simp) fun j hj => ?_
  have : ¬ (d.gates[k]).args[i] = (d.gates[k]).args[j]'(by omega) := fun e => by
    have := spare_at hc hk k7 hi (by omega) e
    omega
  simpa using this

/-- The memory of a spare gate, for the failed events. -/
def spareR (g : Gate) (f : Nat) (old : Int) : Int :=
  if 0 ≤ old ∧ f.testBit (g.args.getD old.toNat 0).toNat = false then old else idxP (fun a => !f.testBit a.toNat) g.args

theorem onceR_memo2 {old : List Int} : ∀ (l : List Gate) (ms : List Int) (v : List Bool) (i : Nat) (h : i < l.length), ∃ v', v <+: v' ∧ (l.foldl (ostep old) (ms, v)).1.getD (ms.length + i) 0 = memoR l[i] v' (old.getD (ms.length + i) 0)
  | [], _, _, i, h => by simp at h
  | g :: l, ms, v, 0, _ => by
    refine ⟨v, List.prefix_refl _, ?_⟩
    simp only [List.foldl_cons]
    have key : ∀ (l : List Gate) (a : List Int) (w : List Bool), a <+: (l.foldl (ostep old) (a, w)).1 := by
      intro l
      induction l with
      | nil => intro a w; exact List.prefix_refl _
      | cons g l ih =>
        intro a w
        simp only [List.foldl_cons]
        refine List.IsPrefix.trans ?_ (ih _ _)
        exact ⟨[memoR g w (old.getD a.length 0)], rfl⟩
    obtain ⟨t, ht⟩ := key l (ms ++ [memoR g v (old.getD ms.length 0)]) (ostep old (ms, v) g).2
    have ht : ms ++ [memoR g v (old.getD ms.length 0)] ++ t = (l.foldl (ostep old) (ostep old (ms, v) g)).1 := ht
    rw [← ht, List.getD_eq_getElem?_getD]
    simp
  | g :: l, ms, v, i + 1, h => by
    simp only [List.foldl_cons]
    obtain ⟨v', hp, hv⟩ := onceR_memo2 (old := old) l (ostep old (ms, v) g).1 (ostep old (ms, v) g).2 i (by simpa using h)
    refine ⟨v', List.IsPrefix.trans ⟨[gval g v (memoR g v (old.getD ms.length 0))], rfl⟩ hp, ?_⟩
    have e : (ostep old (ms, v) g).1.length + i = ms.length + (i + 1) := by simp [ostep]; omega
    rw [e] at hv
    simpa using hv

theorem evs_get {n f i : Nat} (h : i < n) : (evs n f).getD i false = f.testBit i := by
  rw [List.getD_eq_getElem?_getD, evs, List.getElem?_map, List.getElem?_range h]; rfl

theorem prefix_get {n f : Nat} {v : List Bool} {i : Nat} (h : evs n f <+: v) (hi : i < n) : v.getD i false = f.testBit i := by
  obtain ⟨t, ht⟩ := h
  rw [← evs_get hi, ← ht, List.getD_eq_getElem?_getD, List.getD_eq_getElem?_getD, List.getElem?_append_left (by rw [evs_len]; exact hi)]

theorem idxP_congr {α : Type} {p q : α → Bool} : ∀ {l : List α}, (∀ x ∈ l, p x = q x) → idxP p l = idxP q l
  | [], _ => rfl
  | x :: l, h => by
    simp only [idxP]
    rw [h x (by simp), idxP_congr (l := l) fun y hy => h y (by simp [hy])]

theorem activeR_spare {g : Gate} {n f : Nat} {v : List Bool} {old : Int} (hv : evs n f <+: v) (ha : ∀ a ∈ g.args, 0 ≤ a ∧ a < (n : Int)) (ho : old < (g.args.length : Int)) : activeR g v old = spareR g f old := by
  have e : ∀ a ∈ g.args, v.getD a.toNat false = f.testBit a.toNat := fun a h => prefix_get hv (by have := ha a h; omega)
  have e2 : idxP (fun a => !v.getD a.toNat false) g.args = idxP (fun a => !f.testBit a.toNat) g.args := idxP_congr fun x hx => by rw [e x hx]
  unfold activeR spareR
  rw [e2]
  by_cases h0 : 0 ≤ old
  · rw [e (g.args.getD old.toNat 0) (getD_mem (by omega))]
  · rw [if_neg (fun h => h0 h.1), if_neg (fun h => h0 h.1)]

/-- What the memories of spare gates are. -/
def SpareIs (d : Dyn) (f : Nat) (memo old : List Int) : Prop := ∀ (k : Nat) (h : k < d.gates.length), (d.gates[k]).kind = 7 → memo.getD k 0 = spareR d.gates[k] f (old.getD k 0)

theorem onceR_spare {d : Dyn} (hd : TreeOk d) {f : Nat} {old : List Int} (ho : MemoIn d old) : SpareIs d f (onceR d f old).1 old := by
  intro k hk h7
  obtain ⟨v, hp, hv⟩ := onceR_memo2 (old := old) d.gates [] (evs d.vars.toNat f) k hk
  simp only [List.length_nil, Nat.zero_add] at hv
  unfold onceR
  rw [hv]
  unfold memoR
  rw [if_neg (by omega), if_pos h7]
  have hh := (ho.2 k hk).2
  unfold hiG at hh
  rw [if_neg (by omega), if_pos h7] at hh
  exact activeR_spare hp (fun a ha => by have := hd.args k hk a ha; have := hd.spl k hk h7 a ha; omega) (by omega)

theorem settleR_spare {d : Dyn} (hd : TreeOk d) {old : List Int} (ho : MemoIn d old) : ∀ (n f : Nat), 2 ^ d.vars.toNat - f ≤ n → f < 2 ^ d.vars.toNat →
    SpareIs d (settleR d f old).failed.toNat (settleR d f old).memo old := by
  intro n
  induction n with
  | zero => intro f h1 h2; omega
  | succ n ih =>
    intro f h1 h2
    rw [settleR_step hd h2]
    split
    · exact onceR_spare hd ho
    · have h4 : f ≤ strike d (onceR d f old).2 f := strike_le _ _ _
      have h5 := strike_lt hd (v := (onceR d f old).2) h2
      exact ih (strike d (onceR d f old).2 f) (by omega) h5

/-- One act: the state stays, or the spare gates follow it. -/
theorem pstep_spare {d : Dyn} {s : St} {a : Int} (hc : checkR d = 0) (h : Good d s) : pstep d s a = s ∨ SpareIs d (pstep d s a).failed.toNat (pstep d s a).memo s.memo := by
  have hd := checkR_ok hc
  have hv := hd.vars
  have h1 : 0 ≤ a % 128 % d.vars := Int.emod_nonneg _ (by omega)
  have h2 : a % 128 % d.vars < d.vars := Int.emod_lt_of_pos _ (by omega)
  have hlt := h.lt
  unfold pstep
  generalize a % 128 % d.vars = i at *
  dsimp only
  split
  · split
    · rename_i h0
      unfold failR at h0 ⊢
      rw [if_neg (by simp [checkSR_of hc h]), if_neg (by omega), if_neg (by omega)] at h0 ⊢
      split
      · rename_i hb; rw [if_pos hb] at h0; cases h0
      · exact .inr (settleR_spare hd h.memo _ _ (Nat.le_refl _) (Nat.or_lt_two_pow hlt (Nat.pow_lt_pow_right (by omega) (by omega))))
    · exact .inl rfl
  · split
    · rename_i h0
      unfold repairR at h0 ⊢
      rw [if_neg (by simp [checkSR_of hc h]), if_neg (by omega), if_neg (by omega)] at h0 ⊢
      split
      · rename_i hb; rw [if_pos hb] at h0; cases h0
      rename_i hb
      rw [if_neg hb] at h0
      split
      · rename_i hb2; rw [if_pos hb2] at h0; cases h0
      · have hp := pow_vars hd
        exact .inr (settleR_spare hd h.memo _ _ (Nat.le_refl _) (Nat.lt_of_le_of_lt (nandN_le (by omega)) hlt))
    · exact .inl rfl

/-- The memory of each spare gate fits the failed events. -/
def Spares (d : Dyn) (s : St) : Prop := ∃ old, MemoIn d old ∧ SpareIs d s.failed.toNat s.memo old

theorem start_spares {d : Dyn} (hc : checkR d = 0) : Spares d (startR d).1 := by
  have hd := checkR_ok hc
  unfold startR
  rw [if_neg (by simp [hc])]
  exact ⟨_, zeroIn hd, settleR_spare hd (zeroIn hd) _ 0 (Nat.le_refl _) (Nat.two_pow_pos _)⟩

theorem play_spares {d : Dyn} (hc : checkR d = 0) : ∀ (acts : List Int) (s : St), Good d s → Spares d s → Spares d (acts.foldl (pstep d) s)
  | [], _, _, h => h
  | a :: l, s, hg, h => by
    refine play_spares hc l _ (pstep_good hc hg) ?_
    rcases pstep_spare (a := a) hc hg with e | e
    · rw [e]; exact h
    · exact ⟨_, hg.memo, e⟩

theorem spareR_cases {g : Gate} {f : Nat} {old : Int} (ho : old < (g.args.length : Int)) :
    (spareR g f old = -1 ∧ ∀ a ∈ g.args, f.testBit a.toNat = true) ∨ ∃ (i : Nat) (h : i < g.args.length), spareR g f old = i ∧ f.testBit (g.args[i]).toNat = false := by
  unfold spareR
  split
  · rename_i h
    refine .inr ⟨old.toNat, by omega, by omega, ?_⟩
    have := h.2
    rw [getD_lt (by omega)] at this
    exact this
  · rcases idxP_cases (fun a : Int => !f.testBit a.toNat) g.args with ⟨h1, h2⟩ | ⟨i, hi, h1, h2, _⟩
    · exact .inl ⟨h1, fun a ha => by simpa using h2 a ha⟩
    · exact .inr ⟨i, hi, h1, by simpa using h2⟩

theorem count_all {v : List Bool} : ∀ (l : List Int), count v l ≤ l.length ∧ (count v l = l.length ↔ ∀ a ∈ l, v.getD a.toNat false = true)
  | [] => by simp [count]
  | a :: l => by
    obtain ⟨h1, h2⟩ := count_all (v := v) l
    simp only [count, List.length_cons, List.forall_mem_cons, ← h2]
    cases v.getD a.toNat false with
    | true => simp only [if_true, true_and]; constructor <;> (try constructor) <;> omega
    | false => simp only [Bool.false_eq_true, if_false, false_and, iff_false]; constructor <;> omega

/-- A spare gate is true if all its events have failed. -/
theorem spare_value {d : Dyn} {f : Nat} {memo : List Int} (hd : TreeOk d) {k : Nat} (hk : k < d.gates.length) (h7 : (d.gates[k]).kind = 7) :
    (valuesR d f memo).getD (d.vars.toNat + k) false = (d.gates[k]).args.all fun a => f.testBit a.toNat := by
  have hv := hd.vars
  obtain ⟨w, h1, h2, h3⟩ := values_get (n := d.vars.toNat) (memo := memo) d.gates (evs d.vars.toNat f) k hk (by rw [evs_len]; omega)
  rw [evs_len] at h1 h3
  have pre : evs d.vars.toNat f <+: d.gates.foldl (vstep d.vars.toNat memo) (evs d.vars.toNat f) := by
    generalize evs d.vars.toNat f = v
    have : ∀ (l : List Gate) (v : List Bool), v <+: l.foldl (vstep d.vars.toNat memo) v := by
      intro l
      induction l with
      | nil => intro v; exact List.prefix_refl _
      | cons g l ih => intro v; exact List.IsPrefix.trans ⟨[gval g v (memo.getD (v.length - d.vars.toNat) 0)], rfl⟩ (ih (vstep d.vars.toNat memo v g))
    exact this _ _
  have pw : evs d.vars.toNat f <+: w := List.prefix_of_prefix_length_le pre h2 (by rw [evs_len, h1]; omega)
  have e : ∀ a ∈ (d.gates[k]).args, w.getD a.toNat false = f.testBit a.toNat := fun a ha => prefix_get pw (by have := hd.args k hk a ha; have := hd.spl k hk h7 a ha; omega)
  unfold valuesR
  rw [h3]
  unfold gval
  dsimp only
  rw [if_neg (by omega), if_neg (by omega), if_neg (by omega), if_neg (by omega), if_neg (by omega), if_neg (by omega)]
  obtain ⟨_, hc⟩ := count_all (v := w) (d.gates[k]).args
  rw [Bool.eq_iff_iff, decide_eq_true_eq, hc, List.all_eq_true]
  exact ⟨fun h a ha => by rw [← e a ha]; exact h a ha, fun h a ha => by rw [e a ha]; exact h a ha⟩

/-- Is an event dormant in this gate? -/
def dormant (d : Dyn) (memo : List Int) (i : Int) (k : Nat) : Bool :=
  decide ((d.gates.getD k default).kind = 7) && decide (0 ≤ idxP (fun y => decide (i = y)) (d.gates.getD k default).args) && decide (idxP (fun y => decide (i = y)) (d.gates.getD k default).args ≠ memo.getD k 0)

/-- The gate in which it is dormant, or -1. -/
def dormAt (d : Dyn) (memo : List Int) (i : Int) : Int := idxP (dormant d memo i) (List.range d.gates.length)

theorem dormant_one {d : Dyn} (hc : checkR d = 0) {memo : List Int} {i : Int} {k j : Nat} (hk : k < d.gates.length) (hj : j < d.gates.length) (h1 : dormant d memo i k = true) (h2 : dormant d memo i j = true) : j = k := by
  unfold dormant at h1 h2
  rw [getD_lt hk] at h1
  rw [getD_lt hj] at h2
  simp only [Bool.and_eq_true, decide_eq_true_eq] at h1 h2
  have mem : ∀ (l : List Int), 0 ≤ idxP (fun y => decide (i = y)) l → i ∈ l := by
    intro l h
    rcases idxP_cases (fun y => decide (i = y)) l with ⟨h3, _⟩ | ⟨m, hm, _, h4, _⟩
    · omega
    · have : i = l[m] := by simpa using h4
      rw [this]; exact List.getElem_mem hm
  exact spare_one hc hk hj h1.1.1 h2.1.1 (mem _ h1.1.2) (mem _ h2.1.2)

theorem dormAt_is {d : Dyn} (hc : checkR d = 0) {memo : List Int} {i : Int} {k : Nat} (hk : k < d.gates.length) (h1 : dormant d memo i k = true) : dormAt d memo i = k := by
  unfold dormAt
  refine idxP_some (by simpa using hk) (by simpa using h1) fun j hj => ?_
  rw [List.getElem_range]
  cases h : dormant d memo i j with
  | false => rfl
  | true => have := dormant_one hc hk (by omega) h1 h; omega

theorem dormAt_not {d : Dyn} {memo : List Int} {i : Int} {k : Nat} (h1 : dormant d memo i k = false) : dormAt d memo i ≠ k := by
  unfold dormAt
  rcases idxP_cases (dormant d memo i) (List.range d.gates.length) with ⟨h3, _⟩ | ⟨m, hm, h3, h4, _⟩
  · omega
  · intro e
    rw [List.getElem_range] at h4
    have : m = k := by omega
    rw [this, h1] at h4; cases h4

theorem dormAt_lt {d : Dyn} {memo : List Int} {i : Int} : dormAt d memo i = -1 ∨ ∃ k : Nat, dormAt d memo i = k ∧ k < d.gates.length ∧ dormant d memo i k = true := by
  unfold dormAt
  rcases idxP_cases (dormant d memo i) (List.range d.gates.length) with ⟨h3, _⟩ | ⟨m, hm, h3, h4, _⟩
  · exact .inl h3
  · rw [List.getElem_range] at h4
    exact .inr ⟨m, h3, by simpa using hm, h4⟩
end S

open Go Go.AL Go.Proofs
namespace S
set_option maxRecDepth 100000

abbrev zr : Rat := ⟨false, [], []⟩

/-- The rate at which an event fails that is up. -/
def rateF (d : Dyn) (memo : List Int) (i : Int) : Rat :=
  if dormAt d memo i < 0 then d.fail.getD i.toNat zr else mulR (d.fail.getD i.toNat zr) (d.gates.getD (dormAt d memo i).toNat default).dorm

def rateR (d : Dyn) (s : St) (i : Int) : Rat × Rat × Int :=
  if checkSR d s ≠ 0 then (zr, zr, checkSR d s) else if i < 0 then (zr, zr, 10) else if d.vars ≤ i then (zr, zr, 10)
  else if s.failed.toNat.testBit i.toNat = true then (zr, if heldR d (valuesR d s.failed.toNat s.memo) i = true then zr else d.repair.getD i.toNat zr, 0)
  else (rateF d s.memo i, zr, 0)

theorem lightD_rats {d : Dyn} (h : lightD d = true) : (∀ x ∈ d.fail, x.num.length ≤ 40 ∧ x.den.length ≤ 40) ∧ (∀ x ∈ d.repair, x.num.length ≤ 40 ∧ x.den.length ≤ 40) ∧ (∀ g ∈ d.gates, g.dorm.num.length ≤ 40 ∧ g.dorm.den.length ≤ 40) := by
  simp only [lightD, lightL, Bool.and_eq_true] at h
  obtain ⟨⟨⟨h1, _, h2⟩, _, h3⟩, _⟩ := h
  have e : ∀ r : Rat, shortR r = true → r.num.length ≤ 40 ∧ r.den.length ≤ 40 := by
    intro r hr; simpa [shortR] using hr
  refine ⟨fun x hx => e x (List.all_eq_true.1 h2 x hx), fun x hx => e x (List.all_eq_true.1 h3 x hx), fun g hg => ?_⟩
  have := List.all_eq_true.1 h1 g hg
  simp only [lightG, Bool.and_eq_true] at this
  exact e _ this.2


theorem c_Rate (d : Dyn) (s : St) (i : Int) (hl : lightD d = true) (R : AV) (hR : R = .tup [(rateR d s i).1.av, (rateR d s i).2.1.av, errAV (rateR d s i).2.2]) : FnH Tryz.prog 13 [d.av, s.av, .int .i64 i] [] R [] := by
  have hd := lightD_C hl
  obtain ⟨lf, lr, lg⟩ := lightD_rats hl
  refine FnH.intro lay mixed Tryz.func13 (by kernel_rfl) rfl (by kernel_rfl) rfl fun hok => ?_
  have hga : ∀ g ∈ d.gates, g.args.length ≤ 9223372036854775807 := fun g hg => Gate.okArgs (Dyn.okGates hok.1 _ hg)
  ((try dsimp only [argC, succC]); (try dsimp only [awp]); (conv => whnf))
  refine .pure _ _ ?_ ⟨rfl, ?_⟩ (c_check d s hd _ rfl) fun _ => ?_
  · (repeat' (first | exact rfl | exact trivial | exact HWk.refl rfl | exact leRL_refl _ | (refine And.intro ?_ ?_)))
  · unfold errAV; split <;> rfl
  by_cases n0 : checkSR d s ≠ 0
  · rw [errAV_ne n0]
    obtain rfl : R = .tup [zr.av, zr.av, .ifc 104 (.int .i64 (checkSR d s))] := by
      rw [hR, show rateR d s i = (zr, zr, checkSR d s) from if_pos n0, errAV_ne n0]
    ((try dsimp only [awp]); (conv => whnf))
    (refine FinSpec.mono ?_; (conv => whnf); refine ⟨?_, rfl⟩; (conv => whnf))
    (repeat' (first | exact rfl | exact trivial | exact HWk.refl rfl | exact leRL_refl _ | (refine And.intro ?_ ?_)))
  have h0 : checkSR d s = 0 := by simpa using n0
  obtain ⟨hc, hs⟩ := checkSR_ok h0
  obtain ⟨hlf, hlr⟩ := checkR_lens hc
  have hT := checkR_ok hc
  rw [h0, errAV_zero]
  have hv := hT.vars
  have hgl := hT.gates
  have hp := pow_int (n := d.vars.toNat) (by omega)
  have hpos := hs.pos
  have hlt := hs.lt
  have hmo := hs.memoOk
  obtain ⟨f, hf⟩ : ∃ f : Nat, s.failed = f := ⟨s.failed.toNat, by omega⟩
  obtain ⟨fl, memo⟩ := s
  simp only at hf
  subst hf
  have hlt : (f : Int) < (2 ^ d.vars.toNat : Nat) := hlt
  have hmo : MemoOk d memo := hmo
  have err : ∀ e : Int, rateR d ⟨f, memo⟩ i = (zr, zr, e) → e ≠ 0 → R = .tup [zr.av, zr.av, .ifc 104 (.int .i64 e)] := by
    intro e he h0
    rw [hR, he, errAV_ne h0]
  ((try dsimp only [awp]); (conv => whnf))
  refine And.intro (fun n1 => ?_) (fun n1 => ?_)
  · obtain rfl := err 10 (by unfold rateR; rw [if_neg n0, if_pos n1]) (by decide)
    ((try dsimp only [awp]); (conv => whnf))
    (refine FinSpec.mono ?_; (conv => whnf); refine ⟨?_, rfl⟩; (conv => whnf))
    (repeat' (first | exact rfl | exact trivial | exact HWk.refl rfl | exact leRL_refl _ | (refine And.intro ?_ ?_)))
  ((try dsimp only [awp]); (conv => whnf))
  refine And.intro (fun n2 => ?_) (fun n2 => ?_)
  · obtain rfl := err 10 (by unfold rateR; rw [if_neg n0, if_neg n1, if_pos n2]) (by decide)
    ((try dsimp only [awp]); (conv => whnf))
    (refine FinSpec.mono ?_; (conv => whnf); refine ⟨?_, rfl⟩; (conv => whnf))
    (repeat' (first | exact rfl | exact trivial | exact HWk.refl rfl | exact leRL_refl _ | (refine And.intro ?_ ?_)))
  obtain ⟨j, rfl⟩ : ∃ j : Nat, i = j := ⟨i.toNat, by omega⟩
  have hj2 : 2 ^ j < 2 ^ d.vars.toNat := Nat.pow_lt_pow_right (by omega) (by omega)
  ((try dsimp only [awp]); (conv => whnf))
  refine ⟨by omega, ?_⟩
  have hb := bit_test (a := f) (i := j) (by omega) (by omega)
  (conv => whnf)
  rw [hb]
  ((try dsimp only [awp]); (conv => whnf))
  refine And.intro (fun n3 => ?_) (fun n3 => ?_)
  · have n3 : f.testBit j = true := by
      cases hbit : f.testBit j with
      | true => rfl
      | false => rw [hbit] at n3; simp at n3
    have hRR : rateR d ⟨f, memo⟩ j = (zr, if heldR d (valuesR d f memo) j = true then zr else d.repair.getD j zr, 0) := by
      unfold rateR; rw [if_neg n0, if_neg n1, if_neg n2]; exact if_pos n3
    rw [hRR] at hR
    ((try dsimp only [awp]); (conv => whnf))
    refine .pure _ _ ?_ ⟨rfl, rfl⟩ (c_held d f memo j (by omega) hT hmo.len) fun _ => ?_
    · (repeat' (first | exact rfl | exact trivial | exact HWk.refl rfl | exact leRL_refl _ | (refine And.intro ?_ ?_)))
    ((try dsimp only [awp]); (conv => whnf))
    refine And.intro (fun n4 => ?_) (fun n4 => ?_)
    · ((try dsimp only [awp]); (conv => whnf))
      refine aidxN zr (by omega) ?_
      have hm := lr _ (getD_mem (d := zr) (show j < d.repair.length by omega))
      have n4 : ¬ heldR d (valuesR d f memo) j = true := by simpa using n4
      rw [if_neg n4] at hR
      subst hR
      generalize d.repair.getD j zr = rr at *
      ((try dsimp only [awp]); (conv => whnf))
      refine .pure _ _ ?_ ⟨rfl, rfl⟩ (c_dclone rr (by omega) (by omega)) fun _ => ?_
      · exact leL_refl _
      ((try dsimp only [awp]); (conv => whnf))
      (refine ADraw.all (by kernel_rfl) ?_; (conv => whnf); (repeat' (first | exact trivial | (refine And.intro ?_ ?_ <;> (conv => whnf)))))
      all_goals
        (refine FinSpec.mono ?_; (conv => whnf); refine ⟨?_, rfl⟩; (conv => whnf))
        (repeat' (first | exact rfl | exact trivial | exact HWk.refl rfl | exact leRL_refl _ | (refine And.intro ?_ ?_)))
    · have n4 : heldR d (valuesR d f memo) j = true := by simpa using n4
      rw [if_pos n4] at hR
      subst hR
      ((try dsimp only [awp]); (conv => whnf))
      (refine ADraw.all (by kernel_rfl) ?_; (conv => whnf); (repeat' (first | exact trivial | (refine And.intro ?_ ?_ <;> (conv => whnf)))))
      all_goals
        (refine FinSpec.mono ?_; (conv => whnf); refine ⟨?_, rfl⟩; (conv => whnf))
        (repeat' (first | exact rfl | exact trivial | exact HWk.refl rfl | exact leRL_refl _ | (refine And.intro ?_ ?_)))
  have n3 : f.testBit j = false := by
    cases hbit : f.testBit j with
    | false => rfl
    | true => rw [hbit] at n3; simp at n3
  have hRR : rateR d ⟨f, memo⟩ j = (rateF d memo j, zr, 0) := by
    unfold rateR; rw [if_neg n0, if_neg n1, if_neg n2]; exact if_neg (by show ¬ f.testBit j = true; simp [n3])
  rw [hRR] at hR
  have hfm := lf _ (getD_mem (d := zr) (show j < d.fail.length by omega))
  have hrF : rateF d memo j = if dormAt d memo j < 0 then d.fail.getD j zr else mulR (d.fail.getD j zr) (d.gates.getD (dormAt d memo j).toNat default).dorm := rfl
  have hml : memo.length = d.gates.length := hmo.len
  ((try dsimp only [awp]); (conv => whnf))
  refine aidxN zr (by omega) ?_
  generalize d.fail.getD j zr = fr at *
  ((try dsimp only [awp]); (conv => whnf))
  refine .pure _ _ ?_ ⟨rfl, rfl⟩ (c_dclone fr (by omega) (by omega)) fun _ => ?_
  · exact leL_refl _
  ((try dsimp only [awp]); (conv => whnf))
  refine LoopE.of <| LoopSpec.inv (.refl _ _) (fun k : Nat => k ≤ d.gates.length) (fun k => [(60, .int .i64 k)])
    (fun k => [(3, .box zr.av), (2, .box (if 0 ≤ dormAt d memo j ∧ dormAt d memo j < k then mulR fr (d.gates.getD (dormAt d memo j).toNat default).dorm else fr).av), (1, .box (St.av ⟨f, memo⟩)), (0, .box d.av)]) (fun k => d.gates.length - k) 0 ?_ (fun _ => rfl) ?_ ?_
  · exact Nat.zero_le _
  · rw [show (if 0 ≤ dormAt d memo j ∧ dormAt d memo j < ((0 : Nat) : Int) then mulR fr (d.gates.getD (dormAt d memo j).toNat default).dorm else fr) = fr from if_neg (by omega)]
    refine ⟨?_, .mk ?_ ⟨by simp, by simp, by simp, by simp, trivial⟩⟩
    · (repeat' (first | exact rfl | exact trivial | exact HWk.refl rfl | exact leRL_refl _ | (refine And.intro ?_ ?_)))
    · (repeat' (first | exact rfl | exact trivial | exact HWk.refl rfl | exact leRL_refl _ | (refine And.intro ?_ ?_)))
  intro k hk _
  generalize hr : (if 0 ≤ dormAt d memo j ∧ dormAt d memo j < (k : Int) then mulR fr (d.gates.getD (dormAt d memo j).toNat default).dorm else fr) = r
  ((try dsimp only [awp]); (conv => whnf))
  refine And.intro (fun h => ?_) (fun h => ?_)
  · have hkl : k < d.gates.length := by simpa using h
    have hm := List.getElem_mem hkl
    have hal := hga _ hm
    have hgd := lg _ hm
    have hdo : dormant d memo j k = (decide ((d.gates[k]).kind = 7) && decide (0 ≤ idxP (fun y => decide ((j : Int) = y)) (d.gates[k]).args) && decide (idxP (fun y => decide ((j : Int) = y)) (d.gates[k]).args ≠ memo.getD k 0)) := by unfold dormant; rw [getD_lt hkl]
    have hyes : dormant d memo j k = true → r = fr ∧ (if 0 ≤ dormAt d memo j ∧ dormAt d memo j < ((k + 1 : Nat) : Int) then mulR fr (d.gates.getD (dormAt d memo j).toNat default).dorm else fr) = mulR fr (d.gates[k]).dorm := by
      intro h
      have e := dormAt_is hc hkl h
      rw [e] at hr ⊢
      rw [if_neg (by omega)] at hr
      rw [if_pos (by omega), Int.toNat_natCast, getD_lt hkl]
      exact ⟨hr.symm, rfl⟩
    have hno : dormant d memo j k = false → (if 0 ≤ dormAt d memo j ∧ dormAt d memo j < ((k + 1 : Nat) : Int) then mulR fr (d.gates.getD (dormAt d memo j).toNat default).dorm else fr) = r := by
      intro h
      have e := dormAt_not h
      rw [← hr]
      by_cases h2 : 0 ≤ dormAt d memo j ∧ dormAt d memo j < (k : Int)
      · rw [if_pos h2, if_pos (by omega)]
      · rw [if_neg h2, if_neg (by omega)]
    ((try dsimp only [awp]); (conv => whnf))
    refine aidx hkl ?_
    generalize d.gates[k] = g at *
    ((try dsimp only [awp]); (conv => whnf))
    refine .pure _ _ ?_ ⟨rfl, rfl⟩ (c_indexInt g.args j) fun _ => ?_
    · (repeat' (first | exact rfl | exact trivial | exact HWk.refl rfl | exact leRL_refl _ | (refine And.intro ?_ ?_)))
    generalize idxP (fun y => decide ((j : Int) = y)) g.args = x at *
    ((try dsimp only [awp]); (conv => whnf))
    refine And.intro (fun h7 => ?_) (fun h7 => ?_)
    · ((try dsimp only [awp]); (conv => whnf))
      refine And.intro (fun hx => ?_) (fun hx => ?_)
      · ((try dsimp only [awp]); (conv => whnf))
        refine aidxN 0 (show k < memo.length by omega) ?_
        ((try dsimp only [awp]); (conv => whnf))
        refine And.intro (fun hne => ?_) (fun hne => ?_)
        · have hd1 : dormant d memo j k = true := by rw [hdo, h7]; simpa using ⟨hx, hne⟩
          obtain ⟨e1, e2⟩ := hyes hd1
          subst e1
          ((try dsimp only [awp]); (conv => whnf))
          refine .pure _ _ ?_ ⟨rfl, rfl⟩ (c_mulRat r g.dorm (by omega) (by omega) (by omega) (by omega)) fun _ => ?_
          · exact leL_refl _
          ((try dsimp only [awp]); (conv => whnf))
          (refine ⟨inr64 (by omega) (by omega), ?_⟩; (conv => whnf))
          refine ⟨k + 1, ?_, ?_, ?_⟩
          · exact hkl
          · rw [e2]
            refine ⟨?_, .mk ?_ ⟨by simp, by simp, by simp, by simp, trivial⟩⟩
            · (repeat' (first | exact rfl | exact trivial | exact HWk.refl rfl | exact leRL_refl _ | (refine And.intro ?_ ?_)))
            · (repeat' (first | exact rfl | exact trivial | exact HWk.refl rfl | exact leRL_refl _ | (refine And.intro ?_ ?_)))
          · omega
        · have hd1 : dormant d memo j k = false := by rw [hdo]; simp at hne; simp [hne]
          ((try dsimp only [awp]); (conv => whnf))
          (refine ⟨inr64 (by omega) (by omega), ?_⟩; (conv => whnf))
          refine ⟨k + 1, ?_, ?_, ?_⟩
          · exact hkl
          · rw [hno hd1]
            refine ⟨?_, .mk ?_ ⟨by simp, by simp, by simp, by simp, trivial⟩⟩
            · (repeat' (first | exact rfl | exact trivial | exact HWk.refl rfl | exact leRL_refl _ | (refine And.intro ?_ ?_)))
            · (repeat' (first | exact rfl | exact trivial | exact HWk.refl rfl | exact leRL_refl _ | (refine And.intro ?_ ?_)))
          · omega
      · have hd1 : dormant d memo j k = false := by
          have hx' : decide (0 ≤ x) = false := by simpa using hx
          rw [hdo, hx']; simp
        ((try dsimp only [awp]); (conv => whnf))
        (refine ⟨inr64 (by omega) (by omega), ?_⟩; (conv => whnf))
        refine ⟨k + 1, ?_, ?_, ?_⟩
        · exact hkl
        · rw [hno hd1]
          refine ⟨?_, .mk ?_ ⟨by simp, by simp, by simp, by simp, trivial⟩⟩
          · (repeat' (first | exact rfl | exact trivial | exact HWk.refl rfl | exact leRL_refl _ | (refine And.intro ?_ ?_)))
          · (repeat' (first | exact rfl | exact trivial | exact HWk.refl rfl | exact leRL_refl _ | (refine And.intro ?_ ?_)))
        · omega
    · have hd1 : dormant d memo j k = false := by rw [hdo]; simp [h7]
      ((try dsimp only [awp]); (conv => whnf))
      (refine ⟨inr64 (by omega) (by omega), ?_⟩; (conv => whnf))
      refine ⟨k + 1, ?_, ?_, ?_⟩
      · exact hkl
      · rw [hno hd1]
        refine ⟨?_, .mk ?_ ⟨by simp, by simp, by simp, by simp, trivial⟩⟩
        · (repeat' (first | exact rfl | exact trivial | exact HWk.refl rfl | exact leRL_refl _ | (refine And.intro ?_ ?_)))
        · (repeat' (first | exact rfl | exact trivial | exact HWk.refl rfl | exact leRL_refl _ | (refine And.intro ?_ ?_)))
      · omega
  have hkl : k = d.gates.length := by have : ¬ k < d.gates.length := by simpa using h
                                      omega
  subst hkl
  have hfin : r = rateF d memo j := by
    rw [← hr, hrF]
    rcases dormAt_lt (d := d) (memo := memo) (i := (j : Int)) with h1 | ⟨k, h1, h2, _⟩
    · rw [h1, if_neg (by omega), if_pos (by omega)]
    · rw [h1, if_pos (by omega), if_neg (by omega)]
  subst hfin
  subst hR
  ((try dsimp only [awp]); (conv => whnf))
  (refine FinSpec.mono ?_; (conv => whnf); refine ⟨?_, rfl⟩; (conv => whnf))
  (repeat' (first | exact rfl | exact trivial | exact HWk.refl rfl | exact leRL_refl _ | (refine And.intro ?_ ?_)))
end S
