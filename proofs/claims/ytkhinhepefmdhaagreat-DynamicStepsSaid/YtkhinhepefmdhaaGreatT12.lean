/-
  Contracts of functions of the program, over the logic of the texts before. Nothing is assumed.
-/
import Derived.Test.YtkhinhepefmdhaaGreatT11

open Go Go.AL Go.Proofs
namespace S
set_option maxRecDepth 100000

/-- The events of the spare gates of a list. -/
def spAll (l : List Gate) : List Int := l.flatMap fun g => if g.kind = 7 then g.args else []

theorem spAll_take {l : List Gate} {i : Nat} (h : i < l.length) : spAll (l.take (i + 1)) = spAfter l[i] (spAll (l.take i)) := by
  unfold spAll spAfter
  rw [List.take_add_one, List.getElem?_eq_getElem h, List.flatMap_append]
  split <;> rename_i h7
  · simp [h7]
  · simp [h7]

theorem twice_append : ∀ (l m sp : List Int), twice sp (l ++ m) = (twice sp l || twice (sp ++ l) m)
  | [], m, sp => by simp [twice]
  | a :: l, m, sp => by
    simp only [List.cons_append, twice]
    rw [twice_append l m (sp ++ [a]), Bool.or_assoc]
    simp

theorem spAll_len : ∀ {l : List Gate}, (∀ g ∈ l, g.args.length ≤ 16) → (spAll l).length ≤ 16 * l.length
  | [], _ => by simp [spAll]
  | g :: l, h => by
    have h1 := h g (by simp)
    have h2 := spAll_len (l := l) fun x hx => h x (by simp [hx])
    have e : spAll (g :: l) = (if g.kind = 7 then g.args else []) ++ spAll l := rfl
    rw [e, List.length_append, List.length_cons]
    split
    · omega
    · rw [List.length_nil]; omega

theorem c_twice48 (d : Dyn) (i : Nat) (hi : i < d.gates.length) (hg : d.gates.length ≤ 64) (ha : ∀ k (h : k < d.gates.length), k ≤ i → (d.gates[k]).args.length ≤ 16) (R : AV) (hR : R = .bool (twice [] (spAll (d.gates.take (i + 1))))) :
    FnH Tryz.prog 127 [d.av, .int .i64 i] [] R [] := by
  refine FnH.intro lay mixed Tryz.func127 (by kernel_rfl) rfl (by kernel_rfl) rfl fun hok => ?_
  ((try dsimp only [argC, succC]); (try dsimp only [awp]); (conv => whnf))
  have hdl : (d.gates.map Gate.av).length = d.gates.length := by simp
  have len16 : ∀ g ∈ d.gates.take (i + 1), g.args.length ≤ 16 := fun g hg' => by
    obtain ⟨k, hk, rfl⟩ := List.getElem_of_mem hg'
    simp only [List.length_take] at hk
    rw [List.getElem_take]
    exact ha k (by omega) (by omega)
  have slen : ∀ k, k ≤ i + 1 → (spAll (d.gates.take k)).length ≤ 1024 := fun k hk => by
    have := spAll_len (l := d.gates.take k) fun g hg' => len16 g (by rw [show d.gates.take k = (d.gates.take (i + 1)).take k by rw [List.take_take, Nat.min_eq_left hk]] at hg'; exact List.mem_of_mem_take hg')
    rw [List.length_take] at this
    omega
  have sub : ∀ k, k ≤ i + 1 → twice [] (spAll (d.gates.take k)) = true → twice [] (spAll (d.gates.take (i + 1))) = true := fun k hk h => by
    have e : d.gates.take (i + 1) = d.gates.take k ++ (d.gates.take (i + 1)).drop k := by
      have := List.take_append_drop k (d.gates.take (i + 1))
      rw [List.take_take, Nat.min_eq_left hk] at this
      exact this.symm
    rw [e]
    unfold spAll at h ⊢
    rw [List.flatMap_append, twice_append, h]; rfl
  refine LoopE.of <| LoopSpec.inv (.grow 5 1 [] _ rfl (.inl ⟨rfl, rfl⟩) (.refl _ _)) (fun k : Nat => k ≤ i + 1 ∧ twice [] (spAll (d.gates.take k)) = false)
    (fun k => [(6, .int .i64 k), (5, .sl 1 ((spAll (d.gates.take k)).map (.int .i64)) (.own 1))]) (fun k => [(1, .tok 1 (spAll (d.gates.take k)).length), (0, .box d.av)])
    (fun k => i + 1 - k) 0 ?_ (fun _ => rfl) ?_ ?_
  · exact ⟨Nat.zero_le _, by simp [spAll, twice]⟩
  · refine ⟨?_, .mk ?_ ⟨by simp, by simp, trivial⟩⟩
    · (repeat' (first | exact rfl | exact trivial | exact HWk.refl rfl | exact leRL_refl _ | (refine And.intro ?_ ?_)))
    · (repeat' (first | exact rfl | exact trivial | exact HWk.refl rfl | exact leRL_refl _ | (refine And.intro ?_ ?_)))
  rintro k ⟨hk, hn⟩ _
  ((try dsimp only [awp]); (conv => whnf))
  refine And.intro (fun h => ?_) (fun h => ?_)
  · have hki : k ≤ i := by omega
    have hkl : k < d.gates.length := by omega
    have hst := spAll_take hkl
    have hsl := slen k (by omega)
    have hsl1 := slen (k + 1) (by omega)
    have h16 := ha k hkl hki
    have hsub := sub (k + 1) (by omega)
    generalize spAll (d.gates.take k) = sp at *
    ((try dsimp only [awp]); (conv => whnf))
    refine aidx hkl ?_
    generalize hg0 : d.gates[k] = g at *
    ((try dsimp only [awp]); (conv => whnf))
    refine And.intro (fun h7 => ?_) (fun h7 => ?_)
    · have e : spAfter g sp = sp := if_neg h7
      rw [e] at hst
      ((try dsimp only [awp]); (conv => whnf))
      (refine ⟨inr64 (by omega) (by omega), ?_⟩; (conv => whnf))
      refine ⟨k + 1, ?_, ?_, ?_⟩
      · rw [hst]; exact ⟨by omega, hn⟩
      · rw [hst]
        refine ⟨?_, .mk ?_ ⟨by simp, by simp, trivial⟩⟩
        · (repeat' (first | exact rfl | exact trivial | exact HWk.refl rfl | exact leRL_refl _ | (refine And.intro ?_ ?_)))
        · (repeat' (first | exact rfl | exact trivial | exact HWk.refl rfl | exact leRL_refl _ | (refine And.intro ?_ ?_)))
      · omega
    · have e : spAfter g sp = sp ++ g.args := if_pos (by omega)
      rw [e] at hst
      rw [hst] at hsub
      have htw := twice_append sp g.args []
      rw [hn, Bool.false_or, List.nil_append] at htw
      have htw' : twice [] (sp ++ g.args) = twice sp g.args := htw
      have hst2 := hst
      ((try dsimp only [awp]); (conv => whnf))
      refine aidx hkl ?_
      rw [hg0]
      clear hst
      have hyes : twice sp g.args = true → R = .bool true := fun h => by rw [hR, hsub (by rw [htw', h])]
      ((try dsimp only [awp]); (conv => whnf))
      refine LoopE.of <| LoopSpec.inv (.refl _ _) (fun j : Nat => j ≤ g.args.length ∧ twice sp (g.args.take j) = false)
        (fun j => [(30, .int .i64 j), (5, .sl 1 ((sp ++ g.args.take j).map (.int .i64)) (.own 1))]) (fun j => [(1, .tok 1 (sp.length + j)), (0, .box d.av)])
        (fun j => g.args.length - j) 0 ?_ (fun _ => rfl) ?_ ?_
      · exact ⟨Nat.zero_le _, by simp [twice]⟩
      · refine ⟨?_, .mk ?_ ⟨by simp, by simp, trivial⟩⟩
        · (repeat' (first | exact rfl | exact trivial | exact HWk.refl rfl | exact leRL_refl _ | (refine And.intro ?_ ?_)))
          all_goals first | exact leRL_of (by simp) | simp
        · (repeat' (first | exact rfl | exact trivial | exact HWk.refl rfl | exact leRL_refl _ | (refine And.intro ?_ ?_)))
      rintro j ⟨hj, hnj⟩ _
      ((try dsimp only [awp]); (conv => whnf))
      refine And.intro (fun hh => ?_) (fun hh => ?_)
      · have hlt : j < g.args.length := by simpa using hh
        have htk : g.args.take (j + 1) = g.args.take j ++ [g.args[j]] := by rw [List.take_add_one, List.getElem?_eq_getElem hlt]; rfl
        have hta := twice_append (g.args.take j) [g.args[j]] sp
        rw [← htk, hnj, Bool.false_or] at hta
        simp only [twice, Bool.or_false] at hta
        have hall := twice_append (g.args.take (j + 1)) (g.args.drop (j + 1)) sp
        rw [List.take_append_drop] at hall
        have htl : (g.args.take j).length = j := by simp; omega
        ((try dsimp only [awp]); (conv => whnf))
        refine aidx hlt ?_
        generalize g.args[j] = a at *
        generalize hL : sp ++ g.args.take j = l at *
        have hll : l.length = sp.length + j := by rw [← hL]; simp; omega
        ((try dsimp only [awp]); (conv => whnf))
        refine LoopE.of <| LoopSpec.inv (.refl _ _) (fun (m : Nat) => m ≤ l.length ∧ ∀ (q : Nat) (hq : q < l.length), q < m → a ≠ l[q]) (fun (m : Nat) => [(36, .int .i64 m)]) (fun _ => _) (fun (m : Nat) => l.length - m) 0 ?_ (fun _ => rfl) ?_ ?_
        · exact ⟨Nat.zero_le _, by omega⟩
        · (repeat' (first | exact rfl | exact trivial | exact HWk.refl rfl | exact leRL_refl _ | (refine And.intro ?_ ?_)))
        rintro m ⟨hm, hmn⟩ _
        ((try dsimp only [awp]); (conv => whnf))
        refine And.intro (fun hb => ?_) (fun hb => ?_)
        · have hml : m < l.length := by simpa using hb
          ((try dsimp only [awp]); (conv => whnf))
          refine aidx hml ?_
          ((try dsimp only [awp]); (conv => whnf))
          refine And.intro (fun he => ?_) (fun he => ?_)
          · obtain rfl := hyes (by rw [hall, hta]; rw [show (l.any fun y => decide (a = y)) = true from List.any_eq_true.2 ⟨_, List.getElem_mem hml, decide_eq_true he⟩]; rfl)
            ((try dsimp only [awp]); (conv => whnf))
            (refine FinSpec.mono ?_; (conv => whnf); refine ⟨?_, rfl⟩; (conv => whnf))
            (repeat' (first | exact rfl | exact trivial | exact HWk.refl rfl | exact leRL_refl _ | (refine And.intro ?_ ?_)))
          · ((try dsimp only [awp]); (conv => whnf))
            (refine ⟨inr64 (by omega) (by omega), ?_⟩; (conv => whnf))
            refine ⟨m + 1, ?_, ?_, ?_⟩
            · refine ⟨hml, fun q hq hqm => ?_⟩
              by_cases hqe : q = m
              · subst hqe; exact he
              · exact hmn q hq (by omega)
            · (repeat' (first | exact rfl | exact trivial | exact HWk.refl rfl | exact leRL_refl _ | (refine And.intro ?_ ?_)))
            · omega
        · have hml : m = l.length := by have : ¬ m < l.length := by simpa using hb
                                        omega
          subst hml
          have hno : (l.any fun y => decide (a = y)) = false := by
            rw [List.any_eq_false]
            intro x hx
            obtain ⟨q, hq, rfl⟩ := List.getElem_of_mem hx
            simpa using hmn q hq hq
          ((try dsimp only [awp]); (conv => whnf))
          refine ⟨by rw [List.length_map]; omega, .mk (by simp [maxL]; omega) (by simp; omega) ?_⟩
          ((try dsimp only [awp]); (conv => whnf))
          (refine ⟨inr64 (by omega) (by omega), ?_⟩; (conv => whnf))
          refine ⟨j + 1, ?_, ?_, ?_⟩
          · exact ⟨hlt, by rw [hta, hno]⟩
          · refine ⟨?_, .mk ?_ ⟨by simp, by simp, trivial⟩⟩
            · (repeat' (first | exact rfl | exact trivial | exact HWk.refl rfl | exact leRL_refl _ | (refine And.intro ?_ ?_)))
              all_goals first | (refine leRL_of ?_; rw [htk, ← hL]; simp [strip]; done) | (refine leRL_of ?_; simp [strip]; done) | simp
            · (repeat' (first | exact rfl | exact trivial | exact HWk.refl rfl | exact leRL_refl _ | (refine And.intro ?_ ?_)))
              all_goals first | (simp; omega) | simp
          · omega
      · have hjl : j = g.args.length := by have : ¬ j < g.args.length := by simpa using hh
                                           omega
        subst hjl
        rw [List.take_length] at *
        ((try dsimp only [awp]); (conv => whnf))
        (refine ⟨inr64 (by omega) (by omega), ?_⟩; (conv => whnf))
        refine ⟨k + 1, ?_, ?_, ?_⟩
        · exact ⟨by omega, by rw [hst2]; rw [htw', hnj]⟩
        · rw [hst2]
          refine ⟨?_, .mk ?_ ⟨by simp, by simp, trivial⟩⟩
          · (repeat' (first | exact rfl | exact trivial | exact HWk.refl rfl | exact leRL_refl _ | (refine And.intro ?_ ?_)))
          · (repeat' (first | exact rfl | exact trivial | exact HWk.refl rfl | exact leRL_refl _ | (refine And.intro ?_ ?_)))
            all_goals simp
        · omega
  · have hki : k = i + 1 := by omega
    subst hki
    rw [hn] at hR
    subst hR
    ((try dsimp only [awp]); (conv => whnf))
    (refine FinSpec.mono ?_; (conv => whnf); refine ⟨?_, rfl⟩; (conv => whnf))
    (repeat' (first | exact rfl | exact trivial | exact HWk.refl rfl | exact leRL_refl _ | (refine And.intro ?_ ?_)))
end S

open Go Go.AL Go.Proofs
namespace S
set_option maxRecDepth 100000

theorem bounds_zero (k : Int) : (boundsR k).2 = 0 ↔ (k < 0 ∨ 8 < k) := by
  unfold boundsR
  split
  · constructor
    · intro h; cases h
    · intro h; omega
  split
  · constructor
    · intro h; cases h
    · intro h; omega
  split
  · constructor
    · intro h; cases h
    · intro h; omega
  split
  · constructor
    · intro h; cases h
    · intro h; omega
  · constructor
    · intro _; omega
    · intro _; rfl

theorem bounds_args {k n : Int} (h : (boundsR k).2 ≠ 0) : argsR k n = (decide ((boundsR k).1 ≤ n) && decide (n ≤ (boundsR k).2)) := by
  have h0 : ¬ (k < 0 ∨ 8 < k) := fun e => h ((bounds_zero k).2 e)
  unfold boundsR at *
  unfold argsR
  by_cases h3 : k = 3
  · subst h3; rw [Bool.eq_iff_iff]; simp; omega
  rw [if_neg h3]
  by_cases h5 : k = 5
  · subst h5; rw [Bool.eq_iff_iff]; simp; omega
  rw [if_neg h5]
  by_cases h6 : k = 6 ∨ k = 7 ∨ k = 8
  · rw [if_pos h6, if_neg (by omega), if_neg h3, if_neg h5, if_pos h6]
    simp
  · rw [if_neg h6, if_pos (by omega)]
    simp



theorem c_gate48 (h1 : OneC) (d : Dyn) (i : Nat) (hi : i < d.gates.length) (hv : 0 ≤ d.vars ∧ d.vars ≤ 24) (hg : d.gates.length ≤ 64) (ha : ∀ k (h : k < d.gates.length), k < i → (d.gates[k]).args.length ≤ 16)
    (hsp : twice [] (spAll (d.gates.take i)) = false) (hdm : (d.gates[i]).dorm.num.length ≤ 40 ∧ (d.gates[i]).dorm.den.length ≤ 40) (R : AV) (hR : R = .int .i64 (gateErr d i d.gates[i] (spAll (d.gates.take i)))) :
    FnH Tryz.prog 58 [d.av, .int .i64 i] [] R [] := by
  have c2 : (d.gates[i]).args.length ≤ 16 → ∀ (R : AV) (hR : R = .bool (twice [] (spAll (d.gates.take (i + 1))))), FnH Tryz.prog 127 [d.av, .int .i64 i] [] R [] := fun h => c_twice48 d i hi hg fun k hk hki => by
    by_cases e : k = i
    · subst e; exact h
    · exact ha k hk (by omega)
  have hst := spAll_take hi
  refine FnH.intro lay mixed Tryz.func58 (by kernel_rfl) rfl (by kernel_rfl) rfl fun hok => ?_
  have hal : (d.gates[i]).args.length ≤ 9223372036854775807 := Gate.okArgs (Dyn.okGates hok.1 _ (List.getElem_mem hi))
  ((try dsimp only [argC, succC]); (try dsimp only [awp]); (conv => whnf))
  refine aidx hi ?_
  generalize spAll (d.gates.take i) = sp at *
  generalize spAll (d.gates.take (i + 1)) = sp1 at *
  generalize d.gates[i] = g at *
  have err : ∀ e : Int, gateErr d i g sp = e → R = .int .i64 e := by
    intro e he
    rw [hR, he]
  have cb := c_bounds g.kind _ rfl
  have cp := c_rProb h1 g.dorm (by omega) (by omega)
  have cz := c_zero48 g.dorm
  have bz := bounds_zero g.kind
  have ba := bounds_args (k := g.kind) (n := g.args.length)
  generalize boundsR g.kind = bd at *
  obtain ⟨b1, b2⟩ := bd
  ((try dsimp only [awp]); (conv => whnf))
  refine .pure _ _ ?_ ⟨rfl, rfl⟩ cb fun _ => ?_
  · exact leL_refl _
  ((try dsimp only [awp]); (conv => whnf))
  refine And.intro (fun n0 => ?_) (fun n0 => ?_)
  · have n1 := bz.1 n0
    by_cases n2 : g.kind < 0
    · obtain rfl := err 7 (by unfold gateErr; rw [if_pos n2])
      ((try dsimp only [awp]); (conv => whnf))
      (refine FinSpec.mono ?_; (conv => whnf); refine ⟨?_, rfl⟩; (conv => whnf))
      (repeat' (first | exact rfl | exact trivial | exact HWk.refl rfl | exact leRL_refl _ | (refine And.intro ?_ ?_)))
    · have n3 : 8 < g.kind := by omega
      obtain rfl := err 7 (by unfold gateErr; rw [if_neg n2, if_pos n3])
      ((try dsimp only [awp]); (conv => whnf))
      (refine FinSpec.mono ?_; (conv => whnf); refine ⟨?_, rfl⟩; (conv => whnf))
      (repeat' (first | exact rfl | exact trivial | exact HWk.refl rfl | exact leRL_refl _ | (refine And.intro ?_ ?_)))
  have n1 : ¬ g.kind < 0 := fun h => n0 (bz.2 (.inl h))
  have n2 : ¬ 8 < g.kind := fun h => n0 (bz.2 (.inr h))
  have ba := ba n0
  dsimp only at ba
  ((try dsimp only [awp]); (conv => whnf))
  refine And.intro (fun m1 => ?_) (fun m1 => ?_)
  · have n3 : argsR g.kind g.args.length = false := by rw [ba]; simp at m1 ⊢; omega
    obtain rfl := err 11 (by unfold gateErr; rw [if_neg n1, if_neg n2, if_pos n3])
    ((try dsimp only [awp]); (conv => whnf))
    (refine FinSpec.mono ?_; (conv => whnf); refine ⟨?_, rfl⟩; (conv => whnf))
    (repeat' (first | exact rfl | exact trivial | exact HWk.refl rfl | exact leRL_refl _ | (refine And.intro ?_ ?_)))
  ((try dsimp only [awp]); (conv => whnf))
  refine And.intro (fun m2 => ?_) (fun m2 => ?_)
  · have n3 : argsR g.kind g.args.length = false := by rw [ba]; simp at m2 ⊢; omega
    obtain rfl := err 11 (by unfold gateErr; rw [if_neg n1, if_neg n2, if_pos n3])
    ((try dsimp only [awp]); (conv => whnf))
    (refine FinSpec.mono ?_; (conv => whnf); refine ⟨?_, rfl⟩; (conv => whnf))
    (repeat' (first | exact rfl | exact trivial | exact HWk.refl rfl | exact leRL_refl _ | (refine And.intro ?_ ?_)))
  have n3 : argsR g.kind g.args.length = true := by rw [ba]; simp at m1 m2 ⊢; omega
  have h16 : g.args.length ≤ 16 := argsR_le n3
  have n3 : ¬ argsR g.kind g.args.length = false := by simp [n3]
  have c2 := c2 h16 _ rfl
  clear m1 m2 ba bz n0
  ((try dsimp only [awp]); (conv => whnf))
  refine LoopE.of <| LoopSpec.inv (.refl _ _) (fun (j : Nat) => j ≤ g.args.length ∧ ((g.args.take j).any fun a => decide (a < 0) || decide (d.vars + i ≤ a)) = false) (fun (j : Nat) => [(40, .int .i64 j)]) (fun _ => _) (fun (j : Nat) => g.args.length - j) 0 ?_ (fun _ => rfl) ?_ ?_
  · exact ⟨Nat.zero_le _, by simp⟩
  · (repeat' (first | exact rfl | exact trivial | exact HWk.refl rfl | exact leRL_refl _ | (refine And.intro ?_ ?_)))
  rintro j ⟨hj, hn⟩ _
  ((try dsimp only [awp]); (conv => whnf))
  refine And.intro (fun h => ?_) (fun h => ?_)
  · have hlt : j < g.args.length := by simpa using h
    have hany := any_take (p := fun a => decide (a < 0) || decide (d.vars + i ≤ a)) hlt
    rw [hn, Bool.false_or] at hany
    have hmem := List.getElem_mem hlt
    ((try dsimp only [awp]); (conv => whnf))
    refine aidx hlt ?_
    generalize g.args[j] = a at *
    ((try dsimp only [awp]); (conv => whnf))
    refine And.intro (fun m1 => ?_) (fun m1 => ?_)
    · obtain rfl := err 10 (by unfold gateErr; rw [if_neg n1, if_neg n2, if_neg n3, if_pos (List.any_eq_true.2 ⟨a, hmem, by simp [m1]⟩)])
      ((try dsimp only [awp]); (conv => whnf))
      (refine FinSpec.mono ?_; (conv => whnf); refine ⟨?_, rfl⟩; (conv => whnf))
      (repeat' (first | exact rfl | exact trivial | exact HWk.refl rfl | exact leRL_refl _ | (refine And.intro ?_ ?_)))
    ((try dsimp only [awp]); (conv => whnf))
    (refine ⟨inr64 (by omega) (by omega), ?_⟩; (conv => whnf))
    refine And.intro (fun m2 => ?_) (fun m2 => ?_)
    · obtain rfl := err 10 (by unfold gateErr; rw [if_neg n1, if_neg n2, if_neg n3, if_pos (List.any_eq_true.2 ⟨a, hmem, by simp [m2]⟩)])
      ((try dsimp only [awp]); (conv => whnf))
      (refine FinSpec.mono ?_; (conv => whnf); refine ⟨?_, rfl⟩; (conv => whnf))
      (repeat' (first | exact rfl | exact trivial | exact HWk.refl rfl | exact leRL_refl _ | (refine And.intro ?_ ?_)))
    ((try dsimp only [awp]); (conv => whnf))
    (refine ⟨inr64 (by omega) (by omega), ?_⟩; (conv => whnf))
    refine ⟨j + 1, ?_, ?_, ?_⟩
    · exact ⟨hlt, by rw [hany]; simp; omega⟩
    · (repeat' (first | exact rfl | exact trivial | exact HWk.refl rfl | exact leRL_refl _ | (refine And.intro ?_ ?_)))
    · omega
  have hjl : j = g.args.length := by have : ¬ j < g.args.length := by simpa using h
                                     omega
  rw [hjl, List.take_length] at hn
  clear h
  subst hjl
  have n4 : ¬ (g.args.any fun a => decide (a < 0) || decide (d.vars + i ≤ a)) = true := by rw [hn]; simp
  ((try dsimp only [awp]); (conv => whnf))
  refine LoopE.of <| LoopSpec.inv (.refl _ _) (fun (j : Nat) => j ≤ g.args.length ∧ ∀ (k : Nat) (hk : k < g.args.length), k < j → ¬ (d.vars ≤ g.args[k] ∧ (g.kind = 7 ∨ g.kind = 8 ∧ 0 < k))) (fun (j : Nat) => [(58, .int .i64 j)]) (fun _ => _) (fun (j : Nat) => g.args.length - j) 0 ?_ (fun _ => rfl) ?_ ?_
  · exact ⟨Nat.zero_le _, by omega⟩
  · (repeat' (first | exact rfl | exact trivial | exact HWk.refl rfl | exact leRL_refl _ | (refine And.intro ?_ ?_)))
  rintro j ⟨hj, hn⟩ _
  ((try dsimp only [awp]); (conv => whnf))
  refine And.intro (fun h => ?_) (fun h => ?_)
  · have hlt : j < g.args.length := by simpa using h
    have fin : (d.vars ≤ g.args[j] ∧ (g.kind = 7 ∨ g.kind = 8 ∧ 0 < j)) → (g.kind = 7 ∧ (g.args.any fun a => decide (d.vars ≤ a)) = true) ∨ (g.kind = 8 ∧ ((g.args.drop 1).any fun a => decide (d.vars ≤ a)) = true) := by
      rintro ⟨h1, h2 | ⟨h2, h3⟩⟩
      · exact .inl ⟨h2, List.any_eq_true.2 ⟨_, List.getElem_mem hlt, by simpa using h1⟩⟩
      · refine .inr ⟨h2, List.any_eq_true.2 ⟨g.args[j], ?_, by simpa using h1⟩⟩
        rw [List.mem_iff_getElem]
        exact ⟨j - 1, by simp; omega, by simp only [List.getElem_drop]; congr 1; omega⟩
    have step : ¬ (d.vars ≤ g.args[j] ∧ (g.kind = 7 ∨ g.kind = 8 ∧ 0 < j)) → j + 1 ≤ g.args.length ∧ ∀ (k : Nat) (hk : k < g.args.length), k < j + 1 → ¬ (d.vars ≤ g.args[k] ∧ (g.kind = 7 ∨ g.kind = 8 ∧ 0 < k)) := by
      intro h0
      refine ⟨hlt, fun k hk hkj => ?_⟩
      by_cases hkj' : k = j
      · subst hkj'; exact h0
      · exact hn k hk (by omega)
    ((try dsimp only [awp]); (conv => whnf))
    refine aidx hlt ?_
    generalize g.args[j] = a at *
    ((try dsimp only [awp]); (conv => whnf))
    refine And.intro (fun m1 => ?_) (fun m1 => ?_)
    · ((try dsimp only [awp]); (conv => whnf))
      refine And.intro (fun m2 => ?_) (fun m2 => ?_)
      · obtain rfl := err 7 (by unfold gateErr; rw [if_neg n1, if_neg n2, if_neg n3, if_neg n4, if_pos (fin ⟨m1, .inl m2⟩)])
        ((try dsimp only [awp]); (conv => whnf))
        (refine FinSpec.mono ?_; (conv => whnf); refine ⟨?_, rfl⟩; (conv => whnf))
        (repeat' (first | exact rfl | exact trivial | exact HWk.refl rfl | exact leRL_refl _ | (refine And.intro ?_ ?_)))
      ((try dsimp only [awp]); (conv => whnf))
      refine And.intro (fun m3 => ?_) (fun m3 => ?_)
      · ((try dsimp only [awp]); (conv => whnf))
        refine And.intro (fun m4 => ?_) (fun m4 => ?_)
        · obtain rfl := err 7 (by unfold gateErr; rw [if_neg n1, if_neg n2, if_neg n3, if_neg n4, if_pos (fin ⟨m1, .inr ⟨m3, by omega⟩⟩)])
          ((try dsimp only [awp]); (conv => whnf))
          (refine FinSpec.mono ?_; (conv => whnf); refine ⟨?_, rfl⟩; (conv => whnf))
          (repeat' (first | exact rfl | exact trivial | exact HWk.refl rfl | exact leRL_refl _ | (refine And.intro ?_ ?_)))
        ((try dsimp only [awp]); (conv => whnf))
        (refine ⟨inr64 (by omega) (by omega), ?_⟩; (conv => whnf))
        refine ⟨j + 1, ?_, ?_, ?_⟩
        · exact step (by omega)
        · (repeat' (first | exact rfl | exact trivial | exact HWk.refl rfl | exact leRL_refl _ | (refine And.intro ?_ ?_)))
        · omega
      ((try dsimp only [awp]); (conv => whnf))
      (refine ⟨inr64 (by omega) (by omega), ?_⟩; (conv => whnf))
      refine ⟨j + 1, ?_, ?_, ?_⟩
      · exact step (by omega)
      · (repeat' (first | exact rfl | exact trivial | exact HWk.refl rfl | exact leRL_refl _ | (refine And.intro ?_ ?_)))
      · omega
    ((try dsimp only [awp]); (conv => whnf))
    (refine ⟨inr64 (by omega) (by omega), ?_⟩; (conv => whnf))
    refine ⟨j + 1, ?_, ?_, ?_⟩
    · exact step (by omega)
    · (repeat' (first | exact rfl | exact trivial | exact HWk.refl rfl | exact leRL_refl _ | (refine And.intro ?_ ?_)))
    · omega
  have hjl : j = g.args.length := by have : ¬ j < g.args.length := by simpa using h
                                     omega
  clear h
  subst hjl
  have n5 : ¬ ((g.kind = 7 ∧ (g.args.any fun a => decide (d.vars ≤ a)) = true) ∨ (g.kind = 8 ∧ ((g.args.drop 1).any fun a => decide (d.vars ≤ a)) = true)) := by
    rintro (⟨h1, h2⟩ | ⟨h1, h2⟩)
    · obtain ⟨x, hx, hp⟩ := List.any_eq_true.1 h2
      obtain ⟨k, hk, rfl⟩ := List.getElem_of_mem hx
      exact hn k hk hk ⟨by simpa using hp, .inl h1⟩
    · obtain ⟨x, hx, hp⟩ := List.any_eq_true.1 h2
      obtain ⟨k, hk, rfl⟩ := List.getElem_of_mem hx
      simp only [List.getElem_drop] at hp
      simp only [List.length_drop] at hk
      exact hn (1 + k) (by omega) (by omega) ⟨by simpa using hp, .inr ⟨h1, by omega⟩⟩
  ((try dsimp only [awp]); (conv => whnf))
  refine And.intro (fun k7 => ?_) (fun k7 => ?_)
  · have htw : twice [] sp1 = twice sp g.args := by
      rw [hst]; unfold spAfter; rw [if_pos k7, twice_append, hsp]; rfl
    rw [htw] at c2
    ((try dsimp only [awp]); (conv => whnf))
    refine .pure _ _ ?_ ⟨rfl, rfl⟩ c2 fun _ => ?_
    · exact leL_refl _
    ((try dsimp only [awp]); (conv => whnf))
    refine And.intro (fun q1 => ?_) (fun q1 => ?_)
    · obtain rfl := err 6 (by unfold gateErr; rw [if_neg n1, if_neg n2, if_neg n3, if_neg n4, if_neg n5, if_pos ⟨k7, q1⟩])
      ((try dsimp only [awp]); (conv => whnf))
      (refine FinSpec.mono ?_; (conv => whnf); refine ⟨?_, rfl⟩; (conv => whnf))
      (repeat' (first | exact rfl | exact trivial | exact HWk.refl rfl | exact leRL_refl _ | (refine And.intro ?_ ?_)))
    have n6 : ¬ (g.kind = 7 ∧ twice sp g.args = true) := fun h => by rw [h.2] at q1; cases q1
    have n7 : ¬ (g.kind = 2 ∧ (g.k < 1 ∨ (g.args.length : Int) < g.k)) := by omega
    ((try dsimp only [awp]); (conv => whnf))
    refine And.intro (fun k2 => by exfalso; omega) (fun k2 => ?_)
    ((try dsimp only [awp]); (conv => whnf))
    refine And.intro (fun _ => ?_) (fun h => absurd k2 h)
    ((try dsimp only [awp]); (conv => whnf))
    refine And.intro (fun kk => ?_) (fun kk => ?_)
    · obtain rfl := err 2 (by unfold gateErr; rw [if_neg n1, if_neg n2, if_neg n3, if_neg n4, if_neg n5, if_neg n6, if_neg n7, if_pos ⟨k2, kk⟩])
      ((try dsimp only [awp]); (conv => whnf))
      (refine FinSpec.mono ?_; (conv => whnf); refine ⟨?_, rfl⟩; (conv => whnf))
      (repeat' (first | exact rfl | exact trivial | exact HWk.refl rfl | exact leRL_refl _ | (refine And.intro ?_ ?_)))
    have n8 : ¬ (g.kind ≠ 2 ∧ g.k ≠ 0) := fun h => kk h.2
    ((try dsimp only [awp]); (conv => whnf))
    refine And.intro (fun _ => ?_) (fun h => absurd k7 h)
    ((try dsimp only [awp]); (conv => whnf))
    refine .pure _ _ ?_ ⟨rfl, rfl⟩ cp fun _ => ?_
    · exact leL_refl _
    ((try dsimp only [awp]); (conv => whnf))
    refine And.intro (fun kp => ?_) (fun kp => ?_)
    · have kp : prob g.dorm = false := by simpa using kp
      obtain rfl := err 3 (by unfold gateErr; rw [if_neg n1, if_neg n2, if_neg n3, if_neg n4, if_neg n5, if_neg n6, if_neg n7, if_neg n8, if_pos ⟨k7, kp⟩])
      ((try dsimp only [awp]); (conv => whnf))
      (refine FinSpec.mono ?_; (conv => whnf); refine ⟨?_, rfl⟩; (conv => whnf))
      (repeat' (first | exact rfl | exact trivial | exact HWk.refl rfl | exact leRL_refl _ | (refine And.intro ?_ ?_)))
    have kp : prob g.dorm = true := by simpa using kp
    have n9 : ¬ (g.kind = 7 ∧ prob g.dorm = false) := fun h => by rw [kp] at h; cases h.2
    ((try dsimp only [awp]); (conv => whnf))
    refine And.intro (fun h => absurd k7 h) (fun _ => ?_)
    obtain rfl := err 0 (by unfold gateErr; rw [if_neg n1, if_neg n2, if_neg n3, if_neg n4, if_neg n5, if_neg n6, if_neg n7, if_neg n8, if_neg n9, if_neg (fun h => h.1 k7)])
    ((try dsimp only [awp]); (conv => whnf))
    (refine FinSpec.mono ?_; (conv => whnf); refine ⟨?_, rfl⟩; (conv => whnf))
    (repeat' (first | exact rfl | exact trivial | exact HWk.refl rfl | exact leRL_refl _ | (refine And.intro ?_ ?_)))
  · have n6 : ¬ (g.kind = 7 ∧ twice sp g.args = true) := fun h => k7 h.1
    have n9 : ¬ (g.kind = 7 ∧ prob g.dorm = false) := fun h => k7 h.1
    ((try dsimp only [awp]); (conv => whnf))
    refine And.intro (fun k2 => ?_) (fun k2 => ?_)
    · have n8 : ¬ (g.kind ≠ 2 ∧ g.k ≠ 0) := fun h => h.1 k2
      ((try dsimp only [awp]); (conv => whnf))
      refine And.intro (fun kk => ?_) (fun kk => ?_)
      · obtain rfl := err 3 (by unfold gateErr; rw [if_neg n1, if_neg n2, if_neg n3, if_neg n4, if_neg n5, if_neg n6, if_pos ⟨k2, .inl kk⟩])
        ((try dsimp only [awp]); (conv => whnf))
        (refine FinSpec.mono ?_; (conv => whnf); refine ⟨?_, rfl⟩; (conv => whnf))
        (repeat' (first | exact rfl | exact trivial | exact HWk.refl rfl | exact leRL_refl _ | (refine And.intro ?_ ?_)))
      ((try dsimp only [awp]); (conv => whnf))
      refine And.intro (fun kl => ?_) (fun kl => ?_)
      · have kl : (g.args.length : Int) < g.k := by simpa using kl
        obtain rfl := err 3 (by unfold gateErr; rw [if_neg n1, if_neg n2, if_neg n3, if_neg n4, if_neg n5, if_neg n6, if_pos ⟨k2, .inr kl⟩])
        ((try dsimp only [awp]); (conv => whnf))
        (refine FinSpec.mono ?_; (conv => whnf); refine ⟨?_, rfl⟩; (conv => whnf))
        (repeat' (first | exact rfl | exact trivial | exact HWk.refl rfl | exact leRL_refl _ | (refine And.intro ?_ ?_)))
      have kl : ¬ (g.args.length : Int) < g.k := by simpa using kl
      have n7 : ¬ (g.kind = 2 ∧ (g.k < 1 ∨ (g.args.length : Int) < g.k)) := by omega
      ((try dsimp only [awp]); (conv => whnf))
      refine And.intro (fun h => absurd k2 h) (fun _ => ?_)
      ((try dsimp only [awp]); (conv => whnf))
      refine And.intro (fun h => absurd h k7) (fun _ => ?_)
      ((try dsimp only [awp]); (conv => whnf))
      refine And.intro (fun _ => ?_) (fun h => absurd k7 h)
      ((try dsimp only [awp]); (conv => whnf))
      refine .pure _ _ ?_ ⟨rfl, rfl⟩ cz fun _ => ?_
      · exact leL_refl _
      ((try dsimp only [awp]); (conv => whnf))
      refine And.intro (fun kz => ?_) (fun kz => ?_)
      · have kz : zeroR g.dorm = false := by simpa using kz
        obtain rfl := err 2 (by unfold gateErr; rw [if_neg n1, if_neg n2, if_neg n3, if_neg n4, if_neg n5, if_neg n6, if_neg n7, if_neg n8, if_neg n9, if_pos ⟨k7, kz⟩])
        ((try dsimp only [awp]); (conv => whnf))
        (refine FinSpec.mono ?_; (conv => whnf); refine ⟨?_, rfl⟩; (conv => whnf))
        (repeat' (first | exact rfl | exact trivial | exact HWk.refl rfl | exact leRL_refl _ | (refine And.intro ?_ ?_)))
      have kz : zeroR g.dorm = true := by simpa using kz
      obtain rfl := err 0 (by unfold gateErr; rw [if_neg n1, if_neg n2, if_neg n3, if_neg n4, if_neg n5, if_neg n6, if_neg n7, if_neg n8, if_neg n9, if_neg (fun h => by rw [kz] at h; cases h.2)])
      ((try dsimp only [awp]); (conv => whnf))
      (refine FinSpec.mono ?_; (conv => whnf); refine ⟨?_, rfl⟩; (conv => whnf))
      (repeat' (first | exact rfl | exact trivial | exact HWk.refl rfl | exact leRL_refl _ | (refine And.intro ?_ ?_)))
    · have n7 : ¬ (g.kind = 2 ∧ (g.k < 1 ∨ (g.args.length : Int) < g.k)) := by omega
      ((try dsimp only [awp]); (conv => whnf))
      refine And.intro (fun _ => ?_) (fun h => absurd k2 h)
      ((try dsimp only [awp]); (conv => whnf))
      refine And.intro (fun kk => ?_) (fun kk => ?_)
      · obtain rfl := err 2 (by unfold gateErr; rw [if_neg n1, if_neg n2, if_neg n3, if_neg n4, if_neg n5, if_neg n6, if_neg n7, if_pos ⟨k2, kk⟩])
        ((try dsimp only [awp]); (conv => whnf))
        (refine FinSpec.mono ?_; (conv => whnf); refine ⟨?_, rfl⟩; (conv => whnf))
        (repeat' (first | exact rfl | exact trivial | exact HWk.refl rfl | exact leRL_refl _ | (refine And.intro ?_ ?_)))
      have n8 : ¬ (g.kind ≠ 2 ∧ g.k ≠ 0) := fun h => kk h.2
      ((try dsimp only [awp]); (conv => whnf))
      refine And.intro (fun h => absurd h k7) (fun _ => ?_)
      ((try dsimp only [awp]); (conv => whnf))
      refine And.intro (fun _ => ?_) (fun h => absurd k7 h)
      ((try dsimp only [awp]); (conv => whnf))
      refine .pure _ _ ?_ ⟨rfl, rfl⟩ cz fun _ => ?_
      · exact leL_refl _
      ((try dsimp only [awp]); (conv => whnf))
      refine And.intro (fun kz => ?_) (fun kz => ?_)
      · have kz : zeroR g.dorm = false := by simpa using kz
        obtain rfl := err 2 (by unfold gateErr; rw [if_neg n1, if_neg n2, if_neg n3, if_neg n4, if_neg n5, if_neg n6, if_neg n7, if_neg n8, if_neg n9, if_pos ⟨k7, kz⟩])
        ((try dsimp only [awp]); (conv => whnf))
        (refine FinSpec.mono ?_; (conv => whnf); refine ⟨?_, rfl⟩; (conv => whnf))
        (repeat' (first | exact rfl | exact trivial | exact HWk.refl rfl | exact leRL_refl _ | (refine And.intro ?_ ?_)))
      have kz : zeroR g.dorm = true := by simpa using kz
      obtain rfl := err 0 (by unfold gateErr; rw [if_neg n1, if_neg n2, if_neg n3, if_neg n4, if_neg n5, if_neg n6, if_neg n7, if_neg n8, if_neg n9, if_neg (fun h => by rw [kz] at h; cases h.2)])
      ((try dsimp only [awp]); (conv => whnf))
      (refine FinSpec.mono ?_; (conv => whnf); refine ⟨?_, rfl⟩; (conv => whnf))
      (repeat' (first | exact rfl | exact trivial | exact HWk.refl rfl | exact leRL_refl _ | (refine And.intro ?_ ?_)))
end S

open Go Go.AL Go.Proofs
namespace S
set_option maxRecDepth 100000


theorem c_Check48 (h1 : OneC) (d : Dyn) (hl : lightD d = true) (R : AV) (hR : R = .int .i64 (checkR d)) : FnH Tryz.prog 17 [d.av] [] R [] := by
  obtain ⟨lf, lr, lg⟩ := lightD_rats hl
  have rf := c_rates d.fail lf _ rfl
  have rr := c_rates d.repair lr _ rfl
  refine FnH.intro lay mixed Tryz.func17 (by kernel_rfl) rfl (by kernel_rfl) rfl fun hok => ?_
  ((try dsimp only [argC, succC]); (try dsimp only [awp]); (conv => whnf))
  refine And.intro (fun n1 => ?_) (fun n1 => ?_)
  · obtain rfl : R = .int .i64 3 := by rw [hR, show checkR d = 3 from by unfold checkR; rw [if_pos n1]]
    ((try dsimp only [awp]); (conv => whnf))
    (refine FinSpec.mono ?_; (conv => whnf); refine ⟨?_, rfl⟩; (conv => whnf))
    (repeat' (first | exact rfl | exact trivial | exact HWk.refl rfl | exact leRL_refl _ | (refine And.intro ?_ ?_)))
  ((try dsimp only [awp]); (conv => whnf))
  refine And.intro (fun n2 => ?_) (fun n2 => ?_)
  · obtain rfl : R = .int .i64 3 := by rw [hR, show checkR d = 3 from by unfold checkR; rw [if_neg n1, if_pos n2]]
    ((try dsimp only [awp]); (conv => whnf))
    (refine FinSpec.mono ?_; (conv => whnf); refine ⟨?_, rfl⟩; (conv => whnf))
    (repeat' (first | exact rfl | exact trivial | exact HWk.refl rfl | exact leRL_refl _ | (refine And.intro ?_ ?_)))
  ((try dsimp only [awp]); (conv => whnf))
  refine And.intro (fun n3 => ?_) (fun n3 => ?_)
  · have n3 : 64 < d.gates.length := by simp only [List.length_map] at n3; omega
    obtain rfl : R = .int .i64 4 := by rw [hR, show checkR d = 4 from by unfold checkR; rw [if_neg n1, if_neg n2, if_pos n3]]
    ((try dsimp only [awp]); (conv => whnf))
    (refine FinSpec.mono ?_; (conv => whnf); refine ⟨?_, rfl⟩; (conv => whnf))
    (repeat' (first | exact rfl | exact trivial | exact HWk.refl rfl | exact leRL_refl _ | (refine And.intro ?_ ?_)))
  have n3 : ¬ 64 < d.gates.length := by simp only [List.length_map] at n3; omega
  ((try dsimp only [awp]); (conv => whnf))
  refine And.intro (fun n4 => ?_) (fun n4 => ?_)
  · have n4 : (d.fail.length : Int) ≠ d.vars := by simpa using n4
    obtain rfl : R = .int .i64 11 := by rw [hR, show checkR d = 11 from by unfold checkR; rw [if_neg n1, if_neg n2, if_neg n3, if_pos n4]]
    ((try dsimp only [awp]); (conv => whnf))
    (refine FinSpec.mono ?_; (conv => whnf); refine ⟨?_, rfl⟩; (conv => whnf))
    (repeat' (first | exact rfl | exact trivial | exact HWk.refl rfl | exact leRL_refl _ | (refine And.intro ?_ ?_)))
  have n4 : ¬ (d.fail.length : Int) ≠ d.vars := by simpa using n4
  ((try dsimp only [awp]); (conv => whnf))
  refine And.intro (fun n5 => ?_) (fun n5 => ?_)
  · have n5 : (d.repair.length : Int) ≠ d.vars := by simpa using n5
    obtain rfl : R = .int .i64 11 := by rw [hR, show checkR d = 11 from by unfold checkR; rw [if_neg n1, if_neg n2, if_neg n3, if_neg n4, if_pos n5]]
    ((try dsimp only [awp]); (conv => whnf))
    (refine FinSpec.mono ?_; (conv => whnf); refine ⟨?_, rfl⟩; (conv => whnf))
    (repeat' (first | exact rfl | exact trivial | exact HWk.refl rfl | exact leRL_refl _ | (refine And.intro ?_ ?_)))
  have n5 : ¬ (d.repair.length : Int) ≠ d.vars := by simpa using n5
  ((try dsimp only [awp]); (conv => whnf))
  refine LoopE.step 3 ?_
  ((try dsimp only [awp]); (conv => whnf))
  refine And.intro (fun _ => ?_) (fun h => absurd (by simp) h)
  ((try dsimp only [awp]); (conv => whnf))
  refine AIdx.mk ⟨_, ⟨by decide, rfl⟩, ?_⟩
  ((try dsimp only [awp]); (conv => whnf))
  refine .pure _ _ ?_ ⟨rfl, rfl⟩ rf fun _ => ?_
  · exact leL_refl _
  by_cases b1 : d.fail.any badRat = true
  · rw [if_pos b1]
    have n6 : (d.fail.any badRat || d.repair.any badRat) = true := by rw [b1]; rfl
    ((try dsimp only [awp]); (conv => whnf))
    refine And.intro (fun _ => ?_) (fun h => absurd (by decide) h)
    obtain rfl : R = .int .i64 3 := by rw [hR, show checkR d = 3 from by unfold checkR; rw [if_neg n1, if_neg n2, if_neg n3, if_neg n4, if_neg n5, if_pos n6]]
    ((try dsimp only [awp]); (conv => whnf))
    (refine FinSpec.mono ?_; (conv => whnf); refine ⟨?_, rfl⟩; (conv => whnf))
    (repeat' (first | exact rfl | exact trivial | exact HWk.refl rfl | exact leRL_refl _ | (refine And.intro ?_ ?_)))
  rw [if_neg b1]
  ((try dsimp only [awp]); (conv => whnf))
  refine And.intro (fun h => absurd h (by decide)) (fun _ => ?_)
  ((try dsimp only [awp]); (conv => whnf))
  (refine ⟨inr64 (by omega) (by omega), ?_⟩; (conv => whnf))
  refine And.intro (fun _ => ?_) (fun h => absurd (by simp) h)
  ((try dsimp only [awp]); (conv => whnf))
  refine AIdx.mk ⟨_, ⟨by decide, rfl⟩, ?_⟩
  ((try dsimp only [awp]); (conv => whnf))
  refine .pure _ _ ?_ ⟨rfl, rfl⟩ rr fun _ => ?_
  · exact leL_refl _
  by_cases b2 : d.repair.any badRat = true
  · rw [if_pos b2]
    have n6 : (d.fail.any badRat || d.repair.any badRat) = true := by rw [b2]; simp
    ((try dsimp only [awp]); (conv => whnf))
    refine And.intro (fun _ => ?_) (fun h => absurd (by decide) h)
    obtain rfl : R = .int .i64 3 := by rw [hR, show checkR d = 3 from by unfold checkR; rw [if_neg n1, if_neg n2, if_neg n3, if_neg n4, if_neg n5, if_pos n6]]
    ((try dsimp only [awp]); (conv => whnf))
    (refine FinSpec.mono ?_; (conv => whnf); refine ⟨?_, rfl⟩; (conv => whnf))
    (repeat' (first | exact rfl | exact trivial | exact HWk.refl rfl | exact leRL_refl _ | (refine And.intro ?_ ?_)))
  rw [if_neg b2]
  have n6 : ¬ (d.fail.any badRat || d.repair.any badRat) = true := by simp only [Bool.or_eq_true]; exact fun h => h.elim b1 b2
  ((try dsimp only [awp]); (conv => whnf))
  refine And.intro (fun h => absurd h (by decide)) (fun _ => ?_)
  ((try dsimp only [awp]); (conv => whnf))
  (refine ⟨inr64 (by omega) (by omega), ?_⟩; (conv => whnf))
  refine And.intro (fun h => absurd h (by simp)) (fun _ => ?_)
  ((try dsimp only [awp]); (conv => whnf))
  refine LoopE.of <| LoopSpec.inv (.refl _ _) (fun (i : Nat) => i ≤ d.gates.length ∧ gatesErr d d.gates 0 [] = gatesErr d (d.gates.drop i) i (spAll (d.gates.take i)) ∧ twice [] (spAll (d.gates.take i)) = false ∧ ∀ k (h : k < d.gates.length), k < i → (d.gates[k]).args.length ≤ 16) (fun (i : Nat) => [(56, .int .i64 i)]) (fun _ => _) (fun (i : Nat) => d.gates.length - i) 0 ?_ (fun _ => rfl) ?_ ?_
  · exact ⟨Nat.zero_le _, by simp [spAll], by simp [spAll, twice], fun k h h' => by omega⟩
  · (repeat' (first | exact rfl | exact trivial | exact HWk.refl rfl | exact leRL_refl _ | (refine And.intro ?_ ?_)))
  rintro i ⟨hi, he, ht, ha⟩ _
  ((try dsimp only [awp]); (conv => whnf))
  refine And.intro (fun h => ?_) (fun h => ?_)
  · have hlt : i < d.gates.length := by simpa using h
    have cg := c_gate48 h1 d i hlt (by omega) (by omega) ha ht (lg _ (List.getElem_mem hlt)) _ rfl
    have hst := spAll_take hlt
    rw [List.drop_eq_getElem_cons hlt] at he
    simp only [gatesErr] at he
    have hz := @gateErr_zero d i d.gates[i] (spAll (d.gates.take i))
    ((try dsimp only [awp]); (conv => whnf))
    refine .pure _ _ ?_ ⟨rfl, rfl⟩ cg fun _ => ?_
    · exact leL_refl _
    by_cases e0 : gateErr d i d.gates[i] (spAll (d.gates.take i)) = 0
    · rw [e0]
      rw [if_pos e0, ← hst] at he
      obtain ⟨_, z2, _, _, _, z6⟩ := hz e0
      ((try dsimp only [awp]); (conv => whnf))
      refine And.intro (fun h => absurd rfl h) (fun _ => ?_)
      ((try dsimp only [awp]); (conv => whnf))
      (refine ⟨inr64 (by omega) (by omega), ?_⟩; (conv => whnf))
      refine ⟨i + 1, ?_, ?_, ?_⟩
      · refine ⟨hlt, he, ?_, fun k hk hki => ?_⟩
        · rw [hst]
          unfold spAfter
          split
          · rename_i h7
            rw [twice_append, ht, List.nil_append, z6 h7]; rfl
          · exact ht
        · by_cases ek : k = i
          · subst ek; exact argsR_le z2
          · exact ha k hk (by omega)
      · (repeat' (first | exact rfl | exact trivial | exact HWk.refl rfl | exact leRL_refl _ | (refine And.intro ?_ ?_)))
      · omega
    · rw [if_neg e0] at he
      have n7 : gatesErr d d.gates 0 [] ≠ 0 := by rw [he]; exact e0
      obtain rfl : R = .int .i64 (gateErr d i d.gates[i] (spAll (d.gates.take i))) := by
        rw [hR, show checkR d = gatesErr d d.gates 0 [] from by unfold checkR; rw [if_neg n1, if_neg n2, if_neg n3, if_neg n4, if_neg n5, if_neg n6, if_pos n7], he]
      generalize gateErr d i d.gates[i] (spAll (d.gates.take i)) = e at *
      ((try dsimp only [awp]); (conv => whnf))
      refine And.intro (fun _ => ?_) (fun h => absurd e0 h)
      ((try dsimp only [awp]); (conv => whnf))
      (refine FinSpec.mono ?_; (conv => whnf); refine ⟨?_, rfl⟩; (conv => whnf))
      (repeat' (first | exact rfl | exact trivial | exact HWk.refl rfl | exact leRL_refl _ | (refine And.intro ?_ ?_)))
  have hil : i = d.gates.length := by have : ¬ i < d.gates.length := by simpa using h
                                      omega
  subst hil
  rw [List.drop_length] at he
  have n7 : ¬ gatesErr d d.gates 0 [] ≠ 0 := by rw [he]; simp [gatesErr]
  ((try dsimp only [awp]); (conv => whnf))
  refine And.intro (fun n8 => ?_) (fun n8 => ?_)
  · obtain rfl : R = .int .i64 10 := by rw [hR, show checkR d = 10 from by unfold checkR; rw [if_neg n1, if_neg n2, if_neg n3, if_neg n4, if_neg n5, if_neg n6, if_neg n7, if_pos n8]]
    ((try dsimp only [awp]); (conv => whnf))
    (refine FinSpec.mono ?_; (conv => whnf); refine ⟨?_, rfl⟩; (conv => whnf))
    (repeat' (first | exact rfl | exact trivial | exact HWk.refl rfl | exact leRL_refl _ | (refine And.intro ?_ ?_)))
  ((try dsimp only [awp]); (conv => whnf))
  refine ⟨inr64 (by simp; omega) (by simp; omega), ?_⟩
  ((try dsimp only [awp]); (conv => whnf))
  refine And.intro (fun n9 => ?_) (fun n9 => ?_)
  · have n9 : d.vars + d.gates.length ≤ d.top := by simpa using n9
    obtain rfl : R = .int .i64 10 := by rw [hR, show checkR d = 10 from by unfold checkR; rw [if_neg n1, if_neg n2, if_neg n3, if_neg n4, if_neg n5, if_neg n6, if_neg n7, if_neg n8, if_pos n9]]
    ((try dsimp only [awp]); (conv => whnf))
    (refine FinSpec.mono ?_; (conv => whnf); refine ⟨?_, rfl⟩; (conv => whnf))
    (repeat' (first | exact rfl | exact trivial | exact HWk.refl rfl | exact leRL_refl _ | (refine And.intro ?_ ?_)))
  have n9 : ¬ d.vars + d.gates.length ≤ d.top := by simpa using n9
  obtain rfl : R = .int .i64 0 := by rw [hR, show checkR d = 0 from by unfold checkR; rw [if_neg n1, if_neg n2, if_neg n3, if_neg n4, if_neg n5, if_neg n6, if_neg n7, if_neg n8, if_neg n9]]
  ((try dsimp only [awp]); (conv => whnf))
  (refine FinSpec.mono ?_; (conv => whnf); refine ⟨?_, rfl⟩; (conv => whnf))
  (repeat' (first | exact rfl | exact trivial | exact HWk.refl rfl | exact leRL_refl _ | (refine And.intro ?_ ?_)))
end S

open Go Go.AL Go.Proofs
namespace S
set_option maxRecDepth 100000



theorem c_State48 (d : Dyn) (s : St) (hc : checkR d = 0) (R : AV) (hR : R = .int .i64 (checkSR d s)) : FnH Tryz.prog 22 [d.av, s.av] [] R [] := by
  have n0 : ¬ checkR d ≠ 0 := by simp [hc]
  have hT := checkR_ok hc
  have hv := hT.vars
  have hg := hT.gates
  have hp := pow_int (n := d.vars.toNat) (by omega)
  refine FnH.intro lay mixed Tryz.func22 (by kernel_rfl) rfl (by kernel_rfl) rfl fun hok => ?_
  ((try dsimp only [argC, succC]); (try dsimp only [awp]); (conv => whnf))
  refine And.intro (fun n1 => ?_) (fun n1 => ?_)
  · have n1 : s.memo.length ≠ d.gates.length := by simp only [List.length_map] at n1; omega
    obtain rfl : R = .int .i64 11 := by rw [hR, show checkSR d s = 11 from by unfold checkSR; rw [if_neg n0, if_pos n1]]
    ((try dsimp only [awp]); (conv => whnf))
    (refine FinSpec.mono ?_; (conv => whnf); refine ⟨?_, rfl⟩; (conv => whnf))
    (repeat' (first | exact rfl | exact trivial | exact HWk.refl rfl | exact leRL_refl _ | (refine And.intro ?_ ?_)))
  have n1 : ¬ s.memo.length ≠ d.gates.length := by simp only [List.length_map] at n1; omega
  ((try dsimp only [awp]); (conv => whnf))
  (refine ADraw.auto (by kernel_rfl) ?_; (conv => whnf))
  refine And.intro (fun n2 => ?_) (fun n2 => ?_)
  · obtain rfl : R = .int .i64 3 := by rw [hR, show checkSR d s = 3 from by unfold checkSR; rw [if_neg n0, if_neg n1, if_pos n2]]
    ((try dsimp only [awp]); (conv => whnf))
    (refine FinSpec.mono ?_; (conv => whnf); refine ⟨?_, rfl⟩; (conv => whnf))
    (repeat' (first | exact rfl | exact trivial | exact HWk.refl rfl | exact leRL_refl _ | (refine And.intro ?_ ?_)))
  ((try dsimp only [awp]); (conv => whnf))
  refine ⟨by omega, ?_⟩
  have hsh : shlR .i64 1 d.vars = (2 ^ d.vars.toNat : Nat) := by
    have := shl_one (i := d.vars.toNat) (by omega)
    rw [show ((d.vars.toNat : Nat) : Int) = d.vars by omega] at this
    exact this
  rw [hsh]
  (conv => whnf)
  refine And.intro (fun n3 => ?_) (fun n3 => ?_)
  · obtain rfl : R = .int .i64 3 := by rw [hR, show checkSR d s = 3 from by unfold checkSR; rw [if_neg n0, if_neg n1, if_neg n2, if_pos n3]]
    ((try dsimp only [awp]); (conv => whnf))
    (refine FinSpec.mono ?_; (conv => whnf); refine ⟨?_, rfl⟩; (conv => whnf))
    (repeat' (first | exact rfl | exact trivial | exact HWk.refl rfl | exact leRL_refl _ | (refine And.intro ?_ ?_)))
  ((try dsimp only [awp]); (conv => whnf))
  refine LoopE.of <| LoopSpec.inv (.refl _ _) (fun (i : Nat) => i ≤ d.gates.length ∧ ∀ (k : Nat) (h : k < d.gates.length), k < i → ¬ (s.memo.getD k 0 < loG d.gates[k] ∨ hiG d.gates[k] < s.memo.getD k 0)) (fun (i : Nat) => [(30, .int .i64 i)]) (fun _ => _) (fun (i : Nat) => d.gates.length - i) 0 ?_ (fun _ => rfl) ?_ ?_
  · exact ⟨Nat.zero_le _, by omega⟩
  · (repeat' (first | exact rfl | exact trivial | exact HWk.refl rfl | exact leRL_refl _ | (refine And.intro ?_ ?_)))
  rintro i ⟨hi, hn⟩ _
  ((try dsimp only [awp]); (conv => whnf))
  refine And.intro (fun h => ?_) (fun h => ?_)
  · have hlt : i < d.gates.length := by simpa using h
    have hx : (i : Int) < (s.memo.length : Int) := by omega
    have hal : (d.gates[i]).args.length ≤ 9223372036854775807 := Gate.okArgs (Dyn.okGates hok.1 _ (List.getElem_mem hlt))
    have fin : (s.memo.getD i 0 < loG d.gates[i] ∨ hiG d.gates[i] < s.memo.getD i 0) → memoErr d s.memo = true := by
      intro h
      unfold memoErr
      refine List.any_eq_true.2 ⟨i, by simpa using hlt, ?_⟩
      rw [getD_lt hlt]; simpa using h
    have step : ¬ (s.memo.getD i 0 < loG d.gates[i] ∨ hiG d.gates[i] < s.memo.getD i 0) → i + 1 ≤ d.gates.length ∧ ∀ (k : Nat) (h : k < d.gates.length), k < i + 1 → ¬ (s.memo.getD k 0 < loG d.gates[k] ∨ hiG d.gates[k] < s.memo.getD k 0) := by
      intro h0
      refine ⟨hlt, fun k hk hki => ?_⟩
      by_cases hki' : k = i
      · subst hki'; exact h0
      · exact hn k hk (by omega)
    ((try dsimp only [awp]); (conv => whnf))
    refine aidx hlt ?_
    generalize d.gates[i] = g at *
    ((try dsimp only [awp]); (conv => whnf))
    refine And.intro (fun k6 => ?_) (fun k6 => ?_)
    · have hlo : loG g = 0 := by unfold loG; rw [if_neg (by omega)]
      have hhi : hiG g = 1 := by unfold hiG; rw [if_pos k6]
      rw [hlo, hhi] at fin step
      ((try dsimp only [awp]); (conv => whnf))
      refine aidxN 0 (by omega) ?_
      ((try dsimp only [awp]); (conv => whnf))
      refine And.intro (fun m1 => ?_) (fun m1 => ?_)
      · obtain rfl : R = .int .i64 3 := by rw [hR, show checkSR d s = 3 from by unfold checkSR; rw [if_neg n0, if_neg n1, if_neg n2, if_neg n3, if_pos (fin (.inl m1))]]
        ((try dsimp only [awp]); (conv => whnf))
        (refine FinSpec.mono ?_; (conv => whnf); refine ⟨?_, rfl⟩; (conv => whnf))
        (repeat' (first | exact rfl | exact trivial | exact HWk.refl rfl | exact leRL_refl _ | (refine And.intro ?_ ?_)))
      ((try dsimp only [awp]); (conv => whnf))
      refine aidxN 0 (by omega) ?_
      ((try dsimp only [awp]); (conv => whnf))
      refine And.intro (fun m2 => ?_) (fun m2 => ?_)
      · obtain rfl : R = .int .i64 3 := by rw [hR, show checkSR d s = 3 from by unfold checkSR; rw [if_neg n0, if_neg n1, if_neg n2, if_neg n3, if_pos (fin (.inr m2))]]
        ((try dsimp only [awp]); (conv => whnf))
        (refine FinSpec.mono ?_; (conv => whnf); refine ⟨?_, rfl⟩; (conv => whnf))
        (repeat' (first | exact rfl | exact trivial | exact HWk.refl rfl | exact leRL_refl _ | (refine And.intro ?_ ?_)))
      ((try dsimp only [awp]); (conv => whnf))
      (refine ⟨inr64 (by omega) (by omega), ?_⟩; (conv => whnf))
      refine ⟨i + 1, ?_, ?_, ?_⟩
      · exact step (by omega)
      · refine ⟨?_, .mk ?_ ⟨by simp, by simp, trivial⟩⟩
        · (repeat' (first | exact rfl | exact trivial | exact HWk.refl rfl | exact leRL_refl _ | (refine And.intro ?_ ?_)))
        · (repeat' (first | exact rfl | exact trivial | exact HWk.refl rfl | exact leRL_refl _ | (refine And.intro ?_ ?_)))
      · omega
    ((try dsimp only [awp]); (conv => whnf))
    refine And.intro (fun k7 => ?_) (fun k7 => ?_)
    · ((try dsimp only [awp]); (conv => whnf))
      (refine ADraw.auto (by kernel_rfl) ?_; (conv => whnf))
      refine ⟨inr64 (by simp; omega) (by simp; omega), ?_⟩
      rw [show ((g.args.map (AV.int .i64)).length : Int) = (g.args.length : Int) by simp]
      have hlo : loG g = -1 := by unfold loG; rw [if_pos k7]
      have hhi : hiG g = (g.args.length : Int) - 1 := by unfold hiG; rw [if_neg (by omega), if_pos k7]
      rw [hlo, hhi] at fin step
      ((try dsimp only [awp]); (conv => whnf))
      refine aidxN 0 (by omega) ?_
      ((try dsimp only [awp]); (conv => whnf))
      refine And.intro (fun m1 => ?_) (fun m1 => ?_)
      · obtain rfl : R = .int .i64 3 := by rw [hR, show checkSR d s = 3 from by unfold checkSR; rw [if_neg n0, if_neg n1, if_neg n2, if_neg n3, if_pos (fin (.inl m1))]]
        ((try dsimp only [awp]); (conv => whnf))
        (refine FinSpec.mono ?_; (conv => whnf); refine ⟨?_, rfl⟩; (conv => whnf))
        (repeat' (first | exact rfl | exact trivial | exact HWk.refl rfl | exact leRL_refl _ | (refine And.intro ?_ ?_)))
      ((try dsimp only [awp]); (conv => whnf))
      refine aidxN 0 (by omega) ?_
      ((try dsimp only [awp]); (conv => whnf))
      refine And.intro (fun m2 => ?_) (fun m2 => ?_)
      · obtain rfl : R = .int .i64 3 := by rw [hR, show checkSR d s = 3 from by unfold checkSR; rw [if_neg n0, if_neg n1, if_neg n2, if_neg n3, if_pos (fin (.inr m2))]]
        ((try dsimp only [awp]); (conv => whnf))
        (refine FinSpec.mono ?_; (conv => whnf); refine ⟨?_, rfl⟩; (conv => whnf))
        (repeat' (first | exact rfl | exact trivial | exact HWk.refl rfl | exact leRL_refl _ | (refine And.intro ?_ ?_)))
      ((try dsimp only [awp]); (conv => whnf))
      (refine ⟨inr64 (by omega) (by omega), ?_⟩; (conv => whnf))
      refine ⟨i + 1, ?_, ?_, ?_⟩
      · exact step (by omega)
      · refine ⟨?_, .mk ?_ ⟨by simp, by simp, trivial⟩⟩
        · (repeat' (first | exact rfl | exact trivial | exact HWk.refl rfl | exact leRL_refl _ | (refine And.intro ?_ ?_)))
        · (repeat' (first | exact rfl | exact trivial | exact HWk.refl rfl | exact leRL_refl _ | (refine And.intro ?_ ?_)))
      · omega
    · have hlo : loG g = 0 := by unfold loG; rw [if_neg (by omega)]
      have hhi : hiG g = 0 := by unfold hiG; rw [if_neg (by omega), if_neg (by omega)]
      rw [hlo, hhi] at fin step
      ((try dsimp only [awp]); (conv => whnf))
      refine aidxN 0 (by omega) ?_
      ((try dsimp only [awp]); (conv => whnf))
      refine And.intro (fun m1 => ?_) (fun m1 => ?_)
      · obtain rfl : R = .int .i64 3 := by rw [hR, show checkSR d s = 3 from by unfold checkSR; rw [if_neg n0, if_neg n1, if_neg n2, if_neg n3, if_pos (fin (.inl m1))]]
        ((try dsimp only [awp]); (conv => whnf))
        (refine FinSpec.mono ?_; (conv => whnf); refine ⟨?_, rfl⟩; (conv => whnf))
        (repeat' (first | exact rfl | exact trivial | exact HWk.refl rfl | exact leRL_refl _ | (refine And.intro ?_ ?_)))
      ((try dsimp only [awp]); (conv => whnf))
      refine aidxN 0 (by omega) ?_
      ((try dsimp only [awp]); (conv => whnf))
      refine And.intro (fun m2 => ?_) (fun m2 => ?_)
      · obtain rfl : R = .int .i64 3 := by rw [hR, show checkSR d s = 3 from by unfold checkSR; rw [if_neg n0, if_neg n1, if_neg n2, if_neg n3, if_pos (fin (.inr m2))]]
        ((try dsimp only [awp]); (conv => whnf))
        (refine FinSpec.mono ?_; (conv => whnf); refine ⟨?_, rfl⟩; (conv => whnf))
        (repeat' (first | exact rfl | exact trivial | exact HWk.refl rfl | exact leRL_refl _ | (refine And.intro ?_ ?_)))
      ((try dsimp only [awp]); (conv => whnf))
      (refine ⟨inr64 (by omega) (by omega), ?_⟩; (conv => whnf))
      refine ⟨i + 1, ?_, ?_, ?_⟩
      · exact step (by omega)
      · refine ⟨?_, .mk ?_ ⟨by simp, by simp, trivial⟩⟩
        · (repeat' (first | exact rfl | exact trivial | exact HWk.refl rfl | exact leRL_refl _ | (refine And.intro ?_ ?_)))
        · (repeat' (first | exact rfl | exact trivial | exact HWk.refl rfl | exact leRL_refl _ | (refine And.intro ?_ ?_)))
      · omega
  have hil : i = d.gates.length := by have : ¬ i < d.gates.length := by simpa using h
                                      omega
  subst hil
  have n4 : ¬ memoErr d s.memo = true := by
    unfold memoErr
    intro h
    obtain ⟨k, hk, hp⟩ := List.any_eq_true.1 h
    have hk : k < d.gates.length := by simpa using hk
    rw [getD_lt hk] at hp
    exact hn k hk hk (by simpa using hp)
  obtain rfl : R = .int .i64 0 := by rw [hR, show checkSR d s = 0 from by unfold checkSR; rw [if_neg n0, if_neg n1, if_neg n2, if_neg n3, if_neg n4]]
  ((try dsimp only [awp]); (conv => whnf))
  (refine FinSpec.mono ?_; (conv => whnf); refine ⟨?_, rfl⟩; (conv => whnf))
  (repeat' (first | exact rfl | exact trivial | exact HWk.refl rfl | exact leRL_refl _ | (refine And.intro ?_ ?_)))
end S

open Go Go.AL Go.Proofs
namespace S
set_option maxRecDepth 100000

/-- A true one stands behind a false one. -/
def pairB : List Bool → Bool
  | [] => false
  | b :: l => (!b && l.any id) || pairB l

theorem pairB_hit : ∀ {l : List Bool} {i j : Nat} (hi : i < l.length) (_ : j < i) (hj : j < l.length), l[i] = true → l[j] = false → pairB l = true
  | b :: l, i + 1, 0, hi, _, hj, h1, h2 => by
    simp only [List.getElem_cons_zero] at h2
    simp only [List.getElem_cons_succ] at h1
    subst h2
    have : l.any id = true := List.any_eq_true.2 ⟨_, List.getElem_mem (by simpa using hi), h1⟩
    simp [pairB, this]
  | b :: l, i + 1, j + 1, hi, hij, hj, h1, h2 => by
    have := pairB_hit (l := l) (i := i) (j := j) (by simpa using hi) (by omega) (by simpa using hj) (by simpa using h1) (by simpa using h2)
    simp [pairB, this]

theorem pairB_none : ∀ {l : List Bool}, (∀ (i j : Nat) (hi : i < l.length) (hj : j < l.length), j < i → l[i] = true → l[j] = true) → pairB l = false
  | [], _ => rfl
  | b :: l, h => by
    have h1 := pairB_none (l := l) fun i j hi hj hij e => by
      have := h (i + 1) (j + 1) (by simpa using hi) (by simpa using hj) (by omega) (by simpa using e)
      simpa using this
    have h2 : b = false → l.any id = false := by
      intro hb
      cases ha : l.any id with
      | false => rfl
      | true =>
        obtain ⟨x, hx, hxt⟩ := List.any_eq_true.1 ha
        obtain ⟨k, hk, rfl⟩ := List.getElem_of_mem hx
        have := h (k + 1) 0 (by simpa using hk) (by simp) (by omega) (by simpa using hxt)
        simp [hb] at this
    cases b <;> simp_all [pairB]

theorem bfold (v : List Bool) : ∀ (l : List Int) (s1 s2 : Bool) (o : Int),
    l.foldl (bstep v) (s1, s2, o) = (s1 || (argV v l).any id, s2 || (argV v l).any (fun b => !b), if (s2 && (argV v l).any id) || pairB (argV v l) then 1 else o)
  | [], s1, s2, o => by simp [argV, pairB]
  | a :: l, s1, s2, o => by
    have h := bfold v l
    have ea : argV v (a :: l) = v.getD a.toNat false :: argV v l := rfl
    rw [List.foldl_cons, ea]
    cases hb : v.getD a.toNat false with
    | true =>
      have e : bstep v (s1, s2, o) a = (true, s2, if s2 then 1 else o) := by unfold bstep; rw [hb]; rfl
      rw [e, h]
      cases s1 <;> cases s2 <;> simp [pairB]
    | false =>
      have e : bstep v (s1, s2, o) a = (s1, true, o) := by unfold bstep; rw [hb]; rfl
      rw [e, h]
      cases s1 <;> cases s2 <;> simp [pairB]

theorem argV_any {v : List Bool} : ∀ {l : List Int}, (argV v l).any id = decide (count v l ≠ 0)
  | [] => by simp [argV, count]
  | a :: l => by
    have h := argV_any (v := v) (l := l)
    have hc := count_nonneg (v := v) l
    have ea : argV v (a :: l) = v.getD a.toNat false :: argV v l := rfl
    rw [ea, List.any_cons, h, count]
    cases hb : v.getD a.toNat false
    · simp
    · simp; omega

theorem broken_law (g : Gate) (v : List Bool) (old : Int) : brokenR g v old = if count v g.args = 0 then 0 else if pairB (argV v g.args) = true then 1 else old := by
  unfold brokenR
  rw [bfold, argV_any]
  by_cases h : count v g.args = 0 <;> simp [h]

theorem argV_len {v : List Bool} {l : List Int} : (argV v l).length = l.length := by simp [argV]

theorem argV_at {v : List Bool} {l : List Int} {i : Nat} (h : i < l.length) : (argV v l)[i]'(by rw [argV_len]; exact h) = v.getD (l[i]).toNat false := by
  simp [argV]

theorem argV_getD {v : List Bool} {l : List Int} {i : Nat} (h : i < l.length) : (argV v l).getD i false = v.getD (l.getD i 0).toNat false := by
  rw [getD_lt (by rw [argV_len]; exact h), argV_at h, getD_lt h]


theorem c_memory48 (g : Gate) (W : List Bool) (old : Int) (hl : g.args.length ≤ 16) (ho : g.kind = 7 → old < (g.args.length : Int)) : FnH Tryz.prog 137 [g.av, bL (argV W g.args), .int .i64 (count W g.args), .int .i64 old] [] (.int .i64 (memoR g W old)) [] := by
  have bl := broken_law g W old
  obtain ⟨l, hL⟩ : ∃ l, argV W g.args = l := ⟨_, rfl⟩
  have hll : l.length = g.args.length := by rw [← hL, argV_len]
  have hget : ∀ i (h : i < g.args.length), l.getD i false = W.getD (g.args.getD i 0).toNat false := fun i h => by rw [← hL, argV_getD h]
  rw [hL] at bl
  refine FnH.intro lay mixed Tryz.func137 (by kernel_rfl) rfl (by kernel_rfl) rfl fun hok => ?_
  rw [hL]
  ((try dsimp only [argC, succC]); (try dsimp only [awp]); (conv => whnf))
  refine And.intro (fun k6 => ?_) (fun k6 => ?_)
  · have hm : memoR g W old = brokenR g W old := if_pos k6
    rw [hm, bl]
    ((try dsimp only [awp]); (conv => whnf))
    refine And.intro (fun c0 => ?_) (fun c0 => ?_)
    · rw [if_pos c0]
      ((try dsimp only [awp]); (conv => whnf))
      (refine FinSpec.mono ?_; (conv => whnf); refine ⟨?_, rfl⟩; (conv => whnf))
      (repeat' (first | exact rfl | exact trivial | exact HWk.refl rfl | exact leRL_refl _ | (refine And.intro ?_ ?_)))
    rw [if_neg c0]
    obtain ⟨R, hR⟩ : ∃ R : Int, (if pairB l = true then (1 : Int) else old) = R := ⟨_, rfl⟩
    rw [hR]
    ((try dsimp only [awp]); (conv => whnf))
    refine LoopE.of <| LoopSpec.inv (.refl _ _) (fun (i : Nat) => i ≤ l.length ∧ ∀ (p q : Nat) (hp : p < l.length) (hq : q < l.length), q < p → p < i → l[p] = true → l[q] = true) (fun (i : Nat) => [(23, .int .i64 i)]) (fun _ => _) (fun (i : Nat) => l.length - i) 0 ?_ (fun _ => rfl) ?_ ?_
    · exact ⟨Nat.zero_le _, by omega⟩
    · (repeat' (first | exact rfl | exact trivial | exact HWk.refl rfl | exact leRL_refl _ | (refine And.intro ?_ ?_)))
    rintro i ⟨hi, hn⟩ _
    ((try dsimp only [awp]); (conv => whnf))
    refine And.intro (fun h => ?_) (fun h => ?_)
    · have hlt : i < l.length := by simpa using h
      ((try dsimp only [awp]); (conv => whnf))
      refine aidx hlt ?_
      ((try dsimp only [awp]); (conv => whnf))
      refine ⟨⟨by omega, by omega, by simp; omega⟩, ?_⟩
      have hcut : ((l.map AV.bool).drop (0 : Int).toNat).take ((i : Int).toNat - (0 : Int).toNat) = (l.take i).map AV.bool := by
        simp
      rw [hcut]
      ((try dsimp only [awp]); (conv => whnf))
      have htl : (l.take i).length = i := by simp; omega
      refine LoopE.of <| LoopSpec.inv (.refl _ _) (fun (j : Nat) => j ≤ i ∧ ∀ (q : Nat) (hq : q < l.length), q < j → l[i] = true → l[q] = true) (fun (j : Nat) => [(32, .int .i64 j)]) (fun _ => _) (fun (j : Nat) => i - j) 0 ?_ (fun _ => rfl) ?_ ?_
      · exact ⟨Nat.zero_le _, by omega⟩
      · (repeat' (first | exact rfl | exact trivial | exact HWk.refl rfl | exact leRL_refl _ | (refine And.intro ?_ ?_)))
      rintro j ⟨hj, hnj⟩ _
      ((try dsimp only [awp]); (conv => whnf))
      refine And.intro (fun h2 => ?_) (fun h2 => ?_)
      · have hji : j < i := by simp only [List.length_map, htl] at h2; omega
        have hjl : j < l.length := by omega
        have hgt : (l.take i)[j]'(by omega) = l[j] := List.getElem_take
        ((try dsimp only [awp]); (conv => whnf))
        refine aidx (l := l.take i) (by omega) ?_
        rw [hgt]
        ((try dsimp only [awp]); (conv => whnf))
        refine And.intro (fun q1 => ?_) (fun q1 => ?_)
        · ((try dsimp only [awp]); (conv => whnf))
          refine And.intro (fun q2 => ?_) (fun q2 => ?_)
          · have hp : pairB l = true := pairB_hit hlt hji hjl q1 (by simpa using q2)
            rw [if_pos hp] at hR
            subst hR
            ((try dsimp only [awp]); (conv => whnf))
            (refine FinSpec.mono ?_; (conv => whnf); refine ⟨?_, rfl⟩; (conv => whnf))
            (repeat' (first | exact rfl | exact trivial | exact HWk.refl rfl | exact leRL_refl _ | (refine And.intro ?_ ?_)))
          · have q2 : l[j] = true := by simpa using q2
            ((try dsimp only [awp]); (conv => whnf))
            (refine ⟨inr64 (by omega) (by omega), ?_⟩; (conv => whnf))
            refine ⟨j + 1, ?_, ?_, ?_⟩
            · refine ⟨hji, fun q hq hqj _ => ?_⟩
              by_cases e : q = j
              · subst e; exact q2
              · exact hnj q hq (by omega) q1
            · (repeat' (first | exact rfl | exact trivial | exact HWk.refl rfl | exact leRL_refl _ | (refine And.intro ?_ ?_)))
            · omega
        · ((try dsimp only [awp]); (conv => whnf))
          (refine ⟨inr64 (by omega) (by omega), ?_⟩; (conv => whnf))
          refine ⟨j + 1, ?_, ?_, ?_⟩
          · exact ⟨hji, fun q hq hqj h => by rw [q1] at h; cases h⟩
          · (repeat' (first | exact rfl | exact trivial | exact HWk.refl rfl | exact leRL_refl _ | (refine And.intro ?_ ?_)))
          · omega
      · have hji : j = i := by have : ¬ j < i := by simp only [List.length_map, htl] at h2; omega
                               omega
        subst hji
        ((try dsimp only [awp]); (conv => whnf))
        (refine ⟨inr64 (by omega) (by omega), ?_⟩; (conv => whnf))
        refine ⟨j + 1, ?_, ?_, ?_⟩
        · refine ⟨hlt, fun p q hp hq hqp hpj e => ?_⟩
          by_cases ep : p = j
          · subst ep; exact hnj q hq hqp e
          · exact hn p q hp hq hqp (by omega) e
        · (repeat' (first | exact rfl | exact trivial | exact HWk.refl rfl | exact leRL_refl _ | (refine And.intro ?_ ?_)))
        · omega
    · have hil : i = l.length := by have : ¬ i < l.length := by simpa using h
                                    omega
      subst hil
      have hp : pairB l = false := pairB_none fun p q hp hq hqp e => hn p q hp hq hqp hp e
      rw [hp, if_neg (by simp)] at hR
      subst hR
      ((try dsimp only [awp]); (conv => whnf))
      (refine FinSpec.mono ?_; (conv => whnf); refine ⟨?_, rfl⟩; (conv => whnf))
      (repeat' (first | exact rfl | exact trivial | exact HWk.refl rfl | exact leRL_refl _ | (refine And.intro ?_ ?_)))
  ((try dsimp only [awp]); (conv => whnf))
  refine And.intro (fun k7 => ?_) (fun k7 => ?_)
  · have hm : memoR g W old = activeR g W old := by unfold memoR; rw [if_neg k6, if_pos k7]
    have ho := ho k7
    have hidx : ∀ k, k ≤ l.length → (∀ q (hq : q < l.length), q < k → l[q] = true) → (∀ (h : k < l.length), l[k] = false → idxP (fun a => !W.getD a.toNat false) g.args = k) ∧ (k = l.length → idxP (fun a => !W.getD a.toNat false) g.args = -1) := by
      intro k hk hq
      have e : ∀ q (h : q < g.args.length), l[q]'(by omega) = W.getD (g.args[q]).toNat false := fun q h => by subst hL; exact argV_at h
      refine ⟨fun h hf => ?_, fun h => ?_⟩
      · have := e k (by omega)
        refine idxP_some (by omega) (by rw [← this, hf]; rfl) fun q hqk => ?_
        have := e q (by omega)
        rw [← this, hq q (by omega) hqk]; rfl
      · refine idxP_none fun q h' => ?_
        have := e q (by omega)
        rw [← this, hq q (by omega) (by omega)]; rfl
    rw [hm]
    have hact : activeR g W old = if 0 ≤ old ∧ l.getD old.toNat false = false then old else idxP (fun a => !W.getD a.toNat false) g.args := by
      unfold activeR
      by_cases h0 : 0 ≤ old
      · rw [hget _ (by omega)]
      · rw [if_neg (by omega), if_neg (by omega)]
    obtain ⟨R, hR⟩ : ∃ R : Int, activeR g W old = R := ⟨_, rfl⟩
    rw [hR] at hact ⊢
    ((try dsimp only [awp]); (conv => whnf))
    refine And.intro (fun o1 => ?_) (fun o1 => ?_)
    · ((try dsimp only [awp]); (conv => whnf))
      refine aidxD false ⟨o1, by omega⟩ ?_
      ((try dsimp only [awp]); (conv => whnf))
      refine And.intro (fun o2 => ?_) (fun o2 => ?_)
      · rw [if_pos ⟨o1, by simpa using o2⟩] at hact
        subst hact
        ((try dsimp only [awp]); (conv => whnf))
        (refine FinSpec.mono ?_; (conv => whnf); refine ⟨?_, rfl⟩; (conv => whnf))
        (repeat' (first | exact rfl | exact trivial | exact HWk.refl rfl | exact leRL_refl _ | (refine And.intro ?_ ?_)))
      · rw [if_neg (fun h => by rw [h.2] at o2; simp at o2)] at hact
        ((try dsimp only [awp]); (conv => whnf))
        refine LoopE.of <| LoopSpec.inv (.refl _ _) (fun (i : Nat) => i ≤ l.length ∧ ∀ (q : Nat) (hq : q < l.length), q < i → l[q] = true) (fun (i : Nat) => [(58, .int .i64 i)]) (fun _ => _) (fun (i : Nat) => l.length - i) 0 ?_ (fun _ => rfl) ?_ ?_
        · exact ⟨Nat.zero_le _, by omega⟩
        · (repeat' (first | exact rfl | exact trivial | exact HWk.refl rfl | exact leRL_refl _ | (refine And.intro ?_ ?_)))
        rintro i ⟨hi, hn⟩ _
        have hix := hidx i hi hn
        ((try dsimp only [awp]); (conv => whnf))
        refine And.intro (fun h => ?_) (fun h => ?_)
        · have hlt : i < l.length := by simpa using h
          ((try dsimp only [awp]); (conv => whnf))
          refine aidx hlt ?_
          ((try dsimp only [awp]); (conv => whnf))
          refine And.intro (fun q1 => ?_) (fun q1 => ?_)
          · rw [hix.1 hlt (by simpa using q1)] at hact
            subst hact
            ((try dsimp only [awp]); (conv => whnf))
            (refine FinSpec.mono ?_; (conv => whnf); refine ⟨?_, rfl⟩; (conv => whnf))
            (repeat' (first | exact rfl | exact trivial | exact HWk.refl rfl | exact leRL_refl _ | (refine And.intro ?_ ?_)))
          · have q1 : l[i] = true := by simpa using q1
            ((try dsimp only [awp]); (conv => whnf))
            (refine ⟨inr64 (by omega) (by omega), ?_⟩; (conv => whnf))
            refine ⟨i + 1, ?_, ?_, ?_⟩
            · refine ⟨hlt, fun q hq hqi => ?_⟩
              by_cases e : q = i
              · subst e; exact q1
              · exact hn q hq (by omega)
            · (repeat' (first | exact rfl | exact trivial | exact HWk.refl rfl | exact leRL_refl _ | (refine And.intro ?_ ?_)))
            · omega
        · have hil : i = l.length := by have : ¬ i < l.length := by simpa using h
                                        omega
          rw [hix.2 hil] at hact
          subst hact
          ((try dsimp only [awp]); (conv => whnf))
          (refine FinSpec.mono ?_; (conv => whnf); refine ⟨?_, rfl⟩; (conv => whnf))
          (repeat' (first | exact rfl | exact trivial | exact HWk.refl rfl | exact leRL_refl _ | (refine And.intro ?_ ?_)))
    · rw [if_neg (fun h => o1 h.1)] at hact
      ((try dsimp only [awp]); (conv => whnf))
      refine LoopE.of <| LoopSpec.inv (.refl _ _) (fun (i : Nat) => i ≤ l.length ∧ ∀ (q : Nat) (hq : q < l.length), q < i → l[q] = true) (fun (i : Nat) => [(58, .int .i64 i)]) (fun _ => _) (fun (i : Nat) => l.length - i) 0 ?_ (fun _ => rfl) ?_ ?_
      · exact ⟨Nat.zero_le _, by omega⟩
      · (repeat' (first | exact rfl | exact trivial | exact HWk.refl rfl | exact leRL_refl _ | (refine And.intro ?_ ?_)))
      rintro i ⟨hi, hn⟩ _
      have hix := hidx i hi hn
      ((try dsimp only [awp]); (conv => whnf))
      refine And.intro (fun h => ?_) (fun h => ?_)
      · have hlt : i < l.length := by simpa using h
        ((try dsimp only [awp]); (conv => whnf))
        refine aidx hlt ?_
        ((try dsimp only [awp]); (conv => whnf))
        refine And.intro (fun q1 => ?_) (fun q1 => ?_)
        · rw [hix.1 hlt (by simpa using q1)] at hact
          subst hact
          ((try dsimp only [awp]); (conv => whnf))
          (refine FinSpec.mono ?_; (conv => whnf); refine ⟨?_, rfl⟩; (conv => whnf))
          (repeat' (first | exact rfl | exact trivial | exact HWk.refl rfl | exact leRL_refl _ | (refine And.intro ?_ ?_)))
        · have q1 : l[i] = true := by simpa using q1
          ((try dsimp only [awp]); (conv => whnf))
          (refine ⟨inr64 (by omega) (by omega), ?_⟩; (conv => whnf))
          refine ⟨i + 1, ?_, ?_, ?_⟩
          · refine ⟨hlt, fun q hq hqi => ?_⟩
            by_cases e : q = i
            · subst e; exact q1
            · exact hn q hq (by omega)
          · (repeat' (first | exact rfl | exact trivial | exact HWk.refl rfl | exact leRL_refl _ | (refine And.intro ?_ ?_)))
          · omega
      · have hil : i = l.length := by have : ¬ i < l.length := by simpa using h
                                      omega
        rw [hix.2 hil] at hact
        subst hact
        ((try dsimp only [awp]); (conv => whnf))
        (refine FinSpec.mono ?_; (conv => whnf); refine ⟨?_, rfl⟩; (conv => whnf))
        (repeat' (first | exact rfl | exact trivial | exact HWk.refl rfl | exact leRL_refl _ | (refine And.intro ?_ ?_)))
  · have hm : memoR g W old = 0 := by unfold memoR; rw [if_neg k6, if_neg k7]
    rw [hm]
    ((try dsimp only [awp]); (conv => whnf))
    (refine FinSpec.mono ?_; (conv => whnf); refine ⟨?_, rfl⟩; (conv => whnf))
    (repeat' (first | exact rfl | exact trivial | exact HWk.refl rfl | exact leRL_refl _ | (refine And.intro ?_ ?_)))
end S

open Go Go.AL Go.Proofs
namespace S
set_option maxRecDepth 100000

theorem args16 {d : Dyn} (hc : checkR d = 0) : ∀ (i : Nat) (h : i < d.gates.length), (d.gates[i]).args.length ≤ 16 := by
  intro i hi
  obtain ⟨sp, h1⟩ := gatesErr_zero (checkR_gates hc) i hi
  exact argsR_le (gateErr_zero h1).2.1

theorem vfold_pre (n : Nat) (memo : List Int) : ∀ (l : List Gate) (v : List Bool), v <+: l.foldl (vstep n memo) v
  | [], v => List.prefix_refl v
  | g :: l, v => (List.prefix_append v _).trans (vfold_pre n memo l _)

theorem ofold_pre (old : List Int) : ∀ (l : List Gate) (s : List Int × List Bool), s.2 <+: (l.foldl (ostep old) s).2
  | [], s => List.prefix_refl _
  | g :: l, s => by
    have h := ofold_pre old l (ostep old s g)
    exact List.IsPrefix.trans (List.prefix_append s.2 _) h

theorem evs_drop {n f : Nat} {X : List Bool} (h : evs n f <+: X) : evs n f ++ X.drop n = X := by
  obtain ⟨t, rfl⟩ := h
  rw [List.drop_left' (evs_len n f)]

theorem drop_snoc {n : Nat} {X : List Bool} {b : Bool} (h : n ≤ X.length) : (X ++ [b]).drop n = X.drop n ++ [b] := by
  rw [List.drop_append_of_le_length h]

theorem c_Values48 (d : Dyn) (f : Nat) (memo : List Int) (hf : f < 2 ^ 63) (hc : checkR d = 0) (ho : memo.length = d.gates.length) :
    FnH Tryz.prog 28 [d.av, St.av ⟨f, memo⟩] [] (bL ((valuesR d f memo).drop d.vars.toNat)) [] := by
  have hd := checkR_ok hc
  have hv := hd.vars
  have hg := hd.gates
  have h16 := args16 hc
  refine FnH.intro lay mixed Tryz.func28 (by kernel_rfl) rfl (by kernel_rfl) rfl fun hok => ?_
  ((try dsimp only [argC, succC]); (try dsimp only [awp]); (conv => whnf))
  refine LoopE.of <| LoopSpec.inv (.grow 5 1 [] _ rfl (.inl ⟨rfl, rfl⟩) (.refl _ _)) (fun i : Nat => i ≤ d.gates.length)
    (fun i => [(13, .int .i64 i), (5, .sl 1 ((((d.gates.take i).foldl (vstep d.vars.toNat memo) (evs d.vars.toNat f)).drop d.vars.toNat).map .bool) (.own 2))])
    (fun i => [(2, .tok 1 i), (1, .box (St.av ⟨f, memo⟩)), (0, .box d.av)]) (fun i => d.gates.length - i) 0 ?_ (fun _ => rfl) ?_ ?_
  · exact Nat.zero_le _
  · refine ⟨?_, .mk ?_ ⟨by simp, by simp, by simp, trivial⟩⟩
    · (repeat' (first | exact rfl | exact trivial | exact HWk.refl rfl | exact leRL_refl _ | (refine And.intro ?_ ?_)))
      refine leRL_of ?_
      simp [List.drop_eq_nil_of_le (Nat.le_of_eq (evs_len d.vars.toNat f))]
    · (repeat' (first | exact rfl | exact trivial | exact HWk.refl rfl | exact leRL_refl _ | (refine And.intro ?_ ?_)))
  intro i hi _
  ((try dsimp only [awp]); (conv => whnf))
  refine And.intro (fun h => ?_) (fun h => ?_)
  · have hlt : i < d.gates.length := by simpa using h
    have hs := foldl_take (f := vstep d.vars.toNat memo) (s := evs d.vars.toNat f) hlt
    have hlen := vstep_len d.vars.toNat memo (d.gates.take i) (evs d.vars.toNat f)
    rw [List.length_take, evs_len, Nat.min_eq_left hi] at hlen
    have hpre := evs_drop (vfold_pre d.vars.toNat memo (d.gates.take i) (evs d.vars.toNat f))
    have ha := hd.args i hlt
    have h2 := hd.two i hlt
    have hl16 := h16 i hlt
    generalize hg0 : d.gates[i] = g at *
    generalize hs0 : (d.gates.take i).foldl (vstep d.vars.toNat memo) (evs d.vars.toNat f) = v at *
    rw [vstep, hlen, Nat.add_sub_cancel_left] at hs
    have h8 : g.kind = 8 → g.args ≠ [] := fun hk e => by have := h2 hk; rw [e] at this; simp at this
    have ct := c_trues d (v.drop d.vars.toNat) f g ⟨by omega, hv.2⟩ hf hl16 (fun a h => by have := ha a h; rw [List.length_drop, hlen]; omega)
    rw [hpre] at ct
    have cv := c_value48 g v (memo.getD i 0) hl16 h8
    have hvl : (v.drop d.vars.toNat).length = i := by rw [List.length_drop, hlen]; omega
    have hsn := drop_snoc (n := d.vars.toNat) (X := v) (b := gval g v (memo.getD i 0)) (by omega)
    generalize v.drop d.vars.toNat = V at *
    ((try dsimp only [awp]); (conv => whnf))
    refine aidx hlt ?_
    rw [hg0]
    ((try dsimp only [awp]); (conv => whnf))
    refine .pure _ _ ?_ ⟨rfl, rfl⟩ ct fun _ => ?_
    · (repeat' (first | exact rfl | exact trivial | exact HWk.refl rfl | exact leRL_refl _ | (refine And.intro ?_ ?_)))
    ((try dsimp only [awp]); (conv => whnf))
    (refine ADraw.auto (by kernel_rfl) ?_; (conv => whnf))
    refine aidxN 0 (show i < memo.length by omega) ?_
    ((try dsimp only [awp]); (conv => whnf))
    refine ACallP.pure _ _ ?_ ⟨rfl, rfl⟩ cv ?_
    · (repeat' (first | exact rfl | exact trivial | exact HWk.refl rfl | exact leRL_refl _ | (refine And.intro ?_ ?_)))
    ((try dsimp only [awp]); (conv => whnf))
    refine ⟨by rw [List.length_map]; omega, .mk (by simp [maxL]; omega) (by simp; omega) ?_⟩
    ((try dsimp only [awp]); (conv => whnf))
    (refine ⟨inr64 (by omega) (by omega), ?_⟩; (conv => whnf))
    refine ⟨i + 1, ?_, ?_, ?_⟩
    · exact hlt
    · rw [hs, hsn]
      refine ⟨?_, .mk ?_ ⟨by simp, by simp, by simp, trivial⟩⟩
      · (repeat' (first | exact rfl | exact trivial | exact HWk.refl rfl | exact leRL_refl _ | (refine And.intro ?_ ?_)))
        all_goals first | (refine leRL_of ?_; simp [strip]; done) | (simp; omega)
      · (repeat' (first | exact rfl | exact trivial | exact HWk.refl rfl | exact leRL_refl _ | (refine And.intro ?_ ?_)))
        all_goals first | (simp; omega)
    · omega
  · have hlt : i = d.gates.length := by have : ¬ i < d.gates.length := by simpa using h
                                        omega
    subst hlt
    rw [List.take_length]
    ((try dsimp only [awp]); (conv => whnf))
    (refine FinSpec.mono ?_; (conv => whnf); refine ⟨?_, rfl⟩; (conv => whnf))
    (repeat' (first | exact rfl | exact trivial | exact HWk.refl rfl | exact leRL_refl _ | (refine And.intro ?_ ?_)))
end S

open Go Go.AL Go.Proofs
namespace S
set_option maxRecDepth 100000

theorem orAll_or : ∀ (l : List Int) (x y : Nat), orAll l (x ||| y) = x ||| orAll l y
  | [], _, _ => rfl
  | a :: l, x, y => by
    have h := orAll_or l x (y ||| 2 ^ a.toNat)
    rw [← Nat.or_assoc] at h
    exact h

theorem strike1_or (v : List Bool) (g : Gate) (x y : Nat) : strike1 v (x ||| y) g = x ||| strike1 v y g := by
  unfold strike1
  split
  · exact orAll_or _ _ _
  · rfl

theorem strikeL_or (v : List Bool) : ∀ (l : List Gate) (x y : Nat), l.foldl (strike1 v) (x ||| y) = x ||| l.foldl (strike1 v) y
  | [], _, _ => rfl
  | g :: l, x, y => by
    simp only [List.foldl_cons]
    rw [strike1_or, strikeL_or]

theorem strike_or (d : Dyn) (v : List Bool) (f : Nat) : strike d v f = f ||| d.gates.foldl (strike1 v) 0 := by
  have := strikeL_or v d.gates f 0
  rw [Nat.or_zero] at this
  exact this

theorem nandN_zero {a b : Nat} (ha : a < 2 ^ 63) : nandN a b = 0 ↔ b ||| a = b := by
  constructor
  · intro h
    apply Nat.eq_of_testBit_eq
    intro i
    have h1 := testBit_nandN (a := a) (b := b) ha i
    rw [h, Nat.zero_testBit] at h1
    rw [Nat.testBit_or]
    cases hb : b.testBit i <;> cases hA : a.testBit i <;> simp_all
  · intro h
    apply Nat.eq_of_testBit_eq
    intro i
    rw [testBit_nandN ha, Nat.zero_testBit]
    have h1 : (b ||| a).testBit i = b.testBit i := by rw [h]
    rw [Nat.testBit_or] at h1
    cases hb : b.testBit i <;> cases hA : a.testBit i <;> simp_all

theorem prefix_getD {u v : List Bool} (h : u <+: v) {i : Nat} (hi : i < u.length) : v.getD i false = u.getD i false := by
  obtain ⟨t, rfl⟩ := h
  rw [List.getD_eq_getElem?_getD, List.getElem?_append_left hi, List.getD_eq_getElem?_getD]


theorem c_Settle48 (d : Dyn) (f : Nat) (old : List Int) (hf : f < 2 ^ d.vars.toNat) (hc : checkR d = 0) (ho : MemoOk d old) :
    FnH Tryz.prog 62 [d.av, .int .i64 f, iL old] [] (settleR d f old).av [] := by
  have hd := checkR_ok hc
  have hv := hd.vars
  have hg := hd.gates
  have h16 := args16 hc
  have hp := pow_vars hd
  refine FnH.intro lay mixed Tryz.func62 (by kernel_rfl) rfl (by kernel_rfl) rfl fun hok => ?_
  ((try dsimp only [argC, succC]); (try dsimp only [awp]); (conv => whnf))
  refine LoopE.of <| LoopSpec.inv (.refl _ _) (fun (x : Nat) => x < 2 ^ d.vars.toNat ∧ settleR d x old = settleR d f old) (fun (x : Nat) => [(1, .int .i64 x)]) (fun _ => _) (fun (x : Nat) => 2 ^ d.vars.toNat - x) f ?_ (fun _ => rfl) ?_ ?_
  · exact ⟨hf, rfl⟩
  · (repeat' (first | exact rfl | exact trivial | exact HWk.refl rfl | exact leRL_refl _ | (refine And.intro ?_ ?_)))
  rintro x ⟨hx, hs⟩ _
  rw [settleR_step hd hx] at hs
  obtain ⟨o, ho2⟩ : ∃ o, onceR d x old = o := ⟨_, rfl⟩
  rw [ho2] at hs
  ((try dsimp only [awp]); (conv => whnf))
  refine LoopE.of <| LoopSpec.inv (.growF 2 [1] 1 [] (.ag [.int .i64 x, .nils]) .nils _ rfl rfl (.inl ⟨rfl, rfl⟩) rfl (.grow 8 1 [] _ rfl (.inl ⟨rfl, rfl⟩) (.refl _ _))) (fun i : Nat => i ≤ d.gates.length)
    (fun i => [(21, .int .i64 i), (8, .sl 1 ((((d.gates.take i).foldl (ostep old) ([], evs d.vars.toNat x)).2.drop d.vars.toNat).map .bool) (.own 4)), (9, .int .i64 ((d.gates.take i).foldl (strike1 o.2) 0 : Nat))])
    (fun i => [(4, .tok 1 i), (3, .tok 1 i), (2, .box (.ag [.int .i64 x, .sl 1 (((d.gates.take i).foldl (ostep old) ([], evs d.vars.toNat x)).1.map (.int .i64)) (.own 3)])), (1, .box (.ag [.int .i64 0, .nils])), (0, .box d.av)]) (fun i => d.gates.length - i) 0 ?_ (fun _ => rfl) ?_ ?_
  · exact Nat.zero_le _
  · refine ⟨?_, .mk ?_ ⟨by simp, by simp, by simp, by simp, by simp, trivial⟩⟩
    · (repeat' (first | exact rfl | exact trivial | exact HWk.refl rfl | exact leRL_refl _ | (refine And.intro ?_ ?_)))
      refine leRL_of ?_
      simp [List.drop_eq_nil_of_le (Nat.le_of_eq (evs_len d.vars.toNat x))]
    · (repeat' (first | exact rfl | exact trivial | exact HWk.refl rfl | exact leRL_refl _ | (refine And.intro ?_ ?_)))
  intro i hi _
  ((try dsimp only [awp]); (conv => whnf))
  refine And.intro (fun h => ?_) (fun h => ?_)
  · have hlt : i < d.gates.length := by simpa using h
    have hs1 := foldl_take (f := ostep old) (s := ([], evs d.vars.toNat x)) hlt
    have hst := foldl_take (f := strike1 o.2) (s := 0) hlt
    have hlen := ostep_len old (d.gates.take i) ([], evs d.vars.toNat x)
    rw [List.length_take, evs_len, Nat.min_eq_left hi] at hlen
    have hpre := evs_drop (ofold_pre old (d.gates.take i) ([], evs d.vars.toNat x))
    have hpo : ((d.gates.take i).foldl (ostep old) ([], evs d.vars.toNat x)).2 <+: o.2 := by
      rw [← ho2]
      unfold onceR
      rw [← List.take_append_drop i d.gates, List.foldl_append, List.take_append_drop]
      exact ofold_pre old _ _
    have hy2 := strikeL_lt (n := d.vars.toNat) (v := o.2) (d.gates.take i) 0 (fun g hg => hd.drop g (List.mem_of_mem_take hg)) (by omega)
    have hdr := hd.drop _ (List.getElem_mem hlt)
    have ha := hd.args i hlt
    have h2 := hd.two i hlt
    have hl16 := h16 i hlt
    have hosp := ho.sp i hlt
    generalize hg0 : d.gates[i] = g at *
    generalize (d.gates.take i).foldl (ostep old) ([], evs d.vars.toNat x) = s at *
    generalize (d.gates.take i).foldl (strike1 o.2) 0 = y at *
    obtain ⟨s1, v⟩ := s
    simp only [List.length_nil, Nat.zero_add] at hlen
    obtain ⟨hl1, hl2⟩ := hlen
    dsimp only at hpre hpo hl2
    simp only [ostep, hl1] at hs1
    have h8 : g.kind = 8 → g.args ≠ [] := fun hk e => by have := h2 hk; rw [e] at this; simp at this
    have ct := c_trues d (v.drop d.vars.toNat) x g ⟨by omega, hv.2⟩ (by omega) hl16 (fun a h => by have := ha a h; rw [List.length_drop, hl2]; omega)
    rw [hpre] at ct
    have cm := c_memory48 g v (old.getD i 0) hl16 hosp
    obtain ⟨m, hm⟩ : ∃ m, memoR g v (old.getD i 0) = m := ⟨_, rfl⟩
    rw [hm] at cm hs1
    have cv := c_value48 g v m hl16 h8
    have hvl : (v.drop d.vars.toNat).length = i := by rw [List.length_drop, hl2]; omega
    have hsn := drop_snoc (n := d.vars.toNat) (X := v) (b := gval g v m) (by omega)
    have hidx : (s1.map (AV.int .i64) ++ [strip (AV.int .i64 m)])[(i : Int).toNat]? = some (.int .i64 m) := by
      rw [Int.toNat_natCast, List.getElem?_append_right (by simp [hl1])]
      simp [hl1, strip]
    have hx0 : i < old.length := by rw [ho.len]; omega
    generalize v.drop d.vars.toNat = V at *
    ((try dsimp only [awp]); (conv => whnf))
    refine aidx hlt ?_
    rw [hg0]
    ((try dsimp only [awp]); (conv => whnf))
    refine .pure _ _ ?_ ⟨rfl, rfl⟩ ct fun _ => ?_
    · (repeat' (first | exact rfl | exact trivial | exact HWk.refl rfl | exact leRL_refl _ | (refine And.intro ?_ ?_)))
    ((try dsimp only [awp]); (conv => whnf))
    (refine ADraw.auto (by kernel_rfl) ?_; (conv => whnf))
    refine aidxN 0 hx0 ?_
    ((try dsimp only [awp]); (conv => whnf))
    refine ACallP.pure _ _ ?_ ⟨rfl, rfl⟩ cm ?_
    · (repeat' (first | exact rfl | exact trivial | exact HWk.refl rfl | exact leRL_refl _ | (refine And.intro ?_ ?_)))
    ((try dsimp only [awp]); (conv => whnf))
    refine ⟨by rw [List.length_map]; omega, .mk (by simp [maxL]; omega) (by simp; omega) ?_⟩
    ((try dsimp only [awp]); (conv => whnf))
    (refine ADraw.auto (by kernel_rfl) ?_; (conv => whnf))
    refine AIdx.mk ⟨_, ⟨by omega, hidx⟩, ?_⟩
    ((try dsimp only [awp]); (conv => whnf))
    refine ACallP.pure _ _ ?_ ⟨rfl, rfl⟩ cv ?_
    · (repeat' (first | exact rfl | exact trivial | exact HWk.refl rfl | exact leRL_refl _ | (refine And.intro ?_ ?_)))
    ((try dsimp only [awp]); (conv => whnf))
    refine ⟨by rw [List.length_map]; omega, .mk (by simp [maxL]; omega) (by simp; omega) ?_⟩
    ((try dsimp only [awp]); (conv => whnf))
    have hb0 : 0 < g.args.length → (argV v g.args).getD 0 false = o.2.getD (g.args.getD 0 0).toNat false := fun h0 => by
      have ha0 := ha (g.args.getD 0 0) (getD_mem h0)
      rw [argV_getD h0, prefix_getD hpo (by omega)]
    refine And.intro (fun k8 => ?_) (fun k8 => ?_)
    · have hlen0 : 0 < g.args.length := by have := h2 k8; omega
      have hb0 := hb0 hlen0
      ((try dsimp only [awp]); (conv => whnf))
      refine aidx0 false (by rw [argV_len]; exact hlen0) ?_
      rw [hb0]
      ((try dsimp only [awp]); (conv => whnf))
      refine And.intro (fun hb => ?_) (fun hb => ?_)
      · have hst1 : strike1 o.2 y g = orAll (g.args.drop 1) y := by unfold strike1; rw [if_pos ⟨k8, hb⟩]
        rw [hst1] at hst
        ((try dsimp only [awp]); (conv => whnf))
        refine ⟨⟨by omega, by simp; omega, by simp⟩, ?_⟩
        have hcut : ((g.args.map (AV.int .i64)).drop (1 : Int).toNat).take (((g.args.map (AV.int .i64)).length : Int).toNat - (1 : Int).toNat) = (g.args.drop 1).map (AV.int .i64) := by
          rw [List.take_of_length_le (by simp), ← List.map_drop]; rfl
        rw [hcut]
        ((try dsimp only [awp]); (conv => whnf))
        refine LoopE.of <| LoopSpec.inv (.refl _ _) (fun (j : Nat) => j ≤ (g.args.drop 1).length) (fun (j : Nat) => [(71, .int .i64 j), (9, .int .i64 (orAll ((g.args.drop 1).take j) y : Nat))]) (fun _ => _) (fun (j : Nat) => (g.args.drop 1).length - j) 0 ?_ (fun _ => rfl) ?_ ?_
        · exact Nat.zero_le _
        · (repeat' (first | exact rfl | exact trivial | exact HWk.refl rfl | exact leRL_refl _ | (refine And.intro ?_ ?_)))
        intro j hj _
        ((try dsimp only [awp]); (conv => whnf))
        refine And.intro (fun hh => ?_) (fun hh => ?_)
        · have hjlt : j < (g.args.drop 1).length := by simpa using hh
          have hor := orAll_take (x := y) hjlt
          have hor2 := orAll_lt (n := d.vars.toNat) ((g.args.drop 1).take j) y (fun a ha => hdr k8 a (List.mem_of_mem_take ha)) hy2
          have ha1 := hdr k8 _ (List.getElem_mem hjlt)
          obtain ⟨a', ha'⟩ : ∃ a' : Nat, (g.args.drop 1)[j] = a' := ⟨((g.args.drop 1)[j]).toNat, by omega⟩
          rw [ha'] at hor ha1
          ((try dsimp only [awp]); (conv => whnf))
          refine aidx hjlt ?_
          rw [ha']
          ((try dsimp only [awp]); (conv => whnf))
          refine ⟨by omega, ?_⟩
          rw [shl_one (by omega)]
          have hpa : 2 ^ a' < 2 ^ 24 := Nat.pow_lt_pow_right (by omega) (by omega)
          (conv => whnf)
          rw [or_nat (by omega) (by omega)]
          ((try dsimp only [awp]); (conv => whnf))
          have : (g.args.drop 1).length ≤ g.args.length := by simp
          (refine ⟨inr64 (by omega) (by omega), ?_⟩; (conv => whnf))
          refine ⟨j + 1, ?_, ?_, ?_⟩
          · exact hjlt
          · rw [hor]; (repeat' (first | exact rfl | exact trivial | exact HWk.refl rfl | exact leRL_refl _ | (refine And.intro ?_ ?_)))
          · omega
        · have hjlt : j = (g.args.drop 1).length := by have : ¬ j < (g.args.drop 1).length := by simpa using hh
                                                       omega
          subst hjlt
          rw [List.take_length]
          ((try dsimp only [awp]); (conv => whnf))
          (refine ⟨inr64 (by omega) (by omega), ?_⟩; (conv => whnf))
          refine ⟨i + 1, ?_, ?_, ?_⟩
          · exact hlt
          · rw [hs1, hst, hsn]
            refine ⟨?_, .mk ?_ ⟨by simp, by simp, by simp, by simp, by simp, trivial⟩⟩
            · (repeat' (first | exact rfl | exact trivial | exact HWk.refl rfl | exact leRL_refl _ | (refine And.intro ?_ ?_)))
              all_goals first | (refine leRL_of ?_; simp [strip]; done) | (simp; omega)
            · (repeat' (first | exact rfl | exact trivial | exact HWk.refl rfl | exact leRL_refl _ | (refine And.intro ?_ ?_)))
              all_goals first | (refine leRL_of ?_; simp [strip]; done) | (simp; omega)
          · omega
      · have hst1 : strike1 o.2 y g = y := by unfold strike1; rw [if_neg (fun h => by rw [h.2] at hb; cases hb)]
        rw [hst1] at hst
        ((try dsimp only [awp]); (conv => whnf))
        (refine ⟨inr64 (by omega) (by omega), ?_⟩; (conv => whnf))
        refine ⟨i + 1, ?_, ?_, ?_⟩
        · exact hlt
        · rw [hs1, hst, hsn]
          refine ⟨?_, .mk ?_ ⟨by simp, by simp, by simp, by simp, by simp, trivial⟩⟩
          · (repeat' (first | exact rfl | exact trivial | exact HWk.refl rfl | exact leRL_refl _ | (refine And.intro ?_ ?_)))
            all_goals first | (refine leRL_of ?_; simp [strip]; done) | (simp; omega)
          · (repeat' (first | exact rfl | exact trivial | exact HWk.refl rfl | exact leRL_refl _ | (refine And.intro ?_ ?_)))
            all_goals first | (refine leRL_of ?_; simp [strip]; done) | (simp; omega)
        · omega
    · have hst1 : strike1 o.2 y g = y := by unfold strike1; rw [if_neg (fun h => k8 h.1)]
      rw [hst1] at hst
      ((try dsimp only [awp]); (conv => whnf))
      (refine ⟨inr64 (by omega) (by omega), ?_⟩; (conv => whnf))
      refine ⟨i + 1, ?_, ?_, ?_⟩
      · exact hlt
      · rw [hs1, hst, hsn]
        refine ⟨?_, .mk ?_ ⟨by simp, by simp, by simp, by simp, by simp, trivial⟩⟩
        · (repeat' (first | exact rfl | exact trivial | exact HWk.refl rfl | exact leRL_refl _ | (refine And.intro ?_ ?_)))
          all_goals first | (refine leRL_of ?_; simp [strip]; done) | (simp; omega)
        · (repeat' (first | exact rfl | exact trivial | exact HWk.refl rfl | exact leRL_refl _ | (refine And.intro ?_ ?_)))
          all_goals first | (refine leRL_of ?_; simp [strip]; done) | (simp; omega)
      · omega
  · have hlt : i = d.gates.length := by have : ¬ i < d.gates.length := by simpa using h
                                        omega
    subst hlt
    rw [List.take_length]
    have hso := strike_or d o.2 x
    have hle2 : x ≤ strike d o.2 x := strike_le _ _ _
    have hlt2 := strike_lt hd (v := o.2) hx
    have hy2 := strikeL_lt (n := d.vars.toNat) (v := o.2) d.gates 0 hd.drop (by omega)
    have hoo : d.gates.foldl (ostep old) ([], evs d.vars.toNat x) = o := ho2
    rw [hoo]
    generalize d.gates.foldl (strike1 o.2) 0 = y at *
    ((try dsimp only [awp]); (conv => whnf))
    rw [andNot_nat (by omega)]
    have hnz := nandN_zero (a := y) (b := x) (by omega)
    ((try dsimp only [awp]); (conv => whnf))
    refine And.intro (fun hz => ?_) (fun hz => ?_)
    · have hz : nandN y x = 0 := by omega
      rw [if_pos (by rw [hso]; exact hnz.1 hz)] at hs
      ((try dsimp only [awp]); (conv => whnf))
      (refine FinSpec.mono ?_; (conv => whnf); refine ⟨?_, rfl⟩; (conv => whnf))
      rw [← hs]
      (repeat' (first | exact rfl | exact trivial | exact HWk.refl rfl | exact leRL_refl _ | (refine And.intro ?_ ?_)))
    · have hz : ¬ strike d o.2 x = x := by rw [hso]; intro e; exact hz (by rw [hnz.2 e]; rfl)
      rw [if_neg hz] at hs
      (conv => whnf)
      rw [or_nat (by omega) (by omega), ← hso]
      ((try dsimp only [awp]); (conv => whnf))
      refine ⟨strike d o.2 x, ?_, ?_, ?_⟩
      · exact ⟨hlt2, hs⟩
      · refine ⟨?_, .mk ?_ ⟨by simp, by simp, trivial⟩⟩
        · (repeat' (first | exact rfl | exact trivial | exact HWk.refl rfl | exact leRL_refl _ | (refine And.intro ?_ ?_)))
        · (repeat' (first | exact rfl | exact trivial | exact HWk.refl rfl | exact leRL_refl _ | (refine And.intro ?_ ?_)))
      · omega
end S
