/-
  Contracts of functions of the program, over the logic of the texts before. Nothing is assumed.
-/
import Derived.Test.YtkhinhepefmdhaaGreatT7

open Go Go.AL Go.Proofs
namespace S
set_option maxRecDepth 100000

/-! ### the reference's numbers, in general -/

theorem lt_of_drop {a b : List Int} (ha : Ws a) (hb : Ws b) {i : Nat} (h : val (a.drop i) < val (b.drop i)) : val a < val b := by
  rw [← val_drop ha, ← val_drop hb] at h
  apply Classical.byContradiction
  intro hn
  have := Nat.div_le_div_right (c := 4294967296 ^ i) (Nat.le_of_not_lt hn)
  omega

theorem c_rCmp (a b : List Int) (ha : a.length ≤ 1000001) (hb : b.length ≤ 1000001) : FnH Tryz.prog 215 [wL a, wL b] [] (.int .i64 (cmpN (val a) (val b))) [] := by
  refine FnH.intro lay mixed Tryz.func215 (by kernel_rfl) rfl (by kernel_rfl) rfl fun hok => ?_
  have wa : Ws a := Ws.ok hok.1.2
  have wb : Ws b := Ws.ok hok.2.1.2
  (conv => whnf)
  obtain ⟨m, hm⟩ : ∃ m : Nat, max (((a.map (AV.int .u32)).length : Nat) : Int) (((b.map (AV.int .u32)).length : Nat) : Int) = (m : Int) := ⟨max a.length b.length, by simp; omega⟩
  have hm1 : a.length ≤ m ∧ b.length ≤ m ∧ m ≤ 1000001 := by simp at hm; omega
  rw [hm]
  refine ⟨inr64 (by omega) (by omega), ?_⟩
  (conv => whnf)
  refine LoopE.of <| LoopSpec.inv (.refl _ _) (fun (n : Nat) => n ≤ m ∧ val (a.drop n) = val (b.drop n)) (fun (n : Nat) => [(5, .int .i64 ((n : Int) - 1))]) (fun _ => _) (fun (n : Nat) => n) m ?_ (fun _ => rfl) ?_ ?_
  · exact ⟨Nat.le_refl _, by rw [List.drop_eq_nil_of_le hm1.1, List.drop_eq_nil_of_le hm1.2.1]⟩
  · (repeat' (first | exact rfl | exact trivial | exact HWk.refl rfl | exact leRL_refl _ | (refine And.intro ?_ ?_)))
  rintro n ⟨hn, hd⟩ _
  (conv => whnf)
  refine And.intro (fun h0 => ?_) (fun h0 => ?_)
  · obtain ⟨i, rfl⟩ : ∃ i, n = i + 1 := ⟨n - 1, by omega⟩
    have e1 : (((i + 1 : Nat) : Int) - 1) = (i : Int) := by omega
    have ca := c_rWord a i
    have cb := c_rWord b i
    have hva := val_hd a i
    have hvb := val_hd b i
    have hxa := wa.getD (i := i)
    have hxb := wb.getD (i := i)
    rw [e1]
    generalize a.getD i 0 = x at *
    generalize b.getD i 0 = y at *
    (conv => whnf)
    refine .pure _ _ ?_ ⟨rfl, rfl⟩ ca fun _ => ?_
    · exact leL_refl _
    (conv => whnf)
    refine .pure _ _ ?_ ⟨rfl, rfl⟩ cb fun _ => ?_
    · exact leL_refl _
    (conv => whnf)
    refine And.intro (fun h1 => ?_) (fun h1 => ?_)
    · (conv => whnf)
      (refine FinSpec.mono ?_; (conv => whnf); refine ⟨?_, rfl⟩; (conv => whnf))
      refine ⟨rfl, ?_⟩
      rw [cmpN, if_pos (lt_of_drop wa wb (i := i) (by omega))]
    (conv => whnf)
    refine .pure _ _ ?_ ⟨rfl, rfl⟩ ca fun _ => ?_
    · exact leL_refl _
    (conv => whnf)
    refine .pure _ _ ?_ ⟨rfl, rfl⟩ cb fun _ => ?_
    · exact leL_refl _
    (conv => whnf)
    refine And.intro (fun h2 => ?_) (fun h2 => ?_)
    · have := lt_of_drop wb wa (i := i) (by omega)
      (conv => whnf)
      (refine FinSpec.mono ?_; (conv => whnf); refine ⟨?_, rfl⟩; (conv => whnf))
      refine ⟨rfl, ?_⟩
      rw [cmpN, if_neg (by omega), if_pos this]
    (conv => whnf)
    (refine ⟨inr64 (by omega) (by omega), ?_⟩; (conv => whnf))
    refine ⟨i, ?_, ?_, ?_⟩
    · exact ⟨by omega, by omega⟩
    · (repeat' (first | exact rfl | exact trivial | exact HWk.refl rfl | exact leRL_refl _ | (refine And.intro ?_ ?_)))
    · omega
  · have hn0 : n = 0 := by omega
    subst hn0
    simp only [List.drop_zero] at hd
    (conv => whnf)
    (refine FinSpec.mono ?_; (conv => whnf); refine ⟨?_, rfl⟩; (conv => whnf))
    refine ⟨rfl, ?_⟩
    rw [cmpN, if_neg (by omega), if_neg (by omega)]

theorem val_take_lt {l : List Int} {n : Nat} (h : val l < 4294967296 ^ n) : val (l.take n) = val l := by
  by_cases hn : n ≤ l.length
  · have e := val_take_drop n hn
    have h0 : val (l.drop n) = 0 := by
      apply Classical.byContradiction
      intro hne
      have : 4294967296 ^ n * 1 ≤ 4294967296 ^ n * val (l.drop n) := Nat.mul_le_mul_left _ (by omega)
      omega
    rw [h0, Nat.mul_zero] at e
    omega
  · rw [List.take_of_length_le (by omega)]

theorem rsub_arith {p B x low b y b' va vb s : Nat} (h1 : x + B * b' = y + low + b) (h : va + p * b = s + vb) : va + p * x + p * B * b' = s + p * y + (vb + p * low) := by
  have e1 : p * (x + B * b') = p * (y + low + b) := by rw [h1]
  rw [Nat.mul_add, Nat.mul_add, Nat.mul_add, ← Nat.mul_assoc] at e1
  omega

theorem c_rSub (a b : List Int) (ha : a.length ≤ 1000000) (hb : b.length ≤ 1000000) (R : AV) (hR : R = if val a < val b then .tup [wL [], .int .i64 3] else .tup [wL (wd (val a - val b)), .int .i64 0]) :
    FnH Tryz.prog 216 [wL a, wL b] [] R [] := by
  refine FnH.intro lay mixed Tryz.func216 (by kernel_rfl) rfl (by kernel_rfl) rfl fun hok => ?_
  have wa : Ws a := Ws.ok hok.1.2
  have wb : Ws b := Ws.ok hok.2.1.2
  (conv => whnf)
  refine .pure _ _ ?_ ⟨rfl, rfl⟩ (c_rCmp a b (by omega) (by omega)) fun _ => ?_
  · exact leL_refl _
  (conv => whnf)
  refine And.intro (fun h => ?_) (fun h => ?_)
  · have hlt : val a < val b := by
      unfold cmpN at h
      split at h
      · assumption
      · split at h <;> omega
    rw [if_pos hlt] at hR
    subst hR
    (conv => whnf)
    (refine FinSpec.mono ?_; (conv => whnf); refine ⟨?_, rfl⟩; (conv => whnf))
    (repeat' (first | exact rfl | exact trivial | exact HWk.refl rfl | exact leRL_refl _ | (refine And.intro ?_ ?_)))
  have hge : ¬ val a < val b := by
    intro hlt
    unfold cmpN at h
    rw [if_pos hlt] at h
    omega
  rw [if_neg hge] at hR
  subst hR
  (conv => whnf)
  refine LoopE.of <| LoopSpec.inv (.grow 6 1 [] _ rfl (.inl ⟨rfl, rfl⟩) (.refl _ _)) (fun x : Nat × Nat × List Int => x.1 ≤ a.length ∧ x.2.1 ≤ 1 ∧ Ws x.2.2 ∧ x.2.2.length = x.1 ∧ val (a.take x.1) + 4294967296 ^ x.1 * x.2.1 = val x.2.2 + val (b.take x.1))
    (fun | (i, b, s) => [(16, .int .i64 i), (7, .int .u64 b), (6, .sl 1 (s.map (.int .u32)) (.own 0))]) (fun | (_, _, s) => [(0, .tok 1 s.length)])
    (fun x => a.length - x.1) (0, 0, []) ?_ (fun _ => rfl) ?_ ?_
  · exact ⟨Nat.zero_le _, by simp, Ws.nil, rfl, by simp [val]⟩
  · refine ⟨?_, .mk ?_ ⟨by simp, trivial⟩⟩
    · (repeat' (first | exact rfl | exact trivial | exact HWk.refl rfl | exact leRL_refl _ | (refine And.intro ?_ ?_)))
    · (repeat' (first | exact rfl | exact trivial | exact HWk.refl rfl | exact leRL_refl _ | (refine And.intro ?_ ?_)))
  rintro ⟨i, bo, s⟩ ⟨hi, hbo, hws, hsl, hv⟩ _
  simp only at hi hbo hws hsl hv
  ((try dsimp only [awp]); (conv => whnf))
  refine And.intro (fun h => ?_) (fun h => ?_)
  · have hlt : i < a.length := by simpa using h
    have ca := c_rWord a i
    have cb := c_rWord b i
    have hva := val_take_getD (l := a) (i := i)
    have hvb := val_take_getD (l := b) (i := i)
    have hxa := wa.getD (i := i)
    have hxb := wb.getD (i := i)
    generalize a.getD i 0 = x0 at *
    generalize b.getD i 0 = y0 at *
    obtain ⟨x, rfl⟩ : ∃ x : Nat, x0 = x := ⟨x0.toNat, by omega⟩
    obtain ⟨w, rfl⟩ : ∃ x : Nat, y0 = x := ⟨y0.toNat, by omega⟩
    rw [Int.toNat_natCast] at hva hvb
    (conv => whnf)
    refine .gen _ _ (FnH.ofPure ca (leL_refl _) ⟨rfl, rfl⟩) fun _ => ?_
    (conv => whnf)
    refine .gen _ _ (FnH.ofPure cb (leL_refl _) ⟨rfl, rfl⟩) fun _ => ?_
    (conv => whnf)
    obtain ⟨D, hD, hD1, hD2, hD3⟩ := sub_word (x := x) (low := w) (b := bo) (by omega) (by omega) hbo
    rw [hD]
    (conv => whnf)
    rw [wrapu32_mod (a := D)]
    have hy : D % 4294967296 < 4294967296 := Nat.mod_lt _ (by decide)
    generalize D % 4294967296 = y at *
    refine ⟨by rw [List.length_map], ?_⟩
    refine ⟨by simp [maxL]; omega, by simp; omega, ?_⟩
    (conv => whnf)
    refine ⟨by decide, ?_⟩
    rw [shr_63]
    (conv => whnf)
    (refine ⟨inr64 (by omega) (by omega), ?_⟩; (conv => whnf))
    refine ⟨(i + 1, D / 9223372036854775808, s ++ [(y : Int)]), ?_, ?_, ?_⟩
    · refine ⟨hlt, hD2, hws.append (Ws.cons (by omega) Ws.nil), by simp [hsl], ?_⟩
      show val (a.take (i + 1)) + 4294967296 ^ (i + 1) * (D / 9223372036854775808) = val (s ++ [(y : Int)]) + val (b.take (i + 1))
      have e1 : val (s ++ [(y : Int)]) = val s + 4294967296 ^ i * y := by rw [val_append, hsl]; simp [val]
      rw [hva, hvb, e1, Nat.pow_succ]
      exact rsub_arith hD3 hv
    · refine ⟨?_, .mk ?_ ⟨by simp, trivial⟩⟩
      · (repeat' (first | exact rfl | exact trivial | exact HWk.refl rfl | exact leRL_refl _ | (refine And.intro ?_ ?_)))
        all_goals first | (refine leRL_of ?_; simp [strip]; done) | simp
      · (repeat' (first | exact rfl | exact trivial | exact HWk.refl rfl | exact leRL_refl _ | (refine And.intro ?_ ?_)))
        all_goals simp
    · show a.length - (i + 1) < a.length - i
      omega
  · have hil : i = a.length := by have : ¬ i < a.length := by simpa using h
                                  omega
    subst hil
    rw [List.take_length] at hv
    have hva := val_lt wa
    rw [val_take_lt (by omega)] at hv
    have hvs := val_lt hws
    rw [hsl] at hvs
    have hfin : val s = val a - val b := by
      have hb2 : bo = 0 ∨ bo = 1 := by omega
      rcases hb2 with rfl | rfl
      · omega
      · omega
    have ct := c_rTrim s (by omega)
    rw [hfin] at ct
    (conv => whnf)
    refine .pure _ _ ?_ ⟨rfl, rfl⟩ ct fun _ => ?_
    · (repeat' (first | exact rfl | exact trivial | exact HWk.refl rfl | exact leRL_refl _ | (refine And.intro ?_ ?_)))
    (conv => whnf)
    (refine FinSpec.mono ?_; (conv => whnf); refine ⟨?_, rfl⟩; (conv => whnf))
    (repeat' (first | exact rfl | exact trivial | exact HWk.refl rfl | exact leRL_refl _ | (refine And.intro ?_ ?_)))
end S

open Go Go.AL Go.Proofs
namespace S
set_option maxRecDepth 100000

theorem or_up {c x n : Nat} (hn : n < 32) (hc : c < 2 ^ n) (hx : x < 4294967296) : bitsR .or .u64 (c : Int) ((x * 2 ^ n : Nat) : Int) = ((c + x * 2 ^ n : Nat) : Int) := by
  have h3 : 2 ^ n ≤ 2 ^ 31 := Nat.pow_le_pow_right (by omega) (by omega)
  have h4 : x * 2 ^ n ≤ 4294967295 * 2 ^ 31 := Nat.mul_le_mul (by omega) h3
  rw [or_u64 (by omega) (by omega)]
  have := Nat.shiftLeft_add_eq_or_of_lt (i := n) hc x
  rw [Nat.shiftLeft_eq] at this
  rw [Nat.or_comm, ← this, Nat.add_comm]

theorem up_carry {c x n : Nat} (hc : c < 2 ^ n) (hx : x < 4294967296) : (c + x * 2 ^ n) / 4294967296 < 2 ^ n := by
  rw [Nat.div_lt_iff_lt_mul (by omega)]
  have h1 : (x + 1) * 2 ^ n ≤ 4294967296 * 2 ^ n := Nat.mul_le_mul_right _ (by omega)
  rw [Nat.mul_comm (2 ^ n) 4294967296]
  rw [Nat.add_mul] at h1
  omega

theorem up_arith {p B c x P C vs va : Nat} (hC : C = c + x * P) (h : vs + p * c = va * P) : vs + p * (C % B) + p * B * (C / B) = (va + p * x) * P := by
  have e1 : p * (C % B) + p * B * (C / B) = p * C := by rw [Nat.mul_assoc, ← Nat.mul_add, Nat.mod_add_div]
  rw [Nat.add_mul, ← h, Nat.mul_assoc p x, Nat.add_assoc, Nat.add_assoc, e1, hC, Nat.mul_add]

theorem c_rUp (a : List Int) (n : Nat) (hn : n < 32) (ha : a.length ≤ 999999) : FnH Tryz.prog 214 [wL a, .int .i64 n] [] (wL (wd (val a * 2 ^ n))) [] := by
  refine FnH.intro lay mixed Tryz.func214 (by kernel_rfl) rfl (by kernel_rfl) rfl fun hok => ?_
  have wa : Ws a := Ws.ok hok.1.2
  (conv => whnf)
  refine LoopE.of <| LoopSpec.inv (.grow 5 1 [] _ rfl (.inl ⟨rfl, rfl⟩) (.refl _ _)) (fun x : Nat × Nat × List Int => x.1 ≤ a.length ∧ x.2.1 < 2 ^ n ∧ Ws x.2.2 ∧ x.2.2.length = x.1 ∧ val x.2.2 + 4294967296 ^ x.1 * x.2.1 = val (a.take x.1) * 2 ^ n)
    (fun | (i, c, s) => [(11, .int .i64 i), (6, .int .u64 c), (5, .sl 1 (s.map (.int .u32)) (.own 0))]) (fun | (_, _, s) => [(0, .tok 1 s.length)])
    (fun x => a.length - x.1) (0, 0, []) ?_ (fun _ => rfl) ?_ ?_
  · exact ⟨Nat.zero_le _, Nat.two_pow_pos _, Ws.nil, rfl, by simp [val]⟩
  · refine ⟨?_, .mk ?_ ⟨by simp, trivial⟩⟩
    · (repeat' (first | exact rfl | exact trivial | exact HWk.refl rfl | exact leRL_refl _ | (refine And.intro ?_ ?_)))
    · (repeat' (first | exact rfl | exact trivial | exact HWk.refl rfl | exact leRL_refl _ | (refine And.intro ?_ ?_)))
  rintro ⟨i, c, s⟩ ⟨hi, hc, hws, hsl, hv⟩ _
  simp only at hi hc hws hsl hv
  have hn31 : 2 ^ n ≤ 2 ^ 31 := Nat.pow_le_pow_right (by omega) (by omega)
  ((try dsimp only [awp]); (conv => whnf))
  refine And.intro (fun h => ?_) (fun h => ?_)
  · have hlt : i < a.length := by simpa using h
    have hva := val_take_getD (l := a) (i := i)
    have hxa := wa.getD (i := i)
    (conv => whnf)
    refine aidxN' 0 rfl hlt ?_
    generalize a.getD i 0 = x0 at *
    obtain ⟨x, rfl⟩ : ∃ x : Nat, x0 = x := ⟨x0.toNat, by omega⟩
    rw [Int.toNat_natCast] at hva
    (conv => whnf)
    rw [wrap_u64 (n := (x : Int)) (by omega) (by omega)]
    refine ⟨by omega, ?_⟩
    rw [shl_u64 (by omega) hn]
    (conv => whnf)
    rw [or_up hn hc (by omega)]
    have hcar := up_carry hc (x := x) (by omega)
    obtain ⟨C, hC⟩ : ∃ C, c + x * 2 ^ n = C := ⟨_, rfl⟩
    rw [hC] at hcar ⊢
    (conv => whnf)
    rw [wrapu32_mod (a := C)]
    refine ⟨by rw [List.length_map], ?_⟩
    refine ⟨by simp [maxL]; omega, by simp; omega, ?_⟩
    (conv => whnf)
    refine ⟨by decide, ?_⟩
    rw [shr_word rfl]
    (conv => whnf)
    (refine ⟨inr64 (by omega) (by omega), ?_⟩; (conv => whnf))
    refine ⟨(i + 1, C / 4294967296, s ++ [((C % 4294967296 : Nat) : Int)]), ?_, ?_, ?_⟩
    · refine ⟨hlt, hcar, hws.append (Ws.cons (by omega) Ws.nil), by simp [hsl], ?_⟩
      show val (s ++ [((C % 4294967296 : Nat) : Int)]) + 4294967296 ^ (i + 1) * (C / 4294967296) = val (a.take (i + 1)) * 2 ^ n
      have e1 : val (s ++ [((C % 4294967296 : Nat) : Int)]) = val s + 4294967296 ^ i * (C % 4294967296) := by rw [val_append, hsl]; simp only [val, Int.toNat_natCast, Nat.mul_zero, Nat.add_zero]
      rw [hva, e1, Nat.pow_succ]
      exact up_arith hC.symm hv
    · refine ⟨?_, .mk ?_ ⟨by simp, trivial⟩⟩
      · (repeat' (first | exact rfl | exact trivial | exact HWk.refl rfl | exact leRL_refl _ | (refine And.intro ?_ ?_)))
        all_goals first | (refine leRL_of ?_; simp [strip]; done) | simp
      · (repeat' (first | exact rfl | exact trivial | exact HWk.refl rfl | exact leRL_refl _ | (refine And.intro ?_ ?_)))
        all_goals simp
    · show a.length - (i + 1) < a.length - i
      omega
  · have hil : i = a.length := by have : ¬ i < a.length := by simpa using h
                                  omega
    subst hil
    rw [List.take_length] at hv
    have ct := c_rTrim (s ++ [(c : Int)]) (by simp; omega)
    rw [val_append, hsl, show val [(c : Int)] = c by simp [val], hv] at ct
    (conv => whnf)
    rw [wrap_u32 (n := (c : Int)) (by omega) (by omega)]
    refine ⟨by rw [List.length_map], ?_⟩
    refine ⟨by simp [maxL]; omega, by simp; omega, ?_⟩
    (conv => whnf)
    refine .gen _ _ (FnH.ofPure ct ?_ ⟨rfl, rfl⟩) fun _ => ?_
    · (repeat' (first | exact rfl | exact trivial | exact HWk.refl rfl | exact leRL_refl _ | (refine And.intro ?_ ?_)))
      refine leRL_of ?_
      simp [strip]
    (conv => whnf)
    (refine FinSpec.mono ?_; (conv => whnf); refine ⟨?_, rfl⟩; (conv => whnf))
    (repeat' (first | exact rfl | exact trivial | exact HWk.refl rfl | exact leRL_refl _ | (refine And.intro ?_ ?_)))

theorem c_rDown (a : List Int) (n : Nat) (hn : n < 32) (ha : a.length ≤ 1000000) : FnH Tryz.prog 217 [wL a, .int .i64 n] [] (wL (wd (val a / 2 ^ n))) [] := by
  refine FnH.intro lay mixed Tryz.func217 (by kernel_rfl) rfl (by kernel_rfl) rfl fun hok => ?_
  have wa : Ws a := Ws.ok hok.1.2
  (conv => whnf)
  refine LoopE.of <| LoopSpec.inv (.grow 5 1 [] _ rfl (.inl ⟨rfl, rfl⟩) (.refl _ _)) (fun i : Nat => i ≤ a.length)
    (fun i => [(9, .int .i64 i), (5, .sl 1 ((wdN i (val a / 2 ^ n)).map (.int .u32)) (.own 0))]) (fun i => [(0, .tok 1 i)])
    (fun i => a.length - i) 0 ?_ (fun _ => rfl) ?_ ?_
  · exact Nat.zero_le _
  · refine ⟨?_, .mk ?_ ⟨by simp, trivial⟩⟩
    · (repeat' (first | exact rfl | exact trivial | exact HWk.refl rfl | exact leRL_refl _ | (refine And.intro ?_ ?_)))
    · (repeat' (first | exact rfl | exact trivial | exact HWk.refl rfl | exact leRL_refl _ | (refine And.intro ?_ ?_)))
  intro i hi _
  ((try dsimp only [awp]); (conv => whnf))
  refine And.intro (fun h => ?_) (fun h => ?_)
  · have hlt : i < a.length := by simpa using h
    have ca := c_rWord a i
    have cb := c_rWord a (i + 1)
    have hx := wa.getD (i := i)
    have hy := wa.getD (i := i + 1)
    have hrw := right_word wa (i := i) hn
    have hsnoc : wdN (i + 1) (val a / 2 ^ n) = wdN i (val a / 2 ^ n) ++ [((val a / 2 ^ n / 4294967296 ^ i % 4294967296 : Nat) : Int)] := by
      refine (wdN_of (by simp [wdN_len]) fun k hk => ?_).symm
      by_cases hki : k < i
      · rw [List.getD_eq_getElem?_getD, List.getElem?_append_left (by rw [wdN_len]; exact hki), ← List.getD_eq_getElem?_getD]
        exact wdN_get hki
      · have : k = i := by omega
        subst this
        rw [List.getD_eq_getElem?_getD, List.getElem?_append_right (by rw [wdN_len]; omega), wdN_len]
        simp
    generalize a.getD i 0 = x0 at *
    generalize a.getD (i + 1) 0 = y0 at *
    obtain ⟨x, rfl⟩ : ∃ x : Nat, x0 = x := ⟨x0.toNat, by omega⟩
    obtain ⟨y, rfl⟩ : ∃ y : Nat, y0 = y := ⟨y0.toNat, by omega⟩
    simp only [Int.toNat_natCast] at hrw
    (conv => whnf)
    refine .gen _ _ (FnH.ofPure ca (leL_refl _) ⟨rfl, rfl⟩) fun _ => ?_
    (conv => whnf)
    (refine ⟨inr64 (by omega) (by omega), ?_⟩; (conv => whnf))
    refine .gen _ _ (FnH.ofPure cb (leL_refl _) ⟨rfl, rfl⟩) fun _ => ?_
    (conv => whnf)
    refine ⟨by decide, ?_⟩
    rw [shl_word (by omega)]
    (conv => whnf)
    rw [or_word' (by omega) (by omega)]
    refine ⟨by omega, ?_⟩
    rw [shr_u64 hn]
    (conv => whnf)
    rw [wrapu32_mod, hrw]
    refine ⟨by simp [wdN_len], ?_⟩
    refine ⟨by simp [maxL, wdN_len]; omega, by simp [wdN_len]; omega, ?_⟩
    (conv => whnf)
    (refine ⟨inr64 (by omega) (by omega), ?_⟩; (conv => whnf))
    refine ⟨i + 1, ?_, ?_, ?_⟩
    · exact hlt
    · rw [hsnoc]
      refine ⟨?_, .mk ?_ ⟨by simp, trivial⟩⟩
      · (repeat' (first | exact rfl | exact trivial | exact HWk.refl rfl | exact leRL_refl _ | (refine And.intro ?_ ?_)))
        all_goals first | (refine leRL_of ?_; simp [strip]; done) | simp
      · (repeat' (first | exact rfl | exact trivial | exact HWk.refl rfl | exact leRL_refl _ | (refine And.intro ?_ ?_)))
        all_goals simp [wdN_len]
    · omega
  · have hil : i = a.length := by have : ¬ i < a.length := by simpa using h
                                  omega
    subst hil
    have hva := val_lt wa
    have hle : val a / 2 ^ n ≤ val a := Nat.div_le_self _ _
    have ct := c_rTrim (wdN a.length (val a / 2 ^ n)) (by rw [wdN_len]; omega)
    rw [val_wdN (by omega)] at ct
    (conv => whnf)
    refine .gen _ _ (FnH.ofPure ct ?_ ⟨rfl, rfl⟩) fun _ => ?_
    · (repeat' (first | exact rfl | exact trivial | exact HWk.refl rfl | exact leRL_refl _ | (refine And.intro ?_ ?_)))
    (conv => whnf)
    (refine FinSpec.mono ?_; (conv => whnf); refine ⟨?_, rfl⟩; (conv => whnf))
    (repeat' (first | exact rfl | exact trivial | exact HWk.refl rfl | exact leRL_refl _ | (refine And.intro ?_ ?_)))
end S

open Go Go.AL Go.Proofs
namespace S
set_option maxRecDepth 100000

theorem mul_step {p B x y o c C v0 vb vn : Nat} {w : Nat} (hC : C = x * y + o + c) (e : vn + p * o = v0 + p * (C % B)) (h : v0 + p * c = w + x * vb) : vn + p * B * (C / B) = w + x * vb + p * (x * y) := by
  have e1 : p * (C % B) + p * B * (C / B) = p * C := by rw [Nat.mul_assoc, ← Nat.mul_add, Nat.mod_add_div]
  have e2 : p * C = p * (x * y) + p * o + p * c := by rw [hC, Nat.mul_add, Nat.mul_add]
  omega

theorem mul_shift {p q x y : Nat} : p * q * (x * y) = p * x * (q * y) := by
  rw [Nat.mul_assoc, Nat.mul_assoc, Nat.mul_left_comm q]

theorem carry_zero {P Q A b o c : Nat} (h : o + P * Q * c = A * b) (h1 : A < P) (h2 : b < Q) : c = 0 := by
  apply Classical.byContradiction
  intro hne
  have k1 : P * Q * 1 ≤ P * Q * c := Nat.mul_le_mul_left _ (by omega)
  have k2 : A * b ≤ P * b := Nat.mul_le_mul_right _ (by omega)
  have k3 : P * b < P * Q := Nat.mul_lt_mul_of_pos_left h2 (by omega)
  omega

theorem c_rMul (a b : List Int) (ha : a.length ≤ 400000) (hb : b.length ≤ 400000) : FnH Tryz.prog 140 [wL a, wL b] [] (wL (wd (val a * val b))) [] := by
  refine FnH.intro lay mixed Tryz.func140 (by kernel_rfl) rfl (by kernel_rfl) rfl fun hok => ?_
  have wa : Ws a := Ws.ok hok.1.2
  have wb : Ws b := Ws.ok hok.2.1.2
  (conv => whnf)
  refine ⟨inr64 (by simp; omega) (by simp; omega), ?_⟩
  (conv => whnf)
  refine ⟨inr64 (by simp; omega) (by simp; omega), ?_⟩
  obtain ⟨m, hm⟩ : ∃ m, a.length + b.length + 1 = m := ⟨_, rfl⟩
  rw [show (((a.map (AV.int .u32)).length : Nat) : Int) + (((b.map (AV.int .u32)).length : Nat) : Int) + 1 = (m : Int) by simp; omega]
  (conv => whnf)
  refine ⟨⟨by omega, by omega, by simp; omega, by omega⟩, .wr ?_⟩
  (conv => whnf)
  refine LoopE.of <| LoopSpec.inv (.refl _ _) (fun x : Nat × List Int => x.1 ≤ a.length ∧ Ws x.2 ∧ x.2.length = m ∧ val x.2 = val (a.take x.1) * val b)
    (fun | (i, _) => [(20, .int .i64 i)]) (fun | (_, out) => [(0, .arr 1 m (out.map (.int .u32)))])
    (fun x => a.length - x.1) (0, List.replicate m 0) ?_ (fun _ => rfl) ?_ ?_
  · refine ⟨Nat.zero_le _, ?_, by simp, ?_⟩
    · intro x hx
      rw [(List.mem_replicate.1 hx).2]; omega
    · rw [val_zeros (fun x hx => (List.mem_replicate.1 hx).2)]; simp [val]
  · refine ⟨?_, .mk ?_ ⟨by simp, trivial⟩⟩
    · (repeat' (first | exact rfl | exact trivial | exact HWk.refl rfl | exact leRL_refl _ | (refine And.intro ?_ ?_)))
    · (repeat' (first | exact rfl | exact trivial | exact HWk.refl rfl | exact leRL_refl _ | (refine And.intro ?_ ?_)))
      all_goals first | (simp; done) | exact leRL_of (by simp)
  rintro ⟨i, out⟩ ⟨hi, hwo, hol, hv⟩ _
  simp only at hi hwo hol hv
  ((try dsimp only [awp]); (conv => whnf))
  refine And.intro (fun h => ?_) (fun h => ?_)
  · have hlt : i < a.length := by simpa using h
    have hva := val_take_getD (l := a) (i := i)
    have hxa := wa.getD (i := i)
    (conv => whnf)
    refine aidxN' 0 rfl hlt ?_
    generalize a.getD i 0 = x0 at *
    obtain ⟨x, rfl⟩ : ∃ x : Nat, x0 = x := ⟨x0.toNat, by omega⟩
    rw [Int.toNat_natCast] at hva
    (conv => whnf)
    refine ⟨inr64 (by simp; omega) (by simp; omega), ?_⟩
    rw [show (((b.map (AV.int .u32)).length : Nat) : Int) + 1 = ((b.length + 1 : Nat) : Int) by simp]
    (conv => whnf)
    refine LoopE.of <| LoopSpec.inv (.refl _ _) (fun z : Nat × Nat × List Int => z.1 ≤ b.length + 1 ∧ z.2.1 < 4294967296 ∧ Ws z.2.2 ∧ z.2.2.length = m ∧ val z.2.2 + 4294967296 ^ (i + z.1) * z.2.1 = val out + 4294967296 ^ i * x * val (b.take z.1))
      (fun | (j, c, _) => [(28, .int .i64 j), (8, .int .u64 c)]) (fun | (_, _, o) => [(0, .arr 1 m (o.map (.int .u32)))])
      (fun z => b.length + 1 - z.1) (0, 0, out) ?_ (fun _ => rfl) ?_ ?_
    · exact ⟨Nat.zero_le _, (by omega : 0 < 4294967296), hwo, hol, by simp [val]⟩
    · refine ⟨?_, .mk ?_ ⟨by simp, trivial⟩⟩
      · (repeat' (first | exact rfl | exact trivial | exact HWk.refl rfl | exact leRL_refl _ | (refine And.intro ?_ ?_)))
      · (repeat' (first | exact rfl | exact trivial | exact HWk.refl rfl | exact leRL_refl _ | (refine And.intro ?_ ?_)))
    rintro ⟨j, c, o⟩ ⟨hj, hc, hwo2, hol2, hv2⟩ _
    simp only at hj hc hwo2 hol2 hv2
    ((try dsimp only [awp]); (conv => whnf))
    refine And.intro (fun h => ?_) (fun h => ?_)
    · have hjlt : j < b.length + 1 := by omega
      have cw := c_rWord b j
      have hvb := val_take_getD (l := b) (i := j)
      have hxb := wb.getD (i := j)
      have hoo := hwo2.getD (i := i + j)
      have hij : i + j < o.length := by omega
      generalize b.getD j 0 = y0 at *
      obtain ⟨y, rfl⟩ : ∃ x : Nat, y0 = x := ⟨y0.toNat, by omega⟩
      rw [Int.toNat_natCast] at hvb
      have hxy : x * y ≤ 4294967295 * 4294967295 := Nat.mul_le_mul (by omega) (by omega)
      (conv => whnf)
      (refine ADraw.auto (by kernel_rfl) ?_; (conv => whnf))
      refine ACallP.pure _ _ (leL_refl _) ⟨rfl, rfl⟩ cw ?_
      (conv => whnf)
      rw [wrap_u64 (n := (x : Int)) (by omega) (by omega)]
      rw [show ((x : Int) * (y : Int)) = ((x * y : Nat) : Int) from (Int.natCast_mul x y).symm, wrap_u64 (n := ((x * y : Nat) : Int)) (by omega) (by omega)]
      (refine ⟨inr64 (by omega) (by omega), ?_⟩; (conv => whnf))
      refine ⟨⟨by omega, by omega⟩, ?_⟩
      (conv => whnf)
      refine aidxN' 0 (i := i + j) (by omega) hij ?_
      refine ⟨rfl, ?_⟩
      obtain ⟨ow, how⟩ : ∃ w : Nat, o.getD (i + j) 0 = w := ⟨(o.getD (i + j) 0).toNat, by omega⟩
      rw [how] at hoo ⊢
      (conv => whnf)
      rw [wrap_u64 (n := (ow : Int)) (by omega) (by omega)]
      rw [show (((x * y : Nat) : Int) + (ow : Int)) = ((x * y + ow : Nat) : Int) from (Int.natCast_add (x * y) ow).symm, wrap_u64 (n := ((x * y + ow : Nat) : Int)) (by omega) (by omega)]
      rw [show (((x * y + ow : Nat) : Int) + (c : Int)) = ((x * y + ow + c : Nat) : Int) from (Int.natCast_add (x * y + ow) c).symm, wrap_u64 (n := ((x * y + ow + c : Nat) : Int)) (by omega) (by omega)]
      obtain ⟨C, hC⟩ : ∃ C, x * y + ow + c = C := ⟨_, rfl⟩
      rw [hC]
      (conv => whnf)
      (refine ⟨inr64 (by omega) (by omega), ?_⟩; (conv => whnf))
      rw [wrapu32_mod (a := C)]
      refine ⟨⟨by omega, by omega⟩, ?_⟩
      dsimp only [putE]
      rw [aops]
      dsimp only [guardC]
      dsimp only [aop]
      (conv => whnf)
      refine ⟨by rw [List.length_map]; omega, rfl, ?_⟩
      (conv => whnf)
      refine ⟨by decide, ?_⟩
      rw [shr_word rfl]
      (conv => whnf)
      (refine ⟨inr64 (by omega) (by omega), ?_⟩; (conv => whnf))
      have hCl : C / 4294967296 < 4294967296 := by omega
      have hset := val_set (x := ((C % 4294967296 : Nat) : Int)) hij
      rw [← getD_lt' (x := 0) hij, how, Int.toNat_natCast, Int.toNat_natCast] at hset
      refine ⟨(j + 1, C / 4294967296, o.set (i + j) ((C % 4294967296 : Nat) : Int)), ?_, ?_, ?_⟩
      · refine ⟨hjlt, hCl, hwo2.set (by omega), by simpa using hol2, ?_⟩
        show val (o.set (i + j) ((C % 4294967296 : Nat) : Int)) + 4294967296 ^ (i + (j + 1)) * (C / 4294967296) = val out + 4294967296 ^ i * x * val (b.take (j + 1))
        rw [← Nat.add_assoc, Nat.pow_succ, hvb, Nat.mul_add, ← mul_shift (x := x), ← Nat.pow_add, ← Nat.add_assoc]
        have := mul_step (p := 4294967296 ^ (i + j)) (x := x) (y := y) (o := ow) (c := c) (v0 := val o) (vn := val (o.set (i + j) ((C % 4294967296 : Nat) : Int))) (w := val out + 4294967296 ^ i * x * val (b.take j)) (vb := 0) hC.symm hset (by rw [Nat.mul_zero, Nat.add_zero]; exact hv2)
        rw [Nat.mul_zero, Nat.add_zero] at this
        exact this
      · refine ⟨?_, .mk ?_ ⟨by simp, trivial⟩⟩
        · (repeat' (first | exact rfl | exact trivial | exact HWk.refl rfl | exact leRL_refl _ | (refine And.intro ?_ ?_)))
        · (repeat' (first | exact rfl | exact trivial | exact HWk.refl rfl | exact leRL_refl _ | (refine And.intro ?_ ?_)))
          refine leRL_of ?_
          rw [List.map_set, show (0 + ((i : Int) + (j : Int)).toNat) = i + j by omega]
          simp [strip]
      · show b.length + 1 - (j + 1) < b.length + 1 - j
        omega
    · have hjl : j = b.length + 1 := by omega
      subst hjl
      rw [List.take_of_length_le (by omega : b.length ≤ b.length + 1), hv] at hv2
      have h2 : val (a.take i) * val b + 4294967296 ^ i * x * val b = val (a.take (i + 1)) * val b := by rw [hva, Nat.add_mul]
      have h3 := take_lt wa (i + 1)
      have h4 := val_lt wb
      have hcz : c = 0 := by
        refine carry_zero (P := 4294967296 ^ (i + 1)) (Q := 4294967296 ^ b.length) (A := val (a.take (i + 1))) (b := val b) (o := val o) ?_ h3 h4
        rw [← h2, ← hv2, ← Nat.pow_add, show i + 1 + b.length = i + (b.length + 1) by omega]
      rw [hcz, Nat.mul_zero, Nat.add_zero, h2] at hv2
      (conv => whnf)
      (refine ⟨inr64 (by omega) (by omega), ?_⟩; (conv => whnf))
      refine ⟨(i + 1, o), ?_, ?_, ?_⟩
      · refine ⟨hlt, hwo2, hol2, ?_⟩
        exact hv2
      · refine ⟨?_, .mk ?_ ⟨by simp, trivial⟩⟩
        · (repeat' (first | exact rfl | exact trivial | exact HWk.refl rfl | exact leRL_refl _ | (refine And.intro ?_ ?_)))
        · (repeat' (first | exact rfl | exact trivial | exact HWk.refl rfl | exact leRL_refl _ | (refine And.intro ?_ ?_)))
      · show a.length - (i + 1) < a.length - i
        omega
  · have hil : i = a.length := by have : ¬ i < a.length := by simpa using h
                                  omega
    subst hil
    rw [List.take_length] at hv
    have ct := c_rTrim out (by omega)
    rw [hv] at ct
    (conv => whnf)
    refine .gen _ _ (FnH.frz 0 rfl rfl (by simp; omega) (FnH.ofPure ct ?_ ⟨rfl, rfl⟩)) fun _ => ?_
    · (repeat' (first | exact rfl | exact trivial | exact HWk.refl rfl | exact leRL_refl _ | (refine And.intro ?_ ?_)))
      refine leRL_of ?_
      simp
      rw [List.take_of_length_le (by simp; omega)]
    (conv => whnf)
    (refine FinSpec.mono ?_; (conv => whnf); refine ⟨?_, rfl⟩; (conv => whnf))
    (repeat' (first | exact rfl | exact trivial | exact HWk.refl rfl | exact leRL_refl _ | (refine And.intro ?_ ?_)))
end S

open Go Go.AL Go.Proofs
namespace S
set_option maxRecDepth 100000

theorem bit_u32 {x k : Nat} (hx : x < 4294967296) (hk : k < 32) : bitsR .and .u32 (shrR .u32 (x : Int) (k : Int)) 1 = if x.testBit k then 1 else 0 := by
  rw [shr_u32 hk]
  have hd : x / 2 ^ k ≤ x := Nat.div_le_self _ _
  have e : ∀ z : Nat, BitVec.ofInt 32 (z : Int) = BitVec.ofNat 32 z := by
    intro z; apply BitVec.eq_of_toNat_eq; simp
  simp only [bitsR]
  have h1 : (BitVec.ofInt 32 ((x / 2 ^ k : Nat) : Int) &&& BitVec.ofInt 32 (1 : Int)).toNat = (x / 2 ^ k) &&& 1 := by
    rw [show (1 : Int) = ((1 : Nat) : Int) from rfl, e, e, BitVec.toNat_and, BitVec.toNat_ofNat, BitVec.toNat_ofNat, Nat.mod_eq_of_lt (by omega)]
  show IntKind.wrap .u32 ((BitVec.ofInt 32 ((x / 2 ^ k : Nat) : Int) &&& BitVec.ofInt 32 (1 : Int)).toNat : Int) = _
  rw [h1, Nat.and_one_is_mod, Nat.testBit_eq_decide_div_mod_eq]
  have : x / 2 ^ k % 2 < 2 := Nat.mod_lt _ (by omega)
  rw [wrap_u32 (by omega) (by omega)]
  by_cases h : x / 2 ^ k % 2 = 1
  · simp [h]
  · have : x / 2 ^ k % 2 = 0 := by omega
    simp [this]

theorem mod_bit {x k : Nat} : x % 2 ^ (k + 1) = x % 2 ^ k + 2 ^ k * (if x.testBit k then 1 else 0) := by
  rw [Nat.testBit_eq_decide_div_mod_eq, Nat.mod_pow_succ]
  have : x / 2 ^ k % 2 < 2 := Nat.mod_lt _ (by omega)
  by_cases h : x / 2 ^ k % 2 = 1
  · simp [h]
  · have : x / 2 ^ k % 2 = 0 := by omega
    simp [this]

theorem pow32 (i k : Nat) : 4294967296 ^ i * 2 ^ k = 2 ^ (32 * i + k) := by
  rw [Nat.pow_add, Nat.pow_mul]

theorem blen_add {v x i k : Nat} (hv : v < 4294967296 ^ i) (hb : x.testBit k = true) : blen (v + 4294967296 ^ i * (x % 2 ^ (k + 1))) = 32 * i + k + 1 := by
  have e := pow32 i k
  have e2 := pow32 i (k + 1)
  have hm : x % 2 ^ (k + 1) < 2 ^ (k + 1) := Nat.mod_lt _ (Nat.two_pow_pos _)
  have hge : 2 ^ k ≤ x % 2 ^ (k + 1) := by rw [mod_bit, hb]; simp
  refine blen_pow ?_ ?_
  · rw [← e]
    have : 4294967296 ^ i * 2 ^ k ≤ 4294967296 ^ i * (x % 2 ^ (k + 1)) := Nat.mul_le_mul_left _ hge
    omega
  · rw [show 32 * i + k + 1 = 32 * i + (k + 1) by omega, ← e2]
    have h1 : 4294967296 ^ i * (x % 2 ^ (k + 1) + 1) ≤ 4294967296 ^ i * 2 ^ (k + 1) := Nat.mul_le_mul_left _ hm
    rw [Nat.mul_add] at h1
    omega

theorem c_rBits (a : List Int) (ha : a.length ≤ 1000000) : FnH Tryz.prog 186 [wL a] [] (.int .i64 (blen (val a))) [] := by
  refine FnH.intro lay mixed Tryz.func186 (by kernel_rfl) rfl (by kernel_rfl) rfl fun hok => ?_
  have wa : Ws a := Ws.ok hok.1.2
  (conv => whnf)
  refine LoopE.of <| LoopSpec.inv (.refl _ _) (fun (i : Nat) => i ≤ a.length) (fun (i : Nat) => [(9, .int .i64 i), (3, .int .i64 (blen (val (a.take i))))]) (fun _ => _) (fun (i : Nat) => a.length - i) 0 ?_ (fun _ => rfl) ?_ ?_
  · exact Nat.zero_le _
  · (repeat' (first | exact rfl | exact trivial | exact HWk.refl rfl | exact leRL_refl _ | (refine And.intro ?_ ?_)))
  intro i hi _
  ((try dsimp only [awp]); (conv => whnf))
  refine And.intro (fun h => ?_) (fun h => ?_)
  · have hlt : i < a.length := by simpa using h
    have hva := val_take_getD (l := a) (i := i)
    have hxa := wa.getD (i := i)
    have htl := take_lt wa i
    (conv => whnf)
    refine aidxN' 0 rfl hlt ?_
    generalize a.getD i 0 = x0 at *
    obtain ⟨x, rfl⟩ : ∃ x : Nat, x0 = x := ⟨x0.toNat, by omega⟩
    rw [Int.toNat_natCast] at hva
    generalize val (a.take i) = v at *
    (conv => whnf)
    refine LoopE.of <| LoopSpec.inv (.refl _ _) (fun (k : Nat) => k ≤ 32) (fun (k : Nat) => [(14, .int .i64 k), (3, .int .i64 (blen (v + 4294967296 ^ i * (x % 2 ^ k))))]) (fun _ => _) (fun (k : Nat) => 32 - k) 0 ?_ (fun _ => rfl) ?_ ?_
    · exact Nat.zero_le _
    · (repeat' (first | exact rfl | exact trivial | exact HWk.refl rfl | exact leRL_refl _ | (refine And.intro ?_ ?_)))
      rw [show x % 2 ^ 0 = 0 from Nat.mod_one x, Nat.mul_zero, Nat.add_zero]
    intro k hk _
    ((try dsimp only [awp]); (conv => whnf))
    refine And.intro (fun h => ?_) (fun h => ?_)
    · have hk2 : k < 32 := by omega
      (conv => whnf)
      refine ⟨by omega, ?_⟩
      (conv => whnf)
      rw [bit_u32 (by omega) hk2]
      cases hb : x.testBit k with
      | true =>
        have hbl := blen_add (x := x) htl hb
        (conv => whnf)
        refine And.intro (fun _ => ?_) (fun h => absurd rfl h)
        (conv => whnf)
        refine ⟨inr64 (by omega) (by omega), ?_⟩
        (conv => whnf)
        (refine ⟨inr64 (by omega) (by omega), ?_⟩; (conv => whnf))
        (refine ⟨inr64 (by omega) (by omega), ?_⟩; (conv => whnf))
        (refine ⟨inr64 (by omega) (by omega), ?_⟩; (conv => whnf))
        refine ⟨k + 1, ?_, ?_, ?_⟩
        · exact hk2
        · rw [hbl]
          (repeat' (first | exact rfl | exact trivial | exact HWk.refl rfl | exact leRL_refl _ | (refine And.intro ?_ ?_)))
        · omega
      | false =>
        have hbl : x % 2 ^ (k + 1) = x % 2 ^ k := by rw [mod_bit, hb]; simp
        (conv => whnf)
        refine And.intro (fun h => absurd h (by decide)) (fun _ => ?_)
        (conv => whnf)
        (refine ⟨inr64 (by omega) (by omega), ?_⟩; (conv => whnf))
        refine ⟨k + 1, ?_, ?_, ?_⟩
        · exact hk2
        · rw [hbl]
          (repeat' (first | exact rfl | exact trivial | exact HWk.refl rfl | exact leRL_refl _ | (refine And.intro ?_ ?_)))
        · omega
    · have hk3 : k = 32 := by omega
      subst hk3
      have hx32 : x % 2 ^ 32 = x := Nat.mod_eq_of_lt (by omega)
      rw [hx32, ← hva]
      (conv => whnf)
      (refine ⟨inr64 (by omega) (by omega), ?_⟩; (conv => whnf))
      refine ⟨i + 1, ?_, ?_, ?_⟩
      · exact hlt
      · (repeat' (first | exact rfl | exact trivial | exact HWk.refl rfl | exact leRL_refl _ | (refine And.intro ?_ ?_)))
      · omega
  · have hil : i = a.length := by have : ¬ i < a.length := by simpa using h
                                  omega
    subst hil
    rw [List.take_length]
    (conv => whnf)
    (refine FinSpec.mono ?_; (conv => whnf); refine ⟨?_, rfl⟩; (conv => whnf))
    (repeat' (first | exact rfl | exact trivial | exact HWk.refl rfl | exact leRL_refl _ | (refine And.intro ?_ ?_)))
end S

open Go Go.AL Go.Proofs
namespace S
set_option maxRecDepth 100000

theorem shl_u32 {a n : Nat} (hn : n < 32) (h : a * 2 ^ n < 4294967296) : shlR .u32 (a : Int) (n : Int) = ((a * 2 ^ n : Nat) : Int) := by
  unfold shlR
  have h1 : min (n : Int).toNat (IntKind.bits .u32) = n := by show min n 32 = n; omega
  rw [h1]
  have h2 : (a : Int) * 2 ^ n = ((a * 2 ^ n : Nat) : Int) := by simp
  rw [h2]
  exact wrap_u32 (by omega) (by omega)

theorem and_31 {a : Nat} (h : a < 4294967296) : bitsR .and .u32 (a : Int) 2147483648 = 0 ↔ a < 2147483648 := by
  have e : ∀ z : Nat, BitVec.ofInt 32 (z : Int) = BitVec.ofNat 32 z := by
    intro z; apply BitVec.eq_of_toNat_eq; simp
  simp only [bitsR]
  have h1 : (BitVec.ofInt 32 (a : Int) &&& BitVec.ofInt 32 (2147483648 : Int)).toNat = a &&& 2 ^ 31 := by
    rw [show (2147483648 : Int) = ((2 ^ 31 : Nat) : Int) from rfl, e, e, BitVec.toNat_and, BitVec.toNat_ofNat, BitVec.toNat_ofNat, Nat.mod_eq_of_lt (by omega), Nat.mod_eq_of_lt (by omega)]
  show IntKind.wrap .u32 ((BitVec.ofInt 32 (a : Int) &&& BitVec.ofInt 32 (2147483648 : Int)).toNat : Int) = 0 ↔ _
  have hle : a &&& 2 ^ 31 ≤ a := Nat.and_le_left
  rw [h1, wrap_u32 (by omega) (by omega)]
  have key : a &&& 2 ^ 31 = 0 ↔ a < 2147483648 := by
    constructor
    · intro h0
      apply Classical.byContradiction
      intro hn
      have hbit : a.testBit 31 = true := by rw [Nat.testBit_eq_decide_div_mod_eq]; simp; omega
      have : (a &&& 2 ^ 31).testBit 31 = true := by rw [Nat.testBit_and, hbit, Nat.testBit_two_pow_self]; rfl
      rw [h0] at this
      simp at this
    · intro h0
      apply Nat.eq_of_testBit_eq
      intro i
      rw [Nat.testBit_and, Nat.testBit_two_pow]
      by_cases hi : 31 = i
      · subst hi
        rw [Nat.testBit_lt_two_pow (by omega)]; simp
      · simp [hi]
  omega

/-- The words of a number that has so many. -/
theorem wd_len_eq {x n : Nat} (h1 : 4294967296 ^ (n - 1) ≤ x) (h2 : x < 4294967296 ^ n) (hn : 1 ≤ n) : (wd x).length = n := by
  have hw := wd_Ws x
  have hv := val_wd x
  have hl := val_lt hw
  rw [hv] at hl
  have a1 : ¬ (wd x).length ≤ n - 1 := by
    intro h
    have : 4294967296 ^ (wd x).length ≤ 4294967296 ^ (n - 1) := Nat.pow_le_pow_right (by omega) h
    omega
  have a2 : (wd x).length ≤ n := by
    have := wd_len_le (wdN_Ws n x)
    rw [val_wdN h2, wdN_len] at this
    exact this
  omega

/-- What goes with a digit of the reference's division. -/
structure RInv (V L : Nat) (al : List Int) (j r : Nat) (Q : List Int) : Prop where
  jle : j ≤ L
  wq : Ws Q
  lq : Q.length = L
  lt : r < V
  eq : val (al.drop j) = r + V * val (Q.drop j)
  z : ∀ k, k < j → Q.getD k 0 = 0

theorem val_cons (x : Int) (l : List Int) : val (x :: l) = x.toNat + 4294967296 * val l := rfl

theorem RInv.step {V L j r : Nat} {al Q : List Int} (h : RInv V L al (j + 1) r Q) (hV0 : 0 < V) (hx : (al.getD j 0).toNat < 4294967296) :
    (al.getD j 0).toNat + 4294967296 * r < 4294967296 * V ∧
    RInv V L al j (((al.getD j 0).toNat + 4294967296 * r) % V) (Q.set j ((((al.getD j 0).toNat + 4294967296 * r) / V : Nat) : Int)) := by
  have hlt := h.lt
  have h1 : (al.getD j 0).toNat + 4294967296 * r < 4294967296 * V := by omega
  refine ⟨h1, ?_⟩
  have hj : j < L := h.jle
  have hq : ((al.getD j 0).toNat + 4294967296 * r) / V < 4294967296 := by rw [Nat.div_lt_iff_lt_mul hV0]; exact h1
  have hjq : j < Q.length := by rw [h.lq]; exact hj
  have hvd := val_hd al j
  have he := h.eq
  generalize (al.getD j 0).toNat = x at *
  generalize hs : x + 4294967296 * r = s at *
  have hdm := Nat.div_add_mod s V
  generalize hqq : s / V = q at *
  generalize s % V = m at *
  refine ⟨?_, h.wq.set (by omega), by simpa using h.lq, ?_, ?_, ?_⟩
  · omega
  · have hm : s - V * q < V := by
      rw [← hqq]
      have := Nat.mod_lt s hV0
      have := Nat.div_add_mod s V
      omega
    omega
  · have e1 : (Q.set j (q : Int)).drop j = (q : Int) :: Q.drop (j + 1) := by
      rw [List.drop_eq_getElem_cons (by simpa using hjq), List.getElem_set_self, List.drop_set_of_lt (by omega)]
    rw [e1, val_cons, Int.toNat_natCast, hvd, he, Nat.mul_add, Nat.mul_add, Nat.mul_left_comm 4294967296 V]
    omega
  · intro k hk
    have := h.z k (by omega)
    rw [List.getD_eq_getElem?_getD] at this ⊢
    rw [List.getElem?_set_ne (by omega)]
    exact this

/-- The reference's estimate is at least the digit. -/
theorem rguess {V p s top : Nat} (hp : 0 < p) (ht : 0 < top) (hV : top * p ≤ V) (hq : s / V < 4294967296) : s / V ≤ min (s / p / top) 4294967295 := by
  have h1 : s / V ≤ s / p / top := by
    refine guess_ge (p := p) ht hV ?_
    have := Nat.lt_div_mul_add (a := s) hp
    rw [Nat.add_mul, Nat.one_mul]; exact this
  omega
end S

open Go Go.AL Go.Proofs
namespace S
set_option maxRecDepth 100000

theorem wd_len_lt {x n : Nat} (h2 : x < 4294967296 ^ n) : (wd x).length ≤ n := by
  have := wd_len_le (wdN_Ws n x)
  rw [val_wdN h2, wdN_len] at this
  exact this

theorem wd_getD (x i : Nat) : (wd x).getD i 0 = ((x / 4294967296 ^ i % 4294967296 : Nat) : Int) := by
  have h1 := val_drop (wd_Ws x) i
  have h2 := val_hd (wd x) i
  have h3 := (wd_Ws x).getD (i := i)
  rw [val_wd] at h1
  rw [h1, h2]
  omega

theorem head_eq {S n : Nat} (hn : 1 ≤ n) (h : S < 4294967296 ^ (n + 1)) : (S / 4294967296 ^ n % 4294967296) * 4294967296 + S / 4294967296 ^ (n - 1) % 4294967296 = S / 4294967296 ^ (n - 1) := by
  obtain ⟨m, rfl⟩ : ∃ m, n = m + 1 := ⟨n - 1, by omega⟩
  rw [show m + 1 - 1 = m by omega]
  have e : S / 4294967296 ^ (m + 1) = S / 4294967296 ^ m / 4294967296 := by rw [Nat.div_div_eq_div_mul, Nat.pow_succ]
  have hl : S / 4294967296 ^ m < 4294967296 * 4294967296 := by
    rw [Nat.div_lt_iff_lt_mul (Nat.pow_pos (by omega))]
    rw [Nat.pow_succ, Nat.pow_succ, Nat.mul_assoc, Nat.mul_comm] at h
    exact h
  rw [e]
  generalize S / 4294967296 ^ m = z at *
  omega

theorem rdiv_mod {V S q : Nat} (hq : S / V = q) : S - V * q = S % V := by
  subst hq
  have := Nat.div_add_mod S V
  omega

theorem rdiv_le {V S q g : Nat} (hV : 0 < V) (hq : S / V = q) (h1 : q ≤ g) (h2 : ¬ S < V * g) : g = q := by
  subst hq
  have : g ≤ S / V := by
    rw [Nat.le_div_iff_mul_le hV, Nat.mul_comm]; omega
  omega

theorem rdiv_gt {V S q g : Nat} (hq : S / V = q) (h2 : S < V * g) : q < g := by
  subst hq
  apply Classical.byContradiction
  intro hn
  have h3 : V * g ≤ V * (S / V) := Nat.mul_le_mul_left _ (by omega)
  have h4 := Nat.mul_div_le S V
  omega

set_option maxHeartbeats 2000000 in
theorem c_rDiv (a b : List Int) (ha : a.length ≤ 300000) (hb : b.length ≤ 300000) (h0 : val b ≠ 0) : FnH Tryz.prog 189 [wL a, wL b] [] (.tup [wL (wd (val a / val b)), wL (wd (val a % val b)), .int .i64 0]) [] := by
  refine FnH.intro lay mixed Tryz.func189 (by kernel_rfl) rfl (by kernel_rfl) rfl fun hok => ?_
  have wa : Ws a := Ws.ok hok.1.2
  have wb0 : Ws b := Ws.ok hok.2.1.2
  ((try dsimp only [argC, succC]); (try dsimp only [awp]); (conv => whnf))
  refine .pure _ _ ?_ ⟨rfl, rfl⟩ (c_rTrim b (by omega)) fun _ => ?_
  · exact leL_refl _
  have hbl := wd_len_le wb0
  have hwy := wd_Ws (val b)
  have hvy := val_wd (val b)
  have hpy := wd_Pl (val b)
  have hn1 : 1 ≤ (wd (val b)).length := by rw [wd_pos h0]; simp
  generalize hyv : val b = y at *
  generalize wd y = bl at *
  obtain ⟨n, hn⟩ : ∃ n, bl.length = n := ⟨_, rfl⟩
  rw [hn] at hn1
  have htb := hwy.getD (i := n - 1)
  have htn : bl.getD (n - 1) 0 ≠ 0 := by
    rcases hpy with h | h
    · rw [h] at hn; simp at hn; omega
    · rw [List.getLastD_eq_getLast?, List.getLast?_eq_getElem?, hn] at h
      rw [List.getD_eq_getElem?_getD]; exact h
  have e1 := val_take_drop (l := bl) (n - 1) (by omega)
  rw [val_hd bl (n - 1), List.drop_eq_nil_of_le (by omega : bl.length ≤ n - 1 + 1), hvy] at e1
  have e2 := take_lt hwy (n - 1)
  have hge := val_pos_of_len hpy (by intro e; rw [e] at hn; simp at hn; omega) hwy
  rw [hn, hvy] at hge
  generalize htt : bl.getD (n - 1) 0 = tb0 at *
  obtain ⟨tb, rfl⟩ : ∃ tb : Nat, tb0 = tb := ⟨tb0.toNat, by omega⟩
  have eln : (((bl.map (AV.int .u32)).length : Nat) : Int) = (n : Int) := by simp [hn]
  (conv => whnf)
  rw [eln]
  refine And.intro (fun h => by exfalso; omega) (fun _ => ?_)
  (conv => whnf)
  refine LoopE.of <| LoopSpec.inv (.refl _ _) (fun (s : Nat) => s < 32 ∧ tb * 2 ^ s < 4294967296) (fun (s : Nat) => [(8, .int .i64 s)]) (fun _ => _) (fun (s : Nat) => 32 - s) 0 ?_ (fun _ => rfl) ?_ ?_
  · exact ⟨(by omega : 0 < 32), by omega⟩
  · (repeat' (first | exact rfl | exact trivial | exact HWk.refl rfl | exact leRL_refl _ | (refine And.intro ?_ ?_)))
  rintro s ⟨hs, hts⟩ _
  ((try dsimp only [awp]); (conv => whnf))
  (refine ⟨inr64 (by omega) (by omega), ?_⟩; (conv => whnf))
  refine aidxN' 0 (i := n - 1) (by omega) (by omega) ?_
  rw [htt]
  (conv => whnf)
  refine ⟨by omega, ?_⟩
  rw [shl_u32 hs hts]
  (conv => whnf)
  refine And.intro (fun h => ?_) (fun h => ?_)
  · have h := (and_31 hts).1 h
    have hs31 : s < 31 := by
      have h1 : 1 * 2 ^ s ≤ tb * 2 ^ s := Nat.mul_le_mul_right _ (by omega)
      have h2 : 2 ^ s < 2 ^ 31 := by omega
      exact (Nat.pow_lt_pow_iff_right (a := 2) (by omega)).1 h2
    (conv => whnf)
    (refine ⟨inr64 (by omega) (by omega), ?_⟩; (conv => whnf))
    refine ⟨s + 1, ?_, ?_, ?_⟩
    · exact ⟨(by omega : s + 1 < 32), (by rw [Nat.pow_succ, ← Nat.mul_assoc]; omega : tb * 2 ^ (s + 1) < 4294967296)⟩
    · (repeat' (first | exact rfl | exact trivial | exact HWk.refl rfl | exact leRL_refl _ | (refine And.intro ?_ ?_)))
    · omega
  have hp2 := Nat.two_pow_pos s
  have hV1 : 4294967296 ^ (n - 1) ≤ y * 2 ^ s := Nat.le_trans hge (Nat.le_mul_of_pos_right _ hp2)
  have hV2 : y * 2 ^ s < 4294967296 ^ n := by
    have e3 : y < 4294967296 ^ (n - 1) * (tb + 1) := by
      rw [Nat.mul_add]
      simp only [Int.toNat_natCast, val, Nat.mul_zero, Nat.add_zero] at e1
      omega
    have hdvd : (tb + 1) * 2 ^ s ≤ 4294967296 := by
      have e32 : (4294967296 : Nat) = 2 ^ (32 - s) * 2 ^ s := by rw [← Nat.pow_add, show 32 - s + s = 32 by omega]
      rw [e32] at hts ⊢
      have := Nat.lt_of_mul_lt_mul_right hts
      exact Nat.mul_le_mul_right _ this
    have e5 : y * 2 ^ s < 4294967296 ^ (n - 1) * (tb + 1) * 2 ^ s := Nat.mul_lt_mul_of_pos_right e3 hp2
    have e6 : 4294967296 ^ (n - 1) * ((tb + 1) * 2 ^ s) ≤ 4294967296 ^ (n - 1) * 4294967296 := Nat.mul_le_mul_left _ hdvd
    rw [← Nat.pow_succ, show (n - 1).succ = n by omega, ← Nat.mul_assoc] at e6
    omega
  have hVl := wd_len_eq hV1 hV2 hn1
  have hxa := val_lt wa
  have hres : val a * 2 ^ s / (y * 2 ^ s) = val a / y ∧ val a * 2 ^ s % (y * 2 ^ s) / 2 ^ s = val a % y := by
    refine ⟨Nat.mul_div_mul_right _ _ hp2, ?_⟩
    rw [Nat.mul_mod_mul_right, Nat.mul_div_cancel _ hp2]
  have hAl : (wd (val a * 2 ^ s)).length ≤ a.length + 1 := by
    refine wd_len_lt ?_
    have k1 : 2 ^ s ≤ 4294967296 := Nat.le_trans (Nat.pow_le_pow_right (by omega) (show s ≤ 32 by omega)) (by decide)
    have k2 : val a * 2 ^ s < 4294967296 ^ a.length * 2 ^ s := Nat.mul_lt_mul_of_pos_right hxa hp2
    have k3 : 4294967296 ^ a.length * 2 ^ s ≤ 4294967296 ^ a.length * 4294967296 := Nat.mul_le_mul_left _ k1
    rw [Nat.pow_succ]
    omega
  have cua := c_rUp a s hs (by omega)
  have cub := c_rUp bl s hs (by omega)
  rw [hvy] at cub
  have hwA := wd_Ws (val a * 2 ^ s)
  have hvA := val_wd (val a * 2 ^ s)
  have hwV := wd_Ws (y * 2 ^ s)
  have hvV := val_wd (y * 2 ^ s)
  have hgV := wd_getD (y * 2 ^ s) (n - 1)
  generalize val a * 2 ^ s = A at *
  generalize y * 2 ^ s = V at *
  have htop : V / 4294967296 ^ (n - 1) < 4294967296 := by
    rw [Nat.div_lt_iff_lt_mul (Nat.pow_pos (by omega)), Nat.mul_comm, ← Nat.pow_succ, show (n - 1).succ = n by omega]; exact hV2
  have htop1 : 1 ≤ V / 4294967296 ^ (n - 1) := by
    rw [Nat.le_div_iff_mul_le (Nat.pow_pos (by omega)), Nat.one_mul]; exact hV1
  have htopV : V / 4294967296 ^ (n - 1) * 4294967296 ^ (n - 1) ≤ V := Nat.div_mul_le_self _ _
  rw [Nat.mod_eq_of_lt htop] at hgV
  generalize V / 4294967296 ^ (n - 1) = top at *
  have hVp : 0 < V := by have := Nat.pow_pos (n := n - 1) (show 0 < 4294967296 by omega); omega
  (conv => whnf)
  refine .pure _ _ ?_ ⟨rfl, rfl⟩ cua fun _ => ?_
  · exact leL_refl _
  (conv => whnf)
  refine .pure _ _ ?_ ⟨rfl, rfl⟩ cub fun _ => ?_
  · exact leL_refl _
  generalize wd A = al at *
  have cmul := fun g : Nat => fun (hg : g < 4294967296) => c_rMul (wd V) [(g : Int)] (by omega) (by simp)
  generalize wd V = vl at *
  obtain ⟨L, hL⟩ : ∃ L, al.length = L := ⟨_, rfl⟩
  have ell : (((al.map (AV.int .u32)).length : Nat) : Int) = (L : Int) := by simp [hL]
  (conv => whnf)
  refine ADraw.mk ⟨[true, true, false, true, true, true, true, true, true, true, true, true, true, true, true], by kernel_rfl, ?_⟩
  (conv => whnf)
  rw [ell]
  refine ⟨⟨by omega, by omega, by simp; omega, by omega⟩, .wr ?_⟩
  (conv => whnf)
  rw [ell]
  (refine ⟨inr64 (by omega) (by omega), ?_⟩; (conv => whnf))
  (refine ⟨inr64 (by omega) (by omega), ?_⟩; (conv => whnf))
  rw [show max (0 : Int) ((L : Int) - (n : Int) + 1) = ((L + 1 - n : Nat) : Int) by omega]
  refine ⟨⟨by omega, by omega, by simp⟩, ?_⟩
  have hcut : ((al.map (AV.int .u32)).drop ((L + 1 - n : Nat) : Int).toNat).take ((((al.map (AV.int .u32)).length : Nat) : Int).toNat - ((L + 1 - n : Nat) : Int).toNat) = (al.drop (L + 1 - n)).map (AV.int .u32) := by
    rw [List.take_of_length_le (by simp), Int.toNat_natCast, List.map_drop]
  rw [hcut]
  (conv => whnf)
  refine .pure (by simp [maxL]; omega) (by simp; omega) ⟨rfl, ?_⟩
  (conv => whnf)
  (refine ⟨inr64 (by omega) (by omega), ?_⟩; (conv => whnf))
  have hinit : ∃ j : Nat, (((L : Int) - (n : Int) = (j : Int) - 1) ∨ ((L : Int) - (n : Int) < 0 ∧ j = 0)) ∧ RInv V L al j (val (al.drop (L + 1 - n))) (List.replicate L 0) := by
    have hrz : val (List.replicate L (0 : Int)) = 0 := val_zeros fun x hx => (List.mem_replicate.1 hx).2
    have hzw : Ws (List.replicate L (0 : Int)) := by
      intro x hx
      rw [(List.mem_replicate.1 hx).2]; omega
    have hz : ∀ k, (List.replicate L (0 : Int)).getD k 0 = 0 := by
      intro k
      rw [List.getD_eq_getElem?_getD, List.getElem?_replicate]
      split <;> rfl
    have hdz : ∀ k, val ((List.replicate L (0 : Int)).drop k) = 0 := fun k => val_zeros fun x hx => (List.mem_replicate.1 (List.mem_of_mem_drop hx)).2
    have hlt : val (al.drop (L + 1 - n)) < V := by
      have h1 := val_lt (hwA.drop (L + 1 - n))
      have h2 : 4294967296 ^ (al.drop (L + 1 - n)).length ≤ 4294967296 ^ (n - 1) := Nat.pow_le_pow_right (by omega) (by rw [List.length_drop]; omega)
      omega
    by_cases hLn : n ≤ L
    · refine ⟨L + 1 - n, .inl (by omega), by omega, hzw, by simp, hlt, ?_, fun k _ => hz k⟩
      rw [hdz, Nat.mul_zero]; rfl
    · refine ⟨0, ?_, by omega, hzw, by simp, hlt, ?_, fun k _ => hz k⟩
      · by_cases h : (L : Int) - (n : Int) = ((0 : Nat) : Int) - 1
        · exact .inl h
        · exact .inr ⟨by omega, rfl⟩
      · rw [hdz, Nat.mul_zero, Nat.add_zero, show L + 1 - n = 0 by omega]
  obtain ⟨j0, hj0, hI0⟩ := hinit
  have hrw0 : Ws (al.drop (L + 1 - n)) := hwA.drop _
  have hrl0 : (al.drop (L + 1 - n)).length ≤ 300001 := by rw [List.length_drop]; omega
  (conv => whnf)
  refine LoopE.of <| LoopSpec.inv (.refl _ _) (fun x : Int × Nat × List Int × List Int => ((x.1 = (x.2.1 : Int) - 1) ∨ (x.1 < 0 ∧ x.2.1 = 0)) ∧ -1000000 ≤ x.1 ∧ Ws x.2.2.1 ∧ x.2.2.1.length ≤ 300001 ∧ RInv V L al x.2.1 (val x.2.2.1) x.2.2.2)
    (fun | (e, _, r, _) => [(11, .int .i64 e), (10, wL r)]) (fun | (_, _, _, Q) => [(0, .arr 1 L (Q.map (.int .u32)))])
    (fun x => x.2.1) ((L : Int) - (n : Int), j0, al.drop (L + 1 - n), List.replicate L 0) ?_ (fun _ => rfl) ?_ ?_
  · exact ⟨hj0, (by omega : -1000000 ≤ (L : Int) - (n : Int)), hrw0, hrl0, hI0⟩
  · refine ⟨?_, .mk ?_ ⟨by simp, trivial⟩⟩
    · (repeat' (first | exact rfl | exact trivial | exact HWk.refl rfl | exact leRL_refl _ | (refine And.intro ?_ ?_)))
      omega
    · (repeat' (first | exact rfl | exact trivial | exact HWk.refl rfl | exact leRL_refl _ | (refine And.intro ?_ ?_)))
      all_goals first | (simp; done) | exact leRL_of (by simp)
  rintro ⟨e, j, rl, Q⟩ ⟨hej, hem, hwr, hrl, hI⟩ _
  simp only at hej hem hwr hrl hI
  ((try dsimp only [awp]); (conv => whnf))
  refine And.intro (fun h => ?_) (fun h => ?_)
  · obtain ⟨k, rfl⟩ : ∃ k, j = k + 1 := ⟨j - 1, by omega⟩
    have hek : e = (k : Int) := by omega
    subst hek
    have hjle := hI.jle
    have hQL := hI.lq
    have hkL : k < L := by omega
    have hxa := hwA.getD (i := k)
    obtain ⟨hS, hst⟩ := hI.step hVp (by omega)
    (conv => whnf)
    refine aidxN' 0 rfl (by omega) ?_
    generalize al.getD k 0 = x0 at *
    obtain ⟨x, rfl⟩ : ∃ x : Nat, x0 = x := ⟨x0.toNat, by omega⟩
    rw [Int.toNat_natCast] at hS hst
    have ct := c_rTrim ((x : Int) :: rl) (by simp; omega)
    rw [val_cons, Int.toNat_natCast] at ct
    generalize hSS : x + 4294967296 * val rl = S at *
    have hSB : S < 4294967296 ^ (n + 1) := by
      have k1 : 4294967296 * V ≤ 4294967296 * 4294967296 ^ n := Nat.mul_le_mul_left _ (by omega)
      rw [Nat.pow_succ, Nat.mul_comm]
      omega
    (conv => whnf)
    refine .pure (by simp [maxL]; omega) (by simp; omega) ?_
    (conv => whnf)
    refine .gen _ _ (FnH.ofPure ct ?_ ⟨rfl, rfl⟩) fun _ => ?_
    · (repeat' (first | exact rfl | exact trivial | exact HWk.refl rfl | exact leRL_refl _ | (refine And.intro ?_ ?_)))
    have cw1 := c_rWord (wd S) n
    have cw0 := c_rWord (wd S) (n - 1)
    have cwt := c_rWord vl (n - 1)
    rw [wd_getD] at cw1 cw0
    rw [hgV] at cwt
    have hhd := head_eq hn1 hSB
    have hh1 : S / 4294967296 ^ n % 4294967296 < 4294967296 := Nat.mod_lt _ (by omega)
    have hh0 : S / 4294967296 ^ (n - 1) % 4294967296 < 4294967296 := Nat.mod_lt _ (by omega)
    have hge2 := rguess (V := V) (s := S) (p := 4294967296 ^ (n - 1)) (Nat.pow_pos (by omega)) htop1 htopV (by rw [Nat.div_lt_iff_lt_mul hVp]; exact hS)
    generalize S / 4294967296 ^ n % 4294967296 = z1 at *
    generalize S / 4294967296 ^ (n - 1) % 4294967296 = z0 at *
    generalize S / 4294967296 ^ (n - 1) = head at *
    obtain ⟨q, hq⟩ : ∃ q, S / V = q := ⟨_, rfl⟩
    rw [hq] at hge2 hst
    (conv => whnf)
    refine .gen _ _ (FnH.ofPure cw1 (leL_refl _) ⟨rfl, rfl⟩) fun _ => ?_
    (conv => whnf)
    refine ⟨by decide, ?_⟩
    rw [shl_word (by omega)]
    (conv => whnf)
    (refine ⟨inr64 (by omega) (by omega), ?_⟩; (conv => whnf))
    rw [show (n : Int) - 1 = ((n - 1 : Nat) : Int) by omega]
    refine .gen _ _ (FnH.ofPure cw0 (leL_refl _) ⟨rfl, rfl⟩) fun _ => ?_
    (conv => whnf)
    rw [or_word (by omega) (by omega), hhd]
    (conv => whnf)
    (refine ⟨inr64 (by omega) (by omega), ?_⟩; (conv => whnf))
    rw [show (n : Int) - 1 = ((n - 1 : Nat) : Int) by omega]
    refine .gen _ _ (FnH.ofPure cwt (leL_refl _) ⟨rfl, rfl⟩) fun _ => ?_
    (conv => whnf)
    refine ⟨by omega, ?_⟩
    rw [tdiv_nat]
    (conv => whnf)
    have hht : head / top ≤ head := Nat.div_le_self _ _
    rw [wrap_u64 (n := ((head / top : Nat) : Int)) (by omega) (by omega)]
    rw [show min ((head / top : Nat) : Int) 4294967295 = ((min (head / top) 4294967295 : Nat) : Int) by omega]
    have hg1 : min (head / top) 4294967295 < 4294967296 := by omega
    generalize min (head / top) 4294967295 = g0 at *
    rw [wrap_u32 (n := (g0 : Int)) (by omega) (by omega)]
    have cm := cmul g0 hg1
    rw [hvV, show val [(g0 : Int)] = g0 by simp [val]] at cm
    refine .gen _ _ (FnH.ofPure cm ?_ ⟨rfl, rfl⟩) fun _ => ?_
    · (repeat' (first | exact rfl | exact trivial | exact HWk.refl rfl | exact leRL_refl _ | (refine And.intro ?_ ?_)))
    (conv => whnf)
    have hVg : ∀ g, g < 4294967296 → (wd (V * g)).length ≤ n + 1 := by
      intro g hg
      refine wd_len_lt ?_
      rw [Nat.pow_succ]
      exact Nat.mul_lt_mul_of_lt_of_le hV2 (by omega) (by omega)
    have hSl := wd_len_lt hSB
    refine LoopE.of <| LoopSpec.inv (.refl _ _) (fun g : Nat => q ≤ g ∧ g < 4294967296) (fun g => [(12, .int .u64 g), (13, wL (wd (V * g)))]) (fun _ => [(0, .arr 1 L (Q.map (.int .u32)))])
      (fun g => g) g0 ?_ (fun _ => rfl) ?_ ?_
    · exact ⟨hge2, hg1⟩
    · refine ⟨?_, .refl rfl⟩
      (repeat' (first | exact rfl | exact trivial | exact HWk.refl rfl | exact leRL_refl _ | (refine And.intro ?_ ?_)))
    rintro g ⟨hqg, hgB⟩ _
    have hgl := hVg g hgB
    have cc := c_rCmp (wd (V * g)) (wd S) (by omega) (by omega)
    rw [val_wd, val_wd] at cc
    have hcmp : (0 < cmpN (V * g) S) ↔ S < V * g := by
      unfold cmpN
      split
      · omega
      · split <;> omega
    ((try dsimp only [awp]); (conv => whnf))
    refine .gen _ _ (FnH.ofPure cc (leL_refl _) ⟨rfl, rfl⟩) fun _ => ?_
    (conv => whnf)
    refine And.intro (fun h => ?_) (fun h => ?_)
    · have hqg2 := rdiv_gt hq (hcmp.1 h)
      have cs := c_rSub (wd (V * g)) vl (by omega) (by omega) _ rfl
      have hsub : V * g - V = V * (g - 1) := by rw [Nat.mul_sub, Nat.mul_one]
      have hge3 : ¬ V * g < V := by
        have : V * 1 ≤ V * g := Nat.mul_le_mul_left _ (by omega)
        omega
      rw [val_wd, hvV, if_neg hge3, hsub] at cs
      (conv => whnf)
      rw [show ((g : Int) - 1) = ((g - 1 : Nat) : Int) by omega, wrap_u64 (n := ((g - 1 : Nat) : Int)) (by omega) (by omega)]
      (conv => whnf)
      refine .gen _ _ (FnH.ofPure cs (leL_refl _) ⟨rfl, rfl⟩) fun _ => ?_
      (conv => whnf)
      refine ⟨g - 1, ?_, ?_, ?_⟩
      · exact ⟨by omega, by omega⟩
      · refine ⟨?_, .refl rfl⟩
        (repeat' (first | exact rfl | exact trivial | exact HWk.refl rfl | exact leRL_refl _ | (refine And.intro ?_ ?_)))
      · show g - 1 < g
        omega
    have hgq := rdiv_le hVp hq hqg (fun hh => h (hcmp.2 hh))
    subst hgq
    have cs := c_rSub (wd S) (wd (V * g)) (by omega) (by omega) _ rfl
    rw [val_wd, val_wd, if_neg (fun hh => h (hcmp.2 hh)), rdiv_mod hq] at cs
    have hrl2 : (wd (S % V)).length ≤ n := wd_len_lt (Nat.lt_of_lt_of_le (Nat.mod_lt _ hVp) (by omega))
    (conv => whnf)
    refine .gen _ _ (FnH.ofPure cs (leL_refl _) ⟨rfl, rfl⟩) fun _ => ?_
    (conv => whnf)
    rw [wrap_u32 (n := (g : Int)) (by omega) (by omega)]
    refine ⟨⟨by omega, by omega⟩, ?_⟩
    dsimp only [putE]
    rw [aops]
    dsimp only [guardC]
    dsimp only [aop]
    (conv => whnf)
    refine ⟨by rw [List.length_map, hQL]; omega, rfl, ?_⟩
    (conv => whnf)
    (refine ⟨inr64 (by omega) (by omega), ?_⟩; (conv => whnf))
    refine ⟨((k : Int) - 1, k, wd (S % V), Q.set k (g : Int)), ?_, ?_, ?_⟩
    · refine ⟨.inl rfl, (by omega : -1000000 ≤ (k : Int) - 1), wd_Ws _, (by omega : (wd (S % V)).length ≤ 300001), ?_⟩
      show RInv V L al k (val (wd (S % V))) (Q.set k (g : Int))
      rw [val_wd]
      exact hst
    · refine ⟨?_, .mk ?_ ⟨by simp, trivial⟩⟩
      · (repeat' (first | exact rfl | exact trivial | exact HWk.refl rfl | exact leRL_refl _ | (refine And.intro ?_ ?_)))
      · (repeat' (first | exact rfl | exact trivial | exact HWk.refl rfl | exact leRL_refl _ | (refine And.intro ?_ ?_)))
        refine leRL_of ?_
        rw [List.map_set]
        simp [strip]
    · show k < k + 1
      omega
  · have hj : j = 0 := by omega
    subst hj
    have he := hI.eq
    have hl := hI.lt
    have hQL := hI.lq
    simp only [List.drop_zero] at he
    have f1 : val Q = A / V := by
      rw [← hvA, he, Nat.add_mul_div_left _ _ hVp, Nat.div_eq_of_lt hl, Nat.zero_add]
    have f2 : val rl = A % V := by
      rw [← hvA, he, Nat.add_mul_mod_self_left, Nat.mod_eq_of_lt hl]
    have hcq := c_rTrim Q (by omega)
    rw [f1, hres.1] at hcq
    have hcd := c_rDown rl s hs (by omega)
    rw [f2, hres.2] at hcd
    (conv => whnf)
    refine .gen _ _ (FnH.frz 0 rfl rfl (by simp; omega) (FnH.ofPure hcq ?_ ⟨rfl, rfl⟩)) fun _ => ?_
    · (repeat' (first | exact rfl | exact trivial | exact HWk.refl rfl | exact leRL_refl _ | (refine And.intro ?_ ?_)))
      refine leRL_of ?_
      simp
      rw [List.take_of_length_le (by simp; omega)]
    (conv => whnf)
    refine .gen _ _ (FnH.ofPure hcd (leL_refl _) ⟨rfl, rfl⟩) fun _ => ?_
    (conv => whnf)
    (refine FinSpec.mono ?_; (conv => whnf); refine ⟨?_, rfl⟩; (conv => whnf))
    (repeat' (first | exact rfl | exact trivial | exact HWk.refl rfl | exact leRL_refl _ | (refine And.intro ?_ ?_)))
end S
