/-
  Contracts of functions of the program, over the logic of the texts before. Nothing is assumed.
-/
import Derived.Test.YtkhinhepefmdhaaGreatT8

open Go Go.AL Go.Proofs
namespace S
set_option maxRecDepth 100000

/-! ### the program's numbers -/

theorem blen_word {v w i : Nat} (hv : v < 4294967296 ^ i) (hw : w ≠ 0) : blen (v + 4294967296 ^ i * w) = 32 * i + blen w := by
  obtain ⟨l, h1, h2, h3⟩ := blen_spec hw
  rw [h1]
  have e := pow32 i l
  have e2 := pow32 i (l + 1)
  have := blen_pow (x := v + 4294967296 ^ i * w) (l := 32 * i + l) (by
    rw [← e]
    have : 4294967296 ^ i * 2 ^ l ≤ 4294967296 ^ i * w := Nat.mul_le_mul_left _ h2
    omega) (by
    rw [show 32 * i + l + 1 = 32 * i + (l + 1) by omega, ← e2]
    have h4 : 4294967296 ^ i * (w + 1) ≤ 4294967296 ^ i * 2 ^ (l + 1) := Nat.mul_le_mul_left _ h3
    rw [Nat.mul_add] at h4
    omega)
  rw [this]; omega

theorem c_pBits (a : List Int) (ha : a.length ≤ 1000000) : FnH Tryz.prog 183 [wL a] [] (.int .i64 (blen (val a))) [] := by
  refine FnH.intro lay mixed Tryz.func183 (by kernel_rfl) rfl (by kernel_rfl) rfl fun hok => ?_
  have wa : Ws a := Ws.ok hok.1.2
  (conv => whnf)
  refine ⟨inr64 (by simp; omega) (by simp; omega), ?_⟩
  (conv => whnf)
  refine LoopE.of <| LoopSpec.inv (.refl _ _) (fun (n : Nat) => n ≤ a.length ∧ val (a.drop n) = 0) (fun (n : Nat) => [(3, .int .i64 ((n : Int) - 1))]) (fun _ => _) (fun (n : Nat) => n) a.length ?_ (fun _ => rfl) ?_ ?_
  · exact ⟨Nat.le_refl _, by rw [List.drop_length]; rfl⟩
  · (repeat' (first | exact rfl | exact trivial | exact HWk.refl rfl | exact leRL_refl _ | (refine And.intro ?_ ?_)))
    simp
  rintro n ⟨hn, hd⟩ _
  ((try dsimp only [awp]); (conv => whnf))
  refine And.intro (fun h => ?_) (fun h => ?_)
  · obtain ⟨i, rfl⟩ : ∃ i, n = i + 1 := ⟨n - 1, by omega⟩
    have e1 : (((i + 1 : Nat) : Int) - 1) = (i : Int) := by omega
    rw [e1]
    have hx := wa.getD (i := i)
    have hvd := val_take_drop (l := a) i (by omega)
    have hhd := val_hd a i
    have htl := take_lt wa i
    (conv => whnf)
    refine aidxN' 0 rfl (by omega) ?_
    obtain ⟨x, hxx⟩ : ∃ x : Nat, a.getD i 0 = x := ⟨(a.getD i 0).toNat, by omega⟩
    rw [hxx] at hx hhd ⊢
    rw [hd, Nat.mul_zero, Nat.add_zero, Int.toNat_natCast] at hhd
    rw [hhd] at hvd
    (conv => whnf)
    refine And.intro (fun h1 => ?_) (fun h1 => ?_)
    · have hb := blen_lt (x := x) (n := 32) (by omega)
      (conv => whnf)
      refine ⟨inr64 (by omega) (by omega), ?_⟩
      (conv => whnf)
      refine aidxN' 0 rfl (by omega) ?_
      rw [hxx]
      (conv => whnf)
      refine .pure _ _ ?_ ⟨rfl, rfl⟩ (c_len32 x (by omega)) fun _ => ?_
      · exact leL_refl _
      (conv => whnf)
      (refine ⟨inr64 (by omega) (by omega), ?_⟩; (conv => whnf))
      (refine FinSpec.mono ?_; (conv => whnf); refine ⟨?_, rfl⟩; (conv => whnf))
      refine ⟨rfl, ?_⟩
      rw [hvd, blen_word htl (by omega)]
      omega
    · have hx0 : x = 0 := by omega
      (conv => whnf)
      (refine ⟨inr64 (by omega) (by omega), ?_⟩; (conv => whnf))
      refine ⟨i, ?_, ?_, ?_⟩
      · exact ⟨by omega, by rw [hhd, hx0]⟩
      · (repeat' (first | exact rfl | exact trivial | exact HWk.refl rfl | exact leRL_refl _ | (refine And.intro ?_ ?_)))
      · omega
  · have hn0 : n = 0 := by omega
    subst hn0
    rw [List.drop_zero] at hd
    (conv => whnf)
    (refine FinSpec.mono ?_; (conv => whnf); refine ⟨?_, rfl⟩; (conv => whnf))
    rw [hd]
    exact ⟨rfl, rfl⟩

theorem mul_step' {p B x y o c C v0 vn w : Nat} (hC : C = c + (x * y + o)) (e : vn + p * o = v0 + p * (C % B)) (h : v0 + p * c = w) : vn + p * B * (C / B) = w + p * (x * y) := by
  have e1 : p * (C % B) + p * B * (C / B) = p * C := by rw [Nat.mul_assoc, ← Nat.mul_add, Nat.mod_add_div]
  have e2 : p * C = p * c + (p * (x * y) + p * o) := by rw [hC, Nat.mul_add, Nat.mul_add]
  omega

theorem mul_end {P Q c vo vn x vb w : Nat} (h : vo + P * c = w + Q * x * vb) (e : vn = vo + P * c) : vn = w + Q * x * vb := by omega

theorem c_pMul (a b : List Int) (ha : a.length ≤ 400000) (hb : b.length ≤ 400000) : FnH Tryz.prog 121 [wL a, wL b] [] (wL (wd (val a * val b))) [] := by
  refine FnH.intro lay mixed Tryz.func121 (by kernel_rfl) rfl (by kernel_rfl) rfl fun hok => ?_
  have wa : Ws a := Ws.ok hok.1.2
  have wb : Ws b := Ws.ok hok.2.1.2
  (conv => whnf)
  refine ⟨inr64 (by simp; omega) (by simp; omega), ?_⟩
  obtain ⟨m, hm⟩ : ∃ m, a.length + b.length = m := ⟨_, rfl⟩
  rw [show (((a.map (AV.int .u32)).length : Nat) : Int) + (((b.map (AV.int .u32)).length : Nat) : Int) = (m : Int) by simp; omega]
  (conv => whnf)
  refine ⟨⟨by omega, by omega, by simp; omega, by omega⟩, .wr ?_⟩
  (conv => whnf)
  refine LoopE.of <| LoopSpec.inv (.refl _ _) (fun x : Nat × List Int => x.1 ≤ a.length ∧ Ws x.2 ∧ x.2.length = m ∧ val x.2 = val (a.take x.1) * val b ∧ ∀ k, x.1 + b.length ≤ k → x.2.getD k 0 = 0)
    (fun | (i, _) => [(19, .int .i64 i)]) (fun | (_, out) => [(0, .arr 1 m (out.map (.int .u32)))])
    (fun x => a.length - x.1) (0, List.replicate m 0) ?_ (fun _ => rfl) ?_ ?_
  · refine ⟨Nat.zero_le _, ?_, by simp, ?_, ?_⟩
    · intro x hx
      rw [(List.mem_replicate.1 hx).2]; omega
    · rw [val_zeros (fun x hx => (List.mem_replicate.1 hx).2)]; simp [val]
    · intro k _
      rw [List.getD_eq_getElem?_getD, List.getElem?_replicate]
      split <;> rfl
  · refine ⟨?_, .mk ?_ ⟨by simp, trivial⟩⟩
    · (repeat' (first | exact rfl | exact trivial | exact HWk.refl rfl | exact leRL_refl _ | (refine And.intro ?_ ?_)))
    · (repeat' (first | exact rfl | exact trivial | exact HWk.refl rfl | exact leRL_refl _ | (refine And.intro ?_ ?_)))
      all_goals first | (simp; done) | exact leRL_of (by simp)
  rintro ⟨i, out⟩ ⟨hi, hwo, hol, hv, hz⟩ _
  simp only at hi hwo hol hv hz
  ((try dsimp only [awp]); (conv => whnf))
  refine And.intro (fun h => ?_) (fun h => ?_)
  · have hlt : i < a.length := by simpa using h
    have hva := val_take_getD (l := a) (i := i)
    have hxa := wa.getD (i := i)
    (conv => whnf)
    refine aidxN' 0 rfl hlt ?_
    generalize a.getD i 0 = x0 at *
    obtain ⟨x, rfl⟩ : ∃ x : Nat, x0 = x := ⟨x0.toNat, by omega⟩
    rw [Int.toNat_natCast] at hva
    (conv => whnf)
    refine LoopE.of <| LoopSpec.inv (.refl _ _) (fun z : Nat × Nat × List Int => z.1 ≤ b.length ∧ z.2.1 < 4294967296 ∧ Ws z.2.2 ∧ z.2.2.length = m ∧ val z.2.2 + 4294967296 ^ (i + z.1) * z.2.1 = val out + 4294967296 ^ i * x * val (b.take z.1) ∧ ∀ k, i + b.length ≤ k → z.2.2.getD k 0 = 0)
      (fun | (j, c, _) => [(26, .int .i64 j), (8, .int .u64 c)]) (fun | (_, _, o) => [(0, .arr 1 m (o.map (.int .u32)))])
      (fun z => b.length - z.1) (0, 0, out) ?_ (fun _ => rfl) ?_ ?_
    · exact ⟨Nat.zero_le _, (by omega : 0 < 4294967296), hwo, hol, by simp [val], hz⟩
    · refine ⟨?_, .mk ?_ ⟨by simp, trivial⟩⟩
      · (repeat' (first | exact rfl | exact trivial | exact HWk.refl rfl | exact leRL_refl _ | (refine And.intro ?_ ?_)))
      · (repeat' (first | exact rfl | exact trivial | exact HWk.refl rfl | exact leRL_refl _ | (refine And.intro ?_ ?_)))
    rintro ⟨j, c, o⟩ ⟨hj, hc, hwo2, hol2, hv2, hz2⟩ _
    simp only at hj hc hwo2 hol2 hv2 hz2
    ((try dsimp only [awp]); (conv => whnf))
    refine And.intro (fun h => ?_) (fun h => ?_)
    · have hjlt : j < b.length := by simpa using h
      have hvb := val_take_getD (l := b) (i := j)
      have hxb := wb.getD (i := j)
      have hoo := hwo2.getD (i := i + j)
      have hij : i + j < o.length := by omega
      (conv => whnf)
      refine aidxN' 0 rfl hjlt ?_
      generalize b.getD j 0 = y0 at *
      obtain ⟨y, rfl⟩ : ∃ x : Nat, y0 = x := ⟨y0.toNat, by omega⟩
      rw [Int.toNat_natCast] at hvb
      have hxy : x * y ≤ 4294967295 * 4294967295 := Nat.mul_le_mul (by omega) (by omega)
      (conv => whnf)
      rw [wrap_u64 (n := (x : Int)) (by omega) (by omega), wrap_u64 (n := (y : Int)) (by omega) (by omega)]
      rw [show ((x : Int) * (y : Int)) = ((x * y : Nat) : Int) from (Int.natCast_mul x y).symm, wrap_u64 (n := ((x * y : Nat) : Int)) (by omega) (by omega)]
      (refine ⟨inr64 (by omega) (by omega), ?_⟩; (conv => whnf))
      refine ⟨⟨by omega, by omega⟩, ?_⟩
      (conv => whnf)
      refine aidxN' 0 (i := i + j) (by omega) hij ?_
      refine ⟨rfl, ?_⟩
      obtain ⟨ow, how⟩ : ∃ w : Nat, o.getD (i + j) 0 = w := ⟨(o.getD (i + j) 0).toNat, by omega⟩
      rw [how] at hoo ⊢
      (conv => whnf)
      rw [wrap_u64 (n := (ow : Int)) (by omega) (by omega)]
      rw [show (((x * y : Nat) : Int) + (ow : Int)) = ((x * y + ow : Nat) : Int) from (Int.natCast_add (x * y) ow).symm, wrap_u64 (n := ((x * y + ow : Nat) : Int)) (by omega) (by omega)]
      rw [show ((c : Int) + ((x * y + ow : Nat) : Int)) = ((c + (x * y + ow) : Nat) : Int) from (Int.natCast_add c (x * y + ow)).symm, wrap_u64 (n := ((c + (x * y + ow) : Nat) : Int)) (by omega) (by omega)]
      obtain ⟨C, hC⟩ : ∃ C, c + (x * y + ow) = C := ⟨_, rfl⟩
      rw [hC]
      (conv => whnf)
      (refine ⟨inr64 (by omega) (by omega), ?_⟩; (conv => whnf))
      rw [wrapu32_mod (a := C)]
      refine ⟨⟨by omega, by omega⟩, ?_⟩
      dsimp only [putE]
      rw [aops]
      dsimp only [guardC]
      dsimp only [aop]
      (conv => whnf)
      refine ⟨by rw [List.length_map]; omega, rfl, ?_⟩
      (conv => whnf)
      refine ⟨by decide, ?_⟩
      rw [shr_word rfl]
      (conv => whnf)
      (refine ⟨inr64 (by omega) (by omega), ?_⟩; (conv => whnf))
      have hCl : C / 4294967296 < 4294967296 := by omega
      have hset := val_set (x := ((C % 4294967296 : Nat) : Int)) hij
      rw [← getD_lt' (x := 0) hij, how, Int.toNat_natCast, Int.toNat_natCast] at hset
      refine ⟨(j + 1, C / 4294967296, o.set (i + j) ((C % 4294967296 : Nat) : Int)), ?_, ?_, ?_⟩
      · refine ⟨hjlt, hCl, hwo2.set (by omega), by simpa using hol2, ?_, ?_⟩
        · show val (o.set (i + j) ((C % 4294967296 : Nat) : Int)) + 4294967296 ^ (i + (j + 1)) * (C / 4294967296) = val out + 4294967296 ^ i * x * val (b.take (j + 1))
          rw [← Nat.add_assoc, Nat.pow_succ, hvb, Nat.mul_add, ← mul_shift (x := x), ← Nat.pow_add, ← Nat.add_assoc]
          exact mul_step' (p := 4294967296 ^ (i + j)) (x := x) (y := y) (o := ow) (c := c) hC.symm hset hv2
        · intro k hk
          have h1 := hz2 k hk
          show (o.set (i + j) _).getD k 0 = 0
          rw [List.getD_eq_getElem?_getD] at h1 ⊢
          rw [List.getElem?_set_ne (by omega)]
          exact h1
      · refine ⟨?_, .mk ?_ ⟨by simp, trivial⟩⟩
        · (repeat' (first | exact rfl | exact trivial | exact HWk.refl rfl | exact leRL_refl _ | (refine And.intro ?_ ?_)))
        · (repeat' (first | exact rfl | exact trivial | exact HWk.refl rfl | exact leRL_refl _ | (refine And.intro ?_ ?_)))
          refine leRL_of ?_
          rw [List.map_set, show (0 + ((i : Int) + (j : Int)).toNat) = i + j by omega]
          simp [strip]
      · show b.length - (j + 1) < b.length - j
        omega
    · have hjl : j = b.length := by have : ¬ j < b.length := by simpa using h
                                    omega
      subst hjl
      rw [List.take_length, hv] at hv2
      have hij : i + b.length < o.length := by omega
      have hset := val_set (x := (c : Int)) hij
      have h0 := hz2 (i + b.length) (Nat.le_refl _)
      rw [← getD_lt' (x := 0) hij, h0, Int.toNat_natCast] at hset
      rw [show (0 : Int).toNat = 0 from rfl, Nat.mul_zero, Nat.add_zero] at hset
      (conv => whnf)
      refine ⟨inr64 (by simp; omega) (by simp; omega), ?_⟩
      rw [show (i : Int) + (((b.map (AV.int .u32)).length : Nat) : Int) = ((i + b.length : Nat) : Int) by simp]
      (conv => whnf)
      rw [wrap_u32 (n := (c : Int)) (by omega) (by omega)]
      refine ⟨⟨by omega, by omega⟩, ?_⟩
      dsimp only [putE]
      rw [aops]
      dsimp only [guardC]
      dsimp only [aop]
      (conv => whnf)
      refine ⟨by rw [List.length_map]; omega, rfl, ?_⟩
      (conv => whnf)
      (refine ⟨inr64 (by omega) (by omega), ?_⟩; (conv => whnf))
      refine ⟨(i + 1, o.set (i + b.length) (c : Int)), ?_, ?_, ?_⟩
      · refine ⟨hlt, hwo2.set (by omega), by simpa using hol2, ?_, ?_⟩
        · show val (o.set (i + b.length) (c : Int)) = val (a.take (i + 1)) * val b
          rw [hva, Nat.add_mul]
          exact mul_end hv2 hset
        · intro k hk
          have hk : i + 1 + b.length ≤ k := hk
          have h1 := hz2 k (by omega)
          show (o.set (i + b.length) _).getD k 0 = 0
          rw [List.getD_eq_getElem?_getD] at h1 ⊢
          rw [List.getElem?_set_ne (by omega)]
          exact h1
      · refine ⟨?_, .mk ?_ ⟨by simp, trivial⟩⟩
        · (repeat' (first | exact rfl | exact trivial | exact HWk.refl rfl | exact leRL_refl _ | (refine And.intro ?_ ?_)))
        · (repeat' (first | exact rfl | exact trivial | exact HWk.refl rfl | exact leRL_refl _ | (refine And.intro ?_ ?_)))
          refine leRL_of ?_
          rw [List.map_set]
          simp [strip]
          try rw [show ((i : Int) + (b.length : Int)).toNat = i + b.length by omega]
      · show a.length - (i + 1) < a.length - i
        omega
  · have hil : i = a.length := by have : ¬ i < a.length := by simpa using h
                                  omega
    subst hil
    rw [List.take_length] at hv
    have ct := c_trim out (by omega)
    rw [hv] at ct
    (conv => whnf)
    refine .gen _ _ (FnH.frz 0 rfl rfl (by simp; omega) (FnH.ofPure ct ?_ ⟨rfl, rfl⟩)) fun _ => ?_
    · (repeat' (first | exact rfl | exact trivial | exact HWk.refl rfl | exact leRL_refl _ | (refine And.intro ?_ ?_)))
      refine leRL_of ?_
      simp
      rw [List.take_of_length_le (by simp; omega)]
    (conv => whnf)
    (refine FinSpec.mono ?_; (conv => whnf); refine ⟨?_, rfl⟩; (conv => whnf))
    (repeat' (first | exact rfl | exact trivial | exact HWk.refl rfl | exact leRL_refl _ | (refine And.intro ?_ ?_)))
end S

open Go Go.AL Go.Proofs
namespace S
set_option maxRecDepth 100000

/-! ### fractions -/

/-- num / den in lowest terms. -/
def formR (neg : Bool) (n d : Nat) : Rat := if n = 0 then ⟨false, [], []⟩ else ⟨neg, wd (n / Nat.gcd n d), wd (d / Nat.gcd n d)⟩

/-- The sign, numerator and denominator as which a fraction counts. -/
def partsR (r : Rat) : Bool × Nat × Nat := if valid r = true ∧ r.num ≠ [] then (r.neg, val r.num, val r.den) else (false, 0, 1)

def mulR (a b : Rat) : Rat := formR (decide ((partsR a).1 ≠ (partsR b).1)) ((partsR a).2.1 * (partsR b).2.1) ((partsR a).2.2 * (partsR b).2.2)

theorem wd_len_mul {x y k l : Nat} (hx : (wd x).length ≤ k) (hy : (wd y).length ≤ l) : (wd (x * y)).length ≤ k + l := by
  refine wd_len_lt ?_
  have h1 := val_lt (wd_Ws x)
  have h2 := val_lt (wd_Ws y)
  rw [val_wd] at h1 h2
  have h3 : 4294967296 ^ (wd x).length ≤ 4294967296 ^ k := Nat.pow_le_pow_right (by omega) hx
  have h4 : 4294967296 ^ (wd y).length ≤ 4294967296 ^ l := Nat.pow_le_pow_right (by omega) hy
  rw [Nat.pow_add]
  exact Nat.mul_lt_mul_of_lt_of_le (by omega) (by omega) (by omega)

theorem blen_zero {x : Nat} : blen x = 0 ↔ x = 0 := by
  unfold blen
  split
  · simp [*]
  · simp [*]

theorem blen_one {x : Nat} : blen x = 1 ↔ x = 1 := by
  by_cases h : x = 0
  · subst h; simp [blen]
  · obtain ⟨l, h1, h2, h3⟩ := blen_spec h
    rw [h1]
    constructor
    · intro e
      obtain rfl : l = 0 := by omega
      simp at h3; omega
    · intro e
      subst e
      have : 2 ^ l ≤ 2 ^ 0 := by simpa using h2
      have := (Nat.pow_le_pow_iff_right (a := 2) (by omega)).1 this
      omega

theorem c_form (neg : Bool) (n d : Nat) (hn : (wd n).length ≤ 900000) (hd : (wd d).length ≤ 900000) (h0 : d ≠ 0) : FnH Tryz.prog 120 [.bool neg, wL (wd n), wL (wd d)] [] (formR neg n d).av [] := by
  have cb := c_pBits (wd n) (by omega)
  rw [val_wd] at cb
  by_cases hz : n = 0
  · have hb : blen n = 0 := blen_zero.2 hz
    rw [hb] at cb
    rw [show formR neg n d = ⟨false, [], []⟩ from if_pos hz]
    refine FnH.intro lay mixed Tryz.func120 (by kernel_rfl) rfl (by kernel_rfl) rfl fun hok => ?_
    (conv => whnf)
    refine .pure _ _ ?_ ⟨rfl, rfl⟩ cb fun _ => ?_
    · exact leL_refl _
    (conv => whnf)
    refine And.intro (fun _ => ?_) (fun h => absurd rfl h)
    (conv => whnf)
    (refine FinSpec.mono ?_; (conv => whnf); refine ⟨?_, rfl⟩; (conv => whnf))
    (repeat' (first | exact rfl | exact trivial | exact HWk.refl rfl | exact leRL_refl _ | (refine And.intro ?_ ?_)))
  have hb : blen n ≠ 0 := fun h => hz (blen_zero.1 h)
  have hg0 : Nat.gcd n d ≠ 0 := by
    have := Nat.gcd_pos_of_pos_left d (show 0 < n by omega)
    omega
  have hgn : Nat.gcd n d ≤ n := Nat.gcd_le_left d (by omega)
  have hgl := wd_len_mono hgn
  have cg := c_Gcd (wd n) (wd d) (by omega) (by omega) fun x y hy hx hy' => by
    rw [val_wd, val_wd] at hx hy'
    have k : ∀ z, z ≤ max n d → (wd z).length ≤ 900000 := by
      intro z hz
      rcases Nat.le_total n d with hab | hab
      · rw [Nat.max_eq_right hab] at hz; have := wd_len_mono hz; omega
      · rw [Nat.max_eq_left hab] at hz; have := wd_len_mono hz; omega
    have k1 := k x hx
    have k2 := k y hy'
    exact divC x y (by omega) (by omega) hy
  rw [val_wd, val_wd] at cg
  have d1 := divC n (Nat.gcd n d) (by omega) (by omega) hg0
  have d2 := divC d (Nat.gcd n d) (by omega) (by omega) hg0
  unfold DivC at d1 d2
  rw [show formR neg n d = ⟨neg, wd (n / Nat.gcd n d), wd (d / Nat.gcd n d)⟩ from if_neg hz]
  generalize Nat.gcd n d = g at *
  refine FnH.intro lay mixed Tryz.func120 (by kernel_rfl) rfl (by kernel_rfl) rfl fun hok => ?_
  (conv => whnf)
  refine .pure _ _ ?_ ⟨rfl, rfl⟩ cb fun _ => ?_
  · exact leL_refl _
  (conv => whnf)
  refine And.intro (fun h => by exfalso; omega) (fun _ => ?_)
  (conv => whnf)
  refine .pure _ _ ?_ ⟨rfl, rfl⟩ cg fun _ => ?_
  · exact leL_refl _
  (conv => whnf)
  refine .pure _ _ ?_ ⟨rfl, rfl⟩ d1 fun _ => ?_
  · exact leL_refl _
  (conv => whnf)
  refine .pure _ _ ?_ ⟨rfl, rfl⟩ d2 fun _ => ?_
  · exact leL_refl _
  (conv => whnf)
  (refine FinSpec.mono ?_; (conv => whnf); refine ⟨?_, rfl⟩; (conv => whnf))
  (repeat' (first | exact rfl | exact trivial | exact HWk.refl rfl | exact leRL_refl _ | (refine And.intro ?_ ?_)))

theorem plain_wd {l : List Int} (h : plainR l = true) (hw : Ws l) : wd (val l) = l ∧ val l ≠ 0 := by
  simp only [plainR, Bool.and_eq_true, decide_eq_true_eq] at h
  have e := wd_val hw (.inr h.2)
  refine ⟨e, fun h0 => h.1 ?_⟩
  rw [h0, wd_zero] at e
  exact e.symm

/-- What is known of the parts of a fraction. -/
structure PartsOk (r : Rat) : Prop where
  den : (partsR r).2.2 ≠ 0
  ln : (wd (partsR r).2.1).length ≤ 400000
  ld : (wd (partsR r).2.2).length ≤ 400000
  eq : (if valid r = true ∧ r.num ≠ [] then AV.tup [.bool r.neg, wL r.num, wL r.den] else .tup [.bool false, wL [], wL [1]]) = .tup [.bool (partsR r).1, wL (wd (partsR r).2.1), wL (wd (partsR r).2.2)]

theorem partsOk {r : Rat} (w1 : Ws r.num) (w2 : Ws r.den) (l1 : r.num.length ≤ 400000) (l2 : r.den.length ≤ 400000) : PartsOk r := by
  by_cases h : valid r = true ∧ r.num ≠ []
  · have hp : partsR r = (r.neg, val r.num, val r.den) := if_pos h
    obtain ⟨h1, h2⟩ := h
    have h1' := h1
    unfold valid at h1
    rw [if_neg (fun h => h2 h.1)] at h1
    simp only [Bool.and_eq_true] at h1
    obtain ⟨e1, _⟩ := plain_wd h1.1.1 w1
    obtain ⟨e2, n2⟩ := plain_wd h1.1.2 w2
    refine ⟨?_, ?_, ?_, ?_⟩
    · rw [hp]; exact n2
    · rw [hp, show wd (r.neg, val r.num, val r.den).2.1 = r.num from e1]; exact l1
    · rw [hp, show wd (r.neg, val r.num, val r.den).2.2 = r.den from e2]; exact l2
    · rw [if_pos ⟨h1', h2⟩, hp, show wd (r.neg, val r.num, val r.den).2.1 = r.num from e1, show wd (r.neg, val r.num, val r.den).2.2 = r.den from e2]
  · have hp : partsR r = (false, 0, 1) := if_neg h
    have e1 : wd 1 = [1] := wd_small (by omega) (by omega)
    refine ⟨?_, ?_, ?_, ?_⟩
    · rw [hp]; decide
    · rw [hp, show wd ((false, 0, 1) : Bool × Nat × Nat).2.1 = [] from wd_zero]; simp
    · rw [hp, show wd ((false, 0, 1) : Bool × Nat × Nat).2.2 = [1] from e1]; simp
    · rw [if_neg h, hp, show wd ((false, 0, 1) : Bool × Nat × Nat).2.1 = [] from wd_zero, show wd ((false, 0, 1) : Bool × Nat × Nat).2.2 = [1] from e1]

theorem ratWs {r : Rat} {l : List AV} (h : OkL (r.av :: l)) : Ws r.num ∧ Ws r.den := ⟨Ws.ok h.1.2.1.2, Ws.ok h.1.2.2.1.2⟩

theorem c_mulRat (a b : Rat) (a1 : a.num.length ≤ 400000) (a2 : a.den.length ≤ 400000) (b1 : b.num.length ≤ 400000) (b2 : b.den.length ≤ 400000) : FnH Tryz.prog 54 [a.av, b.av] [] (mulR a b).av [] := by
  have ca := c_parts a (ratAll a (by omega) (by omega)).v
  have cb := c_parts b (ratAll b (by omega) (by omega)).v
  refine FnH.intro lay mixed Tryz.func54 (by kernel_rfl) rfl (by kernel_rfl) rfl fun hok => ?_
  have pa := partsOk (ratWs hok).1 (ratWs hok).2 a1 a2
  have pb := partsOk (ratWs hok.2).1 (ratWs hok.2).2 b1 b2
  rw [pa.eq] at ca
  rw [pb.eq] at cb
  have hm : mulR a b = formR (decide ((partsR a).1 ≠ (partsR b).1)) ((partsR a).2.1 * (partsR b).2.1) ((partsR a).2.2 * (partsR b).2.2) := rfl
  have m1 := c_pMul (wd (partsR a).2.1) (wd (partsR b).2.1) pa.ln pb.ln
  have m2 := c_pMul (wd (partsR a).2.2) (wd (partsR b).2.2) pa.ld pb.ld
  rw [val_wd, val_wd] at m1 m2
  have l1 := wd_len_mul pa.ln pb.ln
  have l2 := wd_len_mul pa.ld pb.ld
  have hne : (partsR a).2.2 * (partsR b).2.2 ≠ 0 := Nat.mul_ne_zero pa.den pb.den
  have cf := c_form (decide ((partsR a).1 ≠ (partsR b).1)) ((partsR a).2.1 * (partsR b).2.1) ((partsR a).2.2 * (partsR b).2.2) (by omega) (by omega) hne
  rw [← hm] at cf
  generalize mulR a b = R at *
  clear hm
  generalize (partsR a).2.1 * (partsR b).2.1 = n at *
  generalize (partsR a).2.2 * (partsR b).2.2 = d at *
  (conv => whnf)
  refine .pure _ _ ?_ ⟨rfl, rfl⟩ ca fun _ => ?_
  · exact leL_refl _
  (conv => whnf)
  refine .pure _ _ ?_ ⟨rfl, rfl⟩ cb fun _ => ?_
  · exact leL_refl _
  (conv => whnf)
  refine .pure _ _ ?_ ⟨rfl, rfl⟩ m1 fun _ => ?_
  · exact leL_refl _
  (conv => whnf)
  refine .pure _ _ ?_ ⟨rfl, rfl⟩ m2 fun _ => ?_
  · exact leL_refl _
  (conv => whnf)
  refine .pure _ _ ?_ ⟨rfl, rfl⟩ cf fun _ => ?_
  · refine ⟨?_, le0_refl _, le0_refl _, trivial⟩
    show _ ↔ _
    simp
  (conv => whnf)
  (refine FinSpec.mono ?_; (conv => whnf); refine ⟨?_, rfl⟩; (conv => whnf))
  (repeat' (first | exact rfl | exact trivial | exact HWk.refl rfl | exact leRL_refl _ | (refine And.intro ?_ ?_)))

theorem c_clone32 (l : List Int) (hl : l.length ≤ 1000000) : FnH Tryz.prog 118 [wL l] [] (wL l) [] := by
  refine FnH.intro lay mixed Tryz.func118 (by kernel_rfl) rfl (by kernel_rfl) rfl fun hok => ?_
  (conv => whnf)
  intro b hb
  (conv => whnf)
  refine And.intro (fun h => ?_) (fun h => ?_)
  · have : l = [] := by simpa using hb h
    subst this
    (conv => whnf)
    (refine FinSpec.mono ?_; (conv => whnf); refine ⟨?_, rfl⟩; (conv => whnf))
    rfl
  · (conv => whnf)
    refine .pure (by simp [maxL]; omega) (by simp; omega) ?_
    (conv => whnf)
    (refine FinSpec.mono ?_; (conv => whnf); refine ⟨?_, rfl⟩; (conv => whnf))
    (repeat' (first | exact rfl | exact trivial | exact HWk.refl rfl | exact leRL_refl _ | (refine And.intro ?_ ?_)))

theorem c_dclone (r : Rat) (h1 : r.num.length ≤ 1000000) (h2 : r.den.length ≤ 1000000) : FnH Tryz.prog 52 [r.av] [] r.av [] := by
  refine FnH.intro lay mixed Tryz.func52 (by kernel_rfl) rfl (by kernel_rfl) rfl fun hok => ?_
  (conv => whnf)
  (refine ADraw.auto (by kernel_rfl) ?_; (conv => whnf))
  refine ACallP.pure _ _ ?_ ⟨rfl, rfl⟩ (c_clone32 r.num h1) ?_
  · exact leL_refl _
  (conv => whnf)
  refine ACallP.pure _ _ ?_ ⟨rfl, rfl⟩ (c_clone32 r.den h2) ?_
  · exact leL_refl _
  (conv => whnf)
  (refine FinSpec.mono ?_; (conv => whnf); refine ⟨?_, rfl⟩; (conv => whnf))
  (repeat' (first | exact rfl | exact trivial | exact HWk.refl rfl | exact leRL_refl _ | (refine And.intro ?_ ?_)))
end S

open Go Go.AL Go.Proofs
namespace S
set_option maxRecDepth 100000

theorem c_rGcd (a b : List Int) (ha : a.length ≤ 300000) (hb : b.length ≤ 300000) : FnH Tryz.prog 187 [wL a, wL b] [] (wL (wd (Nat.gcd (val a) (val b)))) [] := by
  refine FnH.intro lay mixed Tryz.func187 (by kernel_rfl) rfl (by kernel_rfl) rfl fun hok => ?_
  have wa : Ws a := Ws.ok hok.1.2
  have wb : Ws b := Ws.ok hok.2.1.2
  have la := wd_len_le wa
  have lb := wd_len_le wb
  (conv => whnf)
  refine .pure _ _ ?_ ⟨rfl, rfl⟩ (c_rTrim a (by omega)) fun _ => ?_
  · exact leL_refl _
  (conv => whnf)
  refine .pure _ _ ?_ ⟨rfl, rfl⟩ (c_rTrim b (by omega)) fun _ => ?_
  · exact leL_refl _
  (conv => whnf)
  refine LoopE.of <| LoopSpec.inv (.refl _ _) (fun (x : Nat × Nat) => (wd x.1).length ≤ 300000 ∧ (wd x.2).length ≤ 300000 ∧ Nat.gcd x.1 x.2 = Nat.gcd (val a) (val b)) (fun (x : Nat × Nat) => [(0, wL (wd x.1)), (1, wL (wd x.2))]) (fun _ => _) (fun (x : Nat × Nat) => x.2) (val a, val b) ?_ (fun _ => rfl) ?_ ?_
  · exact ⟨(by omega : (wd (val a)).length ≤ 300000), (by omega : (wd (val b)).length ≤ 300000), rfl⟩
  · (repeat' (first | exact rfl | exact trivial | exact HWk.refl rfl | exact leRL_refl _ | (refine And.intro ?_ ?_)))
  rintro ⟨x, y⟩ ⟨h1, h2, h3⟩ _
  simp only at h1 h2 h3
  ((try dsimp only [awp]); (conv => whnf))
  refine And.intro (fun h => ?_) (fun h => ?_)
  · have h0 : y ≠ 0 := by
      intro e; subst e
      simp [wd_zero] at h
    have cd := c_rDiv (wd x) (wd y) h1 h2 (by rw [val_wd]; exact h0)
    rw [val_wd, val_wd] at cd
    have hm : x % y < y := Nat.mod_lt _ (by omega)
    have hml := wd_len_mono (Nat.le_of_lt hm)
    (conv => whnf)
    refine .pure _ _ ?_ ⟨rfl, rfl⟩ cd fun _ => ?_
    · exact leL_refl _
    (conv => whnf)
    refine ⟨(y, x % y), ?_, ?_, ?_⟩
    · refine ⟨h2, (by omega : (wd (x % y)).length ≤ 300000), ?_⟩
      show Nat.gcd y (x % y) = _
      rw [← h3, Nat.gcd_comm x y, Nat.gcd_rec y x]
      try exact Nat.gcd_comm _ _
    · (repeat' (first | exact rfl | exact trivial | exact HWk.refl rfl | exact leRL_refl _ | (refine And.intro ?_ ?_)))
    · show x % y < y
      exact hm
  · have h0 : y = 0 := by
      apply Classical.byContradiction
      intro hy
      apply h
      show (0 : Int) < ((wd y).map _).length
      rw [wd_pos hy]; simp
    subst h0
    (conv => whnf)
    (refine FinSpec.mono ?_; (conv => whnf); refine ⟨?_, rfl⟩; (conv => whnf))
    refine ⟨rfl, leRL_of ?_⟩
    rw [← h3, Nat.gcd_zero_right]

theorem getLast_getD (a : List Int) (k : Nat) (e : k = a.length - 1) : a.getD k 0 = a.getLastD 0 := by
  subst e
  rw [List.getLastD_eq_getLast?, List.getLast?_eq_getElem?, List.getD_eq_getElem?_getD]

theorem c_rValid (r : Rat) (l1 : r.num.length ≤ 300000) (l2 : r.den.length ≤ 300000) : FnH Tryz.prog 124 [r.av] [] (.bool (valid r)) [] := by
  have cg := c_rGcd r.num r.den l1 l2
  refine FnH.intro lay mixed Tryz.func124 (by kernel_rfl) rfl (by kernel_rfl) rfl fun hok => ?_
  have w := ratWs hok
  have hgl : (wd (Nat.gcd (val r.num) (val r.den))).length ≤ 1000000 := by
    have k1 := wd_len_le w.1
    have k2 := wd_len_le w.2
    by_cases h0 : val r.num = 0
    · rw [h0, Nat.gcd_zero_left]; omega
    · have := wd_len_mono (Nat.gcd_le_left (val r.den) (by omega : 0 < val r.num))
      omega
  have cb := c_rBits (wd (Nat.gcd (val r.num) (val r.den))) hgl
  rw [val_wd] at cb
  have h1 := blen_one (x := Nat.gcd (val r.num) (val r.den))
  have hval : ¬ r.num = [] → (valid r = true ↔ plainR r.num = true ∧ plainR r.den = true ∧ Nat.gcd (val r.num) (val r.den) = 1) := fun n1 => by simp [valid, n1, and_assoc]
  generalize Nat.gcd (val r.num) (val r.den) = g at *
  have en : (((r.num.map (AV.int .u32)).length : Nat) : Int) = (r.num.length : Int) := by simp
  have ed : (((r.den.map (AV.int .u32)).length : Nat) : Int) = (r.den.length : Int) := by simp
  (conv => whnf)
  (refine ADraw.auto (by kernel_rfl) ?_; (conv => whnf))
  refine And.intro (fun n1 => ?_) (fun n1 => ?_)
  · have n1 : r.num = [] := List.eq_nil_of_length_eq_zero (by rw [en] at n1; omega)
    (conv => whnf)
    refine And.intro (fun n2 => ?_) (fun n2 => ?_)
    · (conv => whnf)
      refine And.intro (fun n3 => ?_) (fun n3 => ?_)
      · have n3 : r.den = [] := List.eq_nil_of_length_eq_zero (by rw [ed] at n3; omega)
        (conv => whnf)
        (refine FinSpec.mono ?_; (conv => whnf); refine ⟨?_, rfl⟩; (conv => whnf))
        simp [valid, n1, n3]
      · have n3 : ¬ r.den = [] := fun e => n3 (by rw [e]; rfl)
        (conv => whnf)
        (refine FinSpec.mono ?_; (conv => whnf); refine ⟨?_, rfl⟩; (conv => whnf))
        simp [valid, n1, n3, plainR]
    · exact absurd (by rw [n1]; rfl) n2
  · have n1 : ¬ r.num = [] := fun e => n1 (by rw [e]; rfl)
    (conv => whnf)
    refine And.intro (fun n2 => ?_) (fun n2 => ?_)
    · have n2 : r.den = [] := List.eq_nil_of_length_eq_zero (by rw [ed] at n2; omega)
      (conv => whnf)
      refine And.intro (fun n3 => ?_) (fun n3 => ?_)
      · exact absurd (List.eq_nil_of_length_eq_zero (by rw [en] at n3; omega)) n1
      · (conv => whnf)
        (refine FinSpec.mono ?_; (conv => whnf); refine ⟨?_, rfl⟩; (conv => whnf))
        simp [valid, n1, n2, plainR]
    · have n2 : ¬ r.den = [] := fun e => n2 (by rw [e]; rfl)
      have p1 : 0 < r.num.length := List.length_pos_iff.2 n1
      have p2 : 0 < r.den.length := List.length_pos_iff.2 n2
      ((try dsimp only [awp]); (conv => whnf))
      refine And.intro (inr64 (by rw [en]; omega) (by rw [en]; omega)) ?_
      ((try dsimp only [awp]); (conv => whnf))
      refine aidxN' 0 (i := r.num.length - 1) (by rw [en]; omega) (by omega) ?_
      ((try dsimp only [awp]); (conv => whnf))
      refine And.intro (fun n3 => ?_) (fun n3 => ?_)
      · ((try dsimp only [awp]); (conv => whnf))
        refine And.intro (inr64 (by rw [ed]; omega) (by rw [ed]; omega)) ?_
        ((try dsimp only [awp]); (conv => whnf))
        refine aidxN' 0 (i := r.den.length - 1) (by rw [ed]; omega) (by omega) ?_
        ((try dsimp only [awp]); (conv => whnf))
        refine And.intro (fun n4 => ?_) (fun n4 => ?_)
        · ((try dsimp only [awp]); (conv => whnf))
          refine .pure _ _ ?_ ⟨rfl, rfl⟩ cg fun _ => ?_
          · exact leL_refl _
          ((try dsimp only [awp]); (conv => whnf))
          refine .pure _ _ ?_ ⟨rfl, rfl⟩ cb fun _ => ?_
          · exact leL_refl _
          ((try dsimp only [awp]); (conv => whnf))
          (refine FinSpec.mono ?_; (conv => whnf); refine ⟨?_, rfl⟩; (conv => whnf))
          show _ ↔ _
          have n3 : ¬ r.num.getLastD 0 = 0 := by rw [← getLast_getD r.num _ rfl]; simpa using n3
          have n4 : ¬ r.den.getLastD 0 = 0 := by rw [← getLast_getD r.den _ rfl]; simpa using n4
          rw [hval n1]
          have q1 : plainR r.num = true := by simp [plainR, n1, n3, -List.getLastD_eq_getLast?]
          have q2 : plainR r.den = true := by simp [plainR, n2, n4, -List.getLastD_eq_getLast?]
          rw [q1, q2]
          simp
          omega
        · ((try dsimp only [awp]); (conv => whnf))
          (refine FinSpec.mono ?_; (conv => whnf); refine ⟨?_, rfl⟩; (conv => whnf))
          have n4 : r.den.getLastD 0 = 0 := by rw [← getLast_getD r.den _ rfl]; simpa using n4
          have q : plainR r.den = false := by simp [plainR, n4, -List.getLastD_eq_getLast?]
          simp [valid, n1, q]
      · ((try dsimp only [awp]); (conv => whnf))
        (refine FinSpec.mono ?_; (conv => whnf); refine ⟨?_, rfl⟩; (conv => whnf))
        have n3 : r.num.getLastD 0 = 0 := by rw [← getLast_getD r.num _ rfl]; simpa using n3
        have q : plainR r.num = false := by simp [plainR, n3, -List.getLastD_eq_getLast?]
        simp [valid, n1, q]
end S

open Go Go.AL Go.Proofs
namespace S
set_option maxRecDepth 100000

theorem c_rParts (r : Rat) (l1 : r.num.length ≤ 300000) (l2 : r.den.length ≤ 300000) :
    FnH Tryz.prog 138 [r.av] [] (if valid r = true ∧ r.num ≠ [] then .tup [.bool r.neg, wL r.num, wL r.den] else .tup [.bool false, wL [], wL [1]]) [] := by
  have cv := c_rValid r l1 l2
  generalize hR : (if valid r = true ∧ r.num ≠ [] then AV.tup [.bool r.neg, wL r.num, wL r.den] else .tup [.bool false, wL [], wL [1]]) = R
  refine FnH.intro lay mixed Tryz.func138 (by kernel_rfl) rfl (by kernel_rfl) rfl fun hok => ?_
  have en : (((r.num.map (AV.int .u32)).length : Nat) : Int) = (r.num.length : Int) := by simp
  ((try dsimp only [argC, succC]); (try dsimp only [awp]); (conv => whnf))
  refine .pure _ _ ?_ ⟨rfl, rfl⟩ cv fun _ => ?_
  · exact leL_refl _
  ((try dsimp only [awp]); (conv => whnf))
  refine And.intro (fun p1 => ?_) (fun p1 => ?_)
  · have p1 : valid r = false := by simpa using p1
    rw [if_neg (by simp [p1])] at hR
    subst hR
    ((try dsimp only [awp]); (conv => whnf))
    (refine FinSpec.mono ?_; (conv => whnf); refine ⟨?_, rfl⟩; (conv => whnf))
    (repeat' (first | exact rfl | exact trivial | exact HWk.refl rfl | exact leRL_refl _ | (refine And.intro ?_ ?_)))
  · have p1 : valid r = true := by simpa using p1
    ((try dsimp only [awp]); (conv => whnf))
    refine And.intro (fun p2 => ?_) (fun p2 => ?_)
    · have p2 : r.num = [] := List.eq_nil_of_length_eq_zero (by rw [en] at p2; omega)
      rw [if_neg (by simp [p2])] at hR
      subst hR
      ((try dsimp only [awp]); (conv => whnf))
      (refine FinSpec.mono ?_; (conv => whnf); refine ⟨?_, rfl⟩; (conv => whnf))
      (repeat' (first | exact rfl | exact trivial | exact HWk.refl rfl | exact leRL_refl _ | (refine And.intro ?_ ?_)))
    · have p2 : ¬ r.num = [] := fun e => p2 (by rw [e]; rfl)
      rw [if_pos ⟨p1, p2⟩] at hR
      subst hR
      ((try dsimp only [awp]); (conv => whnf))
      (refine ADraw.auto (by kernel_rfl) ?_; (conv => whnf))
      (refine FinSpec.mono ?_; (conv => whnf); refine ⟨?_, rfl⟩; (conv => whnf))
      (repeat' (first | exact rfl | exact trivial | exact HWk.refl rfl | exact leRL_refl _ | (refine And.intro ?_ ?_)))

theorem c_rFrom (neg : Bool) (n d : Nat) (hn : (wd n).length ≤ 300000) (hd : (wd d).length ≤ 300000) (h0 : d ≠ 0) : FnH Tryz.prog 139 [.bool neg, wL (wd n), wL (wd d)] [] (.tup [(formR neg n d).av, .int .i64 0]) [] := by
  have cb := c_rBits (wd n) (by omega)
  have cd := c_rBits (wd d) (by omega)
  rw [val_wd] at cb cd
  have hbd : blen d ≠ 0 := fun h => h0 (blen_zero.1 h)
  by_cases hz : n = 0
  · have hb : blen n = 0 := blen_zero.2 hz
    rw [hb] at cb
    rw [show formR neg n d = ⟨false, [], []⟩ from if_pos hz]
    refine FnH.intro lay mixed Tryz.func139 (by kernel_rfl) rfl (by kernel_rfl) rfl fun hok => ?_
    ((try dsimp only [argC, succC]); (try dsimp only [awp]); (conv => whnf))
    refine .pure _ _ ?_ ⟨rfl, rfl⟩ cd fun _ => ?_
    · exact leL_refl _
    ((try dsimp only [awp]); (conv => whnf))
    refine And.intro (fun h => by exfalso; omega) (fun _ => ?_)
    ((try dsimp only [awp]); (conv => whnf))
    refine .pure _ _ ?_ ⟨rfl, rfl⟩ cb fun _ => ?_
    · exact leL_refl _
    ((try dsimp only [awp]); (conv => whnf))
    refine And.intro (fun _ => ?_) (fun h => absurd rfl h)
    ((try dsimp only [awp]); (conv => whnf))
    (refine FinSpec.mono ?_; (conv => whnf); refine ⟨?_, rfl⟩; (conv => whnf))
    (repeat' (first | exact rfl | exact trivial | exact HWk.refl rfl | exact leRL_refl _ | (refine And.intro ?_ ?_)))
  have hb : blen n ≠ 0 := fun h => hz (blen_zero.1 h)
  have hg0 : Nat.gcd n d ≠ 0 := by
    have := Nat.gcd_pos_of_pos_left d (show 0 < n by omega)
    omega
  have hgn : Nat.gcd n d ≤ n := Nat.gcd_le_left d (by omega)
  have hgl := wd_len_mono hgn
  have cg := c_rGcd (wd n) (wd d) (by omega) (by omega)
  rw [val_wd, val_wd] at cg
  have d1 := c_rDiv (wd n) (wd (Nat.gcd n d)) (by omega) (by omega) (by rw [val_wd]; exact hg0)
  have d2 := c_rDiv (wd d) (wd (Nat.gcd n d)) (by omega) (by omega) (by rw [val_wd]; exact hg0)
  rw [val_wd, val_wd] at d1 d2
  rw [show formR neg n d = ⟨neg, wd (n / Nat.gcd n d), wd (d / Nat.gcd n d)⟩ from if_neg hz]
  generalize Nat.gcd n d = g at *
  refine FnH.intro lay mixed Tryz.func139 (by kernel_rfl) rfl (by kernel_rfl) rfl fun hok => ?_
  ((try dsimp only [argC, succC]); (try dsimp only [awp]); (conv => whnf))
  refine .pure _ _ ?_ ⟨rfl, rfl⟩ cd fun _ => ?_
  · exact leL_refl _
  ((try dsimp only [awp]); (conv => whnf))
  refine And.intro (fun h => by exfalso; omega) (fun _ => ?_)
  ((try dsimp only [awp]); (conv => whnf))
  refine .pure _ _ ?_ ⟨rfl, rfl⟩ cb fun _ => ?_
  · exact leL_refl _
  ((try dsimp only [awp]); (conv => whnf))
  refine And.intro (fun h => by exfalso; omega) (fun _ => ?_)
  ((try dsimp only [awp]); (conv => whnf))
  refine .pure _ _ ?_ ⟨rfl, rfl⟩ cg fun _ => ?_
  · exact leL_refl _
  ((try dsimp only [awp]); (conv => whnf))
  refine .pure _ _ ?_ ⟨rfl, rfl⟩ d1 fun _ => ?_
  · exact leL_refl _
  ((try dsimp only [awp]); (conv => whnf))
  refine .pure _ _ ?_ ⟨rfl, rfl⟩ d2 fun _ => ?_
  · exact leL_refl _
  ((try dsimp only [awp]); (conv => whnf))
  (refine FinSpec.mono ?_; (conv => whnf); refine ⟨?_, rfl⟩; (conv => whnf))
  (repeat' (first | exact rfl | exact trivial | exact HWk.refl rfl | exact leRL_refl _ | (refine And.intro ?_ ?_)))

theorem partsLe {r : Rat} (w1 : Ws r.num) (w2 : Ws r.den) (l1 : r.num.length ≤ 100000) (l2 : r.den.length ≤ 100000) : (wd (partsR r).2.1).length ≤ 100000 ∧ (wd (partsR r).2.2).length ≤ 100000 := by
  by_cases h : valid r = true ∧ r.num ≠ []
  · have hp : partsR r = (r.neg, val r.num, val r.den) := if_pos h
    obtain ⟨h1, h2⟩ := h
    unfold valid at h1
    rw [if_neg (fun h => h2 h.1)] at h1
    simp only [Bool.and_eq_true] at h1
    obtain ⟨e1, _⟩ := plain_wd h1.1.1 w1
    obtain ⟨e2, n2⟩ := plain_wd h1.1.2 w2
    rw [hp, show wd (r.neg, val r.num, val r.den).2.1 = r.num from e1, show wd (r.neg, val r.num, val r.den).2.2 = r.den from e2]
    exact ⟨l1, l2⟩
  · have hp : partsR r = (false, 0, 1) := if_neg h
    have e1 : wd 1 = [1] := wd_small (by omega) (by omega)
    rw [hp, show wd ((false, 0, 1) : Bool × Nat × Nat).2.1 = [] from wd_zero, show wd ((false, 0, 1) : Bool × Nat × Nat).2.2 = [1] from e1]
    simp

theorem c_mulRef (a b : Rat) (a1 : a.num.length ≤ 100000) (a2 : a.den.length ≤ 100000) (b1 : b.num.length ≤ 100000) (b2 : b.den.length ≤ 100000) : FnH Tryz.prog 65 [a.av, b.av] [] (mulR a b).av [] := by
  have ca := c_rParts a (by omega) (by omega)
  have cb := c_rParts b (by omega) (by omega)
  refine FnH.intro lay mixed Tryz.func65 (by kernel_rfl) rfl (by kernel_rfl) rfl fun hok => ?_
  have pa := partsOk (ratWs hok).1 (ratWs hok).2 (by omega) (by omega)
  have pb := partsOk (ratWs hok.2).1 (ratWs hok.2).2 (by omega) (by omega)
  have qa := partsLe (ratWs hok).1 (ratWs hok).2 a1 a2
  have qb := partsLe (ratWs hok.2).1 (ratWs hok.2).2 b1 b2
  rw [pa.eq] at ca
  rw [pb.eq] at cb
  have hm : mulR a b = formR (decide ((partsR a).1 ≠ (partsR b).1)) ((partsR a).2.1 * (partsR b).2.1) ((partsR a).2.2 * (partsR b).2.2) := rfl
  have m1 := c_rMul (wd (partsR a).2.1) (wd (partsR b).2.1) pa.ln pb.ln
  have m2 := c_rMul (wd (partsR a).2.2) (wd (partsR b).2.2) pa.ld pb.ld
  rw [val_wd, val_wd] at m1 m2
  have l1 := wd_len_mul qa.1 qb.1
  have l2 := wd_len_mul qa.2 qb.2
  have hne : (partsR a).2.2 * (partsR b).2.2 ≠ 0 := Nat.mul_ne_zero pa.den pb.den
  have cf := c_rFrom (decide ((partsR a).1 ≠ (partsR b).1)) ((partsR a).2.1 * (partsR b).2.1) ((partsR a).2.2 * (partsR b).2.2) (by omega) (by omega) hne
  rw [← hm] at cf
  generalize mulR a b = R at *
  clear hm
  generalize (partsR a).2.1 * (partsR b).2.1 = n at *
  generalize (partsR a).2.2 * (partsR b).2.2 = d at *
  ((try dsimp only [argC, succC]); (try dsimp only [awp]); (conv => whnf))
  refine .pure _ _ ?_ ⟨rfl, rfl⟩ ca fun _ => ?_
  · exact leL_refl _
  ((try dsimp only [awp]); (conv => whnf))
  refine .pure _ _ ?_ ⟨rfl, rfl⟩ cb fun _ => ?_
  · exact leL_refl _
  ((try dsimp only [awp]); (conv => whnf))
  refine .pure _ _ ?_ ⟨rfl, rfl⟩ m1 fun _ => ?_
  · exact leL_refl _
  ((try dsimp only [awp]); (conv => whnf))
  refine .pure _ _ ?_ ⟨rfl, rfl⟩ m2 fun _ => ?_
  · exact leL_refl _
  ((try dsimp only [awp]); (conv => whnf))
  refine .pure _ _ ?_ ⟨rfl, rfl⟩ cf fun _ => ?_
  · refine ⟨?_, le0_refl _, le0_refl _, trivial⟩
    show _ ↔ _
    simp
  ((try dsimp only [awp]); (conv => whnf))
  (refine FinSpec.mono ?_; (conv => whnf); refine ⟨?_, rfl⟩; (conv => whnf))
  (repeat' (first | exact rfl | exact trivial | exact HWk.refl rfl | exact leRL_refl _ | (refine And.intro ?_ ?_)))

theorem c_words (a b : List Int) : FnH Tryz.prog 63 [wL a, wL b] [] (.bool (decide (a = b))) [] := by
  refine FnH.intro lay mixed Tryz.func63 (by kernel_rfl) rfl (by kernel_rfl) rfl fun hok => ?_
  have ha : a.length ≤ 9223372036854775807 := by simpa [OkL, Ok, maxL] using hok.1.1
  ((try dsimp only [argC, succC]); (try dsimp only [awp]); (conv => whnf))
  refine And.intro (fun h => ?_) (fun h => ?_)
  · have h : a ≠ b := by intro e; apply h; rw [e]
    (conv => whnf)
    (refine FinSpec.mono ?_; (conv => whnf); refine ⟨?_, rfl⟩; (conv => whnf))
    simpa using h
  have h : a.length = b.length := by simp only [List.length_map] at h; omega
  ((try dsimp only [awp]); (conv => whnf))
  refine LoopE.of <| LoopSpec.inv (.refl _ _) (fun (i : Nat) => i ≤ a.length ∧ (a = b ↔ a.drop i = b.drop i)) (fun (i : Nat) => [(13, .int .i64 i)]) (fun _ => _) (fun (i : Nat) => a.length - i) 0 ?_ (fun _ => rfl) ?_ ?_
  · exact ⟨Nat.zero_le _, by simp⟩
  · (repeat' (first | exact rfl | exact trivial | exact HWk.refl rfl | exact leRL_refl _ | (refine And.intro ?_ ?_)))
  rintro i ⟨hi, hx⟩ _
  ((try dsimp only [awp]); (conv => whnf))
  refine And.intro (fun h1 => ?_) (fun h1 => ?_)
  · have hlt : i < a.length := by simpa using h1
    have hlt2 : i < b.length := by omega
    rw [List.drop_eq_getElem_cons hlt, List.drop_eq_getElem_cons hlt2] at hx
    ((try dsimp only [awp]); (conv => whnf))
    (refine ADraw.auto (by kernel_rfl) ?_; (conv => whnf))
    refine aidx hlt ?_
    ((try dsimp only [awp]); (conv => whnf))
    refine aidx hlt2 ?_
    ((try dsimp only [awp]); (conv => whnf))
    refine And.intro (fun h2 => ?_) (fun h2 => ?_)
    · ((try dsimp only [awp]); (conv => whnf))
      (refine FinSpec.mono ?_; (conv => whnf); refine ⟨?_, rfl⟩; (conv => whnf))
      have : ¬ a = b := fun e => h2 (by simpa using (List.cons.inj (hx.1 e)).1)
      simpa using this
    · have h2 : a[i] = b[i] := by simpa using h2
      ((try dsimp only [awp]); (conv => whnf))
      (refine ⟨inr64 (by omega) (by omega), ?_⟩; (conv => whnf))
      refine ⟨i + 1, ?_, ?_, ?_⟩
      · refine ⟨hlt, ?_⟩
        rw [hx, h2]
        exact ⟨fun e => (List.cons.inj e).2, fun e => by rw [e]⟩
      · (repeat' (first | exact rfl | exact trivial | exact HWk.refl rfl | exact leRL_refl _ | (refine And.intro ?_ ?_)))
      · omega
  · have hil : i = a.length := by have : ¬ i < a.length := by simpa using h1
                                  omega
    ((try dsimp only [awp]); (conv => whnf))
    (refine FinSpec.mono ?_; (conv => whnf); refine ⟨?_, rfl⟩; (conv => whnf))
    have : a = b := hx.2 (by rw [hil, List.drop_length, h, List.drop_length])
    simpa using this

theorem c_ratEq (a b : Rat) : FnH Tryz.prog 23 [a.av, b.av] [] (.bool (decide (a = b))) [] := by
  have c1 := c_words a.num b.num
  have c2 := c_words a.den b.den
  have e : a = b ↔ a.neg = b.neg ∧ a.num = b.num ∧ a.den = b.den := by cases a; cases b; simp
  refine FnH.intro lay mixed Tryz.func23 (by kernel_rfl) rfl (by kernel_rfl) rfl fun hok => ?_
  ((try dsimp only [argC, succC]); (try dsimp only [awp]); (conv => whnf))
  refine And.intro (fun h1 => ?_) (fun h1 => ?_)
  · ((try dsimp only [awp]); (conv => whnf))
    refine .pure _ _ ?_ ⟨rfl, rfl⟩ c1 fun _ => ?_
    · exact leL_refl _
    ((try dsimp only [awp]); (conv => whnf))
    refine And.intro (fun h2 => ?_) (fun h2 => ?_)
    · have h2 : a.num = b.num := by simpa using h2
      ((try dsimp only [awp]); (conv => whnf))
      refine .pure _ _ ?_ ⟨rfl, rfl⟩ c2 fun _ => ?_
      · exact leL_refl _
      ((try dsimp only [awp]); (conv => whnf))
      (refine FinSpec.mono ?_; (conv => whnf); refine ⟨?_, rfl⟩; (conv => whnf))
      simp [e, h1, h2]
    · have h2 : ¬ a.num = b.num := by simpa using h2
      ((try dsimp only [awp]); (conv => whnf))
      (refine FinSpec.mono ?_; (conv => whnf); refine ⟨?_, rfl⟩; (conv => whnf))
      simp [e, h2]
  · ((try dsimp only [awp]); (conv => whnf))
    (refine FinSpec.mono ?_; (conv => whnf); refine ⟨?_, rfl⟩; (conv => whnf))
    simp [e, h1]
end S
