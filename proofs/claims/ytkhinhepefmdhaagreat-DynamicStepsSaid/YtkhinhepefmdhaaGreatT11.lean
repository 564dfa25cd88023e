/-
  Contracts of functions of the program, over the logic of the texts before. Nothing is assumed.
-/
import Derived.Test.YtkhinhepefmdhaaGreatT10

open Go Go.AL Go.Proofs
namespace S
set_option maxRecDepth 100000

theorem c_Num (e : Int) : FnH Tryz.prog 18 [errAV e] [] (.int .i64 e) [] := by
  by_cases h0 : e = 0
  · subst h0
    rw [errAV_zero]
    refine FnH.intro lay mixed Tryz.func18 (by kernel_rfl) rfl (by kernel_rfl) rfl fun hok => ?_
    ((try dsimp only [argC, succC]); (try dsimp only [awp]); (conv => whnf))
    (refine FinSpec.mono ?_; (conv => whnf); refine ⟨?_, rfl⟩; (conv => whnf))
    (repeat' (first | exact rfl | exact trivial | exact HWk.refl rfl | exact leRL_refl _ | (refine And.intro ?_ ?_)))
  · rw [errAV_ne h0]
    refine FnH.intro lay mixed Tryz.func18 (by kernel_rfl) rfl (by kernel_rfl) rfl fun hok => ?_
    ((try dsimp only [argC, succC]); (try dsimp only [awp]); (conv => whnf))
    (refine FinSpec.mono ?_; (conv => whnf); refine ⟨?_, rfl⟩; (conv => whnf))
    (repeat' (first | exact rfl | exact trivial | exact HWk.refl rfl | exact leRL_refl _ | (refine And.intro ?_ ?_)))

theorem c_bools (a b : List Bool) : FnH Tryz.prog 27 [bL a, bL b] [] (.bool (decide (a = b))) [] := by
  refine FnH.intro lay mixed Tryz.func27 (by kernel_rfl) rfl (by kernel_rfl) rfl fun hok => ?_
  have ha : a.length ≤ 9223372036854775807 := by simpa [OkL, Ok, maxL] using hok.1.1
  ((try dsimp only [argC, succC]); (try dsimp only [awp]); (conv => whnf))
  refine And.intro (fun h => ?_) (fun h => ?_)
  · have h : a ≠ b := by intro e; apply h; rw [e]
    ((try dsimp only [awp]); (conv => whnf))
    (refine FinSpec.mono ?_; (conv => whnf); refine ⟨?_, rfl⟩; (conv => whnf))
    simpa using h
  have h : a.length = b.length := by simp only [List.length_map] at h; omega
  ((try dsimp only [awp]); (conv => whnf))
  refine LoopE.of <| LoopSpec.inv (.refl _ _) (fun (i : Nat) => i ≤ a.length ∧ (a = b ↔ a.drop i = b.drop i)) (fun (i : Nat) => [(13, .int .i64 i)]) (fun _ => _) (fun (i : Nat) => a.length - i) 0 ?_ (fun _ => rfl) ?_ ?_
  · exact ⟨Nat.zero_le _, by simp⟩
  · (repeat' (first | exact rfl | exact trivial | exact HWk.refl rfl | exact leRL_refl _ | (refine And.intro ?_ ?_)))
  rintro i ⟨hi, hx⟩ _
  ((try dsimp only [awp]); (conv => whnf))
  refine And.intro (fun h1 => ?_) (fun h1 => ?_)
  · have hlt : i < a.length := by simpa using h1
    have hlt2 : i < b.length := by omega
    rw [List.drop_eq_getElem_cons hlt, List.drop_eq_getElem_cons hlt2] at hx
    ((try dsimp only [awp]); (conv => whnf))
    (refine ADraw.auto (by kernel_rfl) ?_; (conv => whnf))
    refine aidx hlt ?_
    ((try dsimp only [awp]); (conv => whnf))
    refine aidx hlt2 ?_
    ((try dsimp only [awp]); (conv => whnf))
    refine And.intro (fun h2 => ?_) (fun h2 => ?_)
    · ((try dsimp only [awp]); (conv => whnf))
      (refine FinSpec.mono ?_; (conv => whnf); refine ⟨?_, rfl⟩; (conv => whnf))
      have : ¬ a = b := fun e => h2 (by simpa using (List.cons.inj (hx.1 e)).1)
      simpa using this
    · have h2 : a[i] = b[i] := by simpa using h2
      ((try dsimp only [awp]); (conv => whnf))
      (refine ⟨inr64 (by omega) (by omega), ?_⟩; (conv => whnf))
      refine ⟨i + 1, ?_, ?_, ?_⟩
      · refine ⟨hlt, ?_⟩
        rw [hx, h2]
        exact ⟨fun e => (List.cons.inj e).2, fun e => by rw [e]⟩
      · (repeat' (first | exact rfl | exact trivial | exact HWk.refl rfl | exact leRL_refl _ | (refine And.intro ?_ ?_)))
      · omega
  · have hil : i = a.length := by have : ¬ i < a.length := by simpa using h1
                                  omega
    ((try dsimp only [awp]); (conv => whnf))
    (refine FinSpec.mono ?_; (conv => whnf); refine ⟨?_, rfl⟩; (conv => whnf))
    have : a = b := hx.2 (by rw [hil, List.drop_length, h, List.drop_length])
    simpa using this

theorem c_SameState (a b : St) : FnH Tryz.prog 20 [a.av, b.av] [] (.bool (decide (a = b))) [] := by
  have c1 := c_ints a.memo b.memo
  have e : a = b ↔ a.failed = b.failed ∧ a.memo = b.memo := by cases a; cases b; simp
  refine FnH.intro lay mixed Tryz.func20 (by kernel_rfl) rfl (by kernel_rfl) rfl fun hok => ?_
  ((try dsimp only [argC, succC]); (try dsimp only [awp]); (conv => whnf))
  refine And.intro (fun h1 => ?_) (fun h1 => ?_)
  · ((try dsimp only [awp]); (conv => whnf))
    refine .pure _ _ ?_ ⟨rfl, rfl⟩ c1 fun _ => ?_
    · exact leL_refl _
    ((try dsimp only [awp]); (conv => whnf))
    (refine FinSpec.mono ?_; (conv => whnf); refine ⟨?_, rfl⟩; (conv => whnf))
    simp [e, h1]
  · ((try dsimp only [awp]); (conv => whnf))
    (refine FinSpec.mono ?_; (conv => whnf); refine ⟨?_, rfl⟩; (conv => whnf))
    simp [e, h1]

def boundsR (k : Int) : Int × Int :=
  if k = 0 ∨ k = 1 ∨ k = 4 ∨ k = 2 then (1, 16) else if k = 3 then (1, 1) else if k = 5 then (2, 2) else if k = 6 ∨ k = 7 ∨ k = 8 then (2, 16) else (0, 0)

theorem c_bounds (k : Int) (R : AV) (hR : R = .tup [.int .i64 (boundsR k).1, .int .i64 (boundsR k).2]) : FnH Tryz.prog 126 [.int .i64 k] [] R [] := by
  obtain ⟨x, hx⟩ : ∃ x, boundsR k = x := ⟨_, rfl⟩
  rw [hx] at hR
  subst hR
  refine FnH.intro lay mixed Tryz.func126 (by kernel_rfl) rfl (by kernel_rfl) rfl fun hok => ?_
  ((try dsimp only [argC, succC]); (try dsimp only [awp]); (conv => whnf))
  repeat' (first | (refine And.intro (fun _ => ?_) (fun _ => ?_) <;> ((try dsimp only [awp]); (conv => whnf))))
  all_goals
    (refine FinSpec.mono ?_; (conv => whnf); refine ⟨?_, rfl⟩; (conv => whnf))
    try simp_all [boundsR]
  all_goals
    subst hx
    (repeat' (first | exact rfl | exact trivial | exact HWk.refl rfl | exact leRL_refl _ | (refine And.intro ?_ ?_)))

theorem c_zero48 (r : Rat) : FnH Tryz.prog 129 [r.av] [] (.bool (zeroR r)) [] := by
  refine FnH.intro lay mixed Tryz.func129 (by kernel_rfl) rfl (by kernel_rfl) rfl fun hok => ?_
  ((try dsimp only [argC, succC]); (try dsimp only [awp]); (conv => whnf))
  refine And.intro (fun h => ?_) (fun h => ?_)
  all_goals
    ((try dsimp only [awp]); (conv => whnf))
    (repeat' (first | (refine And.intro (fun _ => ?_) (fun _ => ?_) <;> (conv => whnf)) | (refine ADraw.auto (by kernel_rfl) ?_; (conv => whnf)) | (refine FinSpec.mono ?_; (conv => whnf); refine ⟨?_, rfl⟩; (conv => whnf)) | (refine And.intro (inr64 (by omega) (by omega)) ?_; (conv => whnf)) | (refine And.intro (by decide) ?_; (conv => whnf))))
  all_goals (simp_all [zeroR]; done)
end S

open Go Go.AL Go.Proofs
namespace S
set_option maxRecDepth 100000

theorem radd_arith {p x y c s va vb D : Nat} (hD : x + y + c = D) (h : s + p * c = va + vb) : s + p * (D % 4294967296) + p * 4294967296 * (D / 4294967296) = va + p * x + (vb + p * y) := by
  have e : D = D % 4294967296 + 4294967296 * (D / 4294967296) := (Nat.mod_add_div _ _).symm
  have e2 : p * D = p * (D % 4294967296) + p * (4294967296 * (D / 4294967296)) := by rw [← Nat.mul_add, ← e]
  have e3 : p * D = p * x + p * y + p * c := by rw [← hD, Nat.mul_add, Nat.mul_add]
  rw [← Nat.mul_assoc] at e2
  omega

theorem radd_fin {B m la lb a b s c : Nat} (hB : 2 ≤ B) (ha : a < B ^ la) (hb : b < B ^ lb) (hla : la < m) (hlb : lb < m) (h : s + B ^ m * c = a + b) : s = a + b := by
  have h1 : B ^ la ≤ B ^ (m - 1) := Nat.pow_le_pow_right (by omega) (by omega)
  have h2 : B ^ lb ≤ B ^ (m - 1) := Nat.pow_le_pow_right (by omega) (by omega)
  have h3 : B ^ m = B ^ (m - 1) * B := by rw [← Nat.pow_succ]; congr 1; omega
  have h4 : B ^ (m - 1) * 2 ≤ B ^ (m - 1) * B := Nat.mul_le_mul_left _ hB
  cases c with
  | zero => simpa using h
  | succ c =>
    exfalso
    have h5 : B ^ m * 1 ≤ B ^ m * (c + 1) := Nat.mul_le_mul_left _ (by omega)
    rw [h3] at h5 h
    omega

theorem c_r1Add (a b : List Int) (ha : a.length ≤ 900000) (hb : b.length ≤ 900000) : FnH Tryz.prog 222 [wL a, wL b] [] (wL (wd (val a + val b))) [] := by
  refine FnH.intro lay mixed Tryz.func222 (by kernel_rfl) rfl (by kernel_rfl) rfl fun hok => ?_
  have wa : Ws a := Ws.ok hok.1.2
  have wb : Ws b := Ws.ok hok.2.1.2
  ((try dsimp only [argC, succC]); (try dsimp only [awp]); (conv => whnf))
  obtain ⟨m, hm⟩ : ∃ m, max a.length b.length + 1 = m := ⟨_, rfl⟩
  have em : max (((a.map (AV.int .u32)).length : Nat) : Int) (((b.map (AV.int .u32)).length : Nat) : Int) + 1 = (m : Int) := by simp only [List.length_map]; omega
  refine And.intro (by rw [em]; exact inr64 (by omega) (by omega)) ?_
  rw [em]
  (conv => whnf)
  refine LoopE.of <| LoopSpec.inv (.grow 5 1 [] _ rfl (.inl ⟨rfl, rfl⟩) (.refl _ _)) (fun x : Nat × Nat × List Int => x.1 ≤ m ∧ x.2.1 ≤ 1 ∧ Ws x.2.2 ∧ x.2.2.length = x.1 ∧ val x.2.2 + 4294967296 ^ x.1 * x.2.1 = val (a.take x.1) + val (b.take x.1))
    (fun | (i, c, s) => [(15, .int .i64 i), (6, .int .u64 c), (5, .sl 1 (s.map (.int .u32)) (.own 0))]) (fun | (_, _, s) => [(0, .tok 1 s.length)])
    (fun x => m - x.1) (0, 0, []) ?_ (fun _ => rfl) ?_ ?_
  · exact ⟨Nat.zero_le _, by simp, Ws.nil, rfl, by simp [val]⟩
  · refine ⟨?_, .mk ?_ ⟨by simp, trivial⟩⟩
    · (repeat' (first | exact rfl | exact trivial | exact HWk.refl rfl | exact leRL_refl _ | (refine And.intro ?_ ?_)))
    · (repeat' (first | exact rfl | exact trivial | exact HWk.refl rfl | exact leRL_refl _ | (refine And.intro ?_ ?_)))
  rintro ⟨i, c, s⟩ ⟨hi, hc, hws, hsl, hv⟩ _
  simp only at hi hc hws hsl hv
  ((try dsimp only [awp]); (conv => whnf))
  refine And.intro (fun h => ?_) (fun h => ?_)
  · have hlt : i < m := by omega
    have ca := c_rWord a i
    have cb := c_rWord b i
    have hva := val_take_getD (l := a) (i := i)
    have hvb := val_take_getD (l := b) (i := i)
    have hxa := wa.getD (i := i)
    have hxb := wb.getD (i := i)
    generalize a.getD i 0 = x0 at *
    generalize b.getD i 0 = y0 at *
    obtain ⟨x, rfl⟩ : ∃ x : Nat, x0 = x := ⟨x0.toNat, by omega⟩
    obtain ⟨w, rfl⟩ : ∃ x : Nat, y0 = x := ⟨y0.toNat, by omega⟩
    rw [Int.toNat_natCast] at hva hvb
    ((try dsimp only [awp]); (conv => whnf))
    refine .gen _ _ (FnH.ofPure ca (leL_refl _) ⟨rfl, rfl⟩) fun _ => ?_
    ((try dsimp only [awp]); (conv => whnf))
    refine .gen _ _ (FnH.ofPure cb (leL_refl _) ⟨rfl, rfl⟩) fun _ => ?_
    (conv => whnf)
    rw [show ((x : Int) + (w : Int)) = ((x + w : Nat) : Int) from (Int.natCast_add x w).symm, wrap_u64 (n := ((x + w : Nat) : Int)) (by omega) (by omega)]
    rw [show (((x + w : Nat) : Int) + (c : Int)) = ((x + w + c : Nat) : Int) from (Int.natCast_add (x + w) c).symm, wrap_u64 (n := ((x + w + c : Nat) : Int)) (by omega) (by omega)]
    obtain ⟨D, hD⟩ : ∃ D, x + w + c = D := ⟨_, rfl⟩
    rw [hD]
    (conv => whnf)
    rw [wrapu32_mod (a := D)]
    refine ⟨by rw [List.length_map], ?_⟩
    refine ⟨by simp [maxL]; omega, by simp; omega, ?_⟩
    (conv => whnf)
    refine ⟨by decide, ?_⟩
    rw [shr_word rfl]
    (conv => whnf)
    (refine ⟨inr64 (by omega) (by omega), ?_⟩; (conv => whnf))
    refine ⟨(i + 1, D / 4294967296, s ++ [((D % 4294967296 : Nat) : Int)]), ?_, ?_, ?_⟩
    · refine ⟨hlt, (by omega : D / 4294967296 ≤ 1), hws.append (Ws.cons (by omega) Ws.nil), by simp [hsl], ?_⟩
      show val (s ++ [((D % 4294967296 : Nat) : Int)]) + 4294967296 ^ (i + 1) * (D / 4294967296) = val (a.take (i + 1)) + val (b.take (i + 1))
      have e1 : val (s ++ [((D % 4294967296 : Nat) : Int)]) = val s + 4294967296 ^ i * (D % 4294967296) := by
        rw [val_append, hsl]
        show _ + _ * ((((D % 4294967296 : Nat) : Int)).toNat + 4294967296 * 0) = _
        rw [Int.toNat_natCast]; rfl
      rw [hva, hvb, e1, Nat.pow_succ]
      exact radd_arith hD hv
    · refine ⟨?_, .mk ?_ ⟨by simp, trivial⟩⟩
      · (repeat' (first | exact rfl | exact trivial | exact HWk.refl rfl | exact leRL_refl _ | (refine And.intro ?_ ?_)))
        all_goals first | (refine leRL_of ?_; simp [strip]; done) | simp
      · (repeat' (first | exact rfl | exact trivial | exact HWk.refl rfl | exact leRL_refl _ | (refine And.intro ?_ ?_)))
        all_goals simp
    · show m - (i + 1) < m - i
      omega
  · have hil : i = m := by omega
    subst hil
    rw [List.take_of_length_le (by omega), List.take_of_length_le (by omega)] at hv
    have hfin : val s = val a + val b := radd_fin (by omega) (val_lt wa) (val_lt wb) (by omega) (by omega) hv
    have ct := c_rTrim s (by omega)
    rw [hfin] at ct
    ((try dsimp only [awp]); (conv => whnf))
    refine .pure _ _ ?_ ⟨rfl, rfl⟩ ct fun _ => ?_
    · (repeat' (first | exact rfl | exact trivial | exact HWk.refl rfl | exact leRL_refl _ | (refine And.intro ?_ ?_)))
    ((try dsimp only [awp]); (conv => whnf))
    (refine FinSpec.mono ?_; (conv => whnf); refine ⟨?_, rfl⟩; (conv => whnf))
    (repeat' (first | exact rfl | exact trivial | exact HWk.refl rfl | exact leRL_refl _ | (refine And.intro ?_ ?_)))

/-! ### the reference's sums of fractions -/

def negR (a : Rat) : Rat := formR (!(partsR a).1) (partsR a).2.1 (partsR a).2.2

def sumR (s t : Bool) (x y d : Nat) : Rat := if s = t then formR s (x + y) d else if x < y then formR t (y - x) d else formR s (x - y) d

def addR (a b : Rat) : Rat := sumR (partsR a).1 (partsR b).1 ((partsR a).2.1 * (partsR b).2.2) ((partsR b).2.1 * (partsR a).2.2) ((partsR a).2.2 * (partsR b).2.2)

theorem c_rNeg (a : Rat) (a1 : a.num.length ≤ 100000) (a2 : a.den.length ≤ 100000) : FnH Tryz.prog 221 [a.av] [] (negR a).av [] := by
  have ca := c_rParts a (by omega) (by omega)
  refine FnH.intro lay mixed Tryz.func221 (by kernel_rfl) rfl (by kernel_rfl) rfl fun hok => ?_
  have pa := partsOk (ratWs hok).1 (ratWs hok).2 (by omega) (by omega)
  have qa := partsLe (ratWs hok).1 (ratWs hok).2 a1 a2
  rw [pa.eq] at ca
  have cf := c_rFrom (!(partsR a).1) (partsR a).2.1 (partsR a).2.2 (by omega) (by omega) pa.den
  have hm : negR a = formR (!(partsR a).1) (partsR a).2.1 (partsR a).2.2 := rfl
  rw [← hm] at cf
  generalize negR a = R at *
  ((try dsimp only [argC, succC]); (try dsimp only [awp]); (conv => whnf))
  refine .pure _ _ ?_ ⟨rfl, rfl⟩ ca fun _ => ?_
  · exact leL_refl _
  ((try dsimp only [awp]); (conv => whnf))
  refine .pure _ _ ?_ ⟨rfl, rfl⟩ cf fun _ => ?_
  · (repeat' (first | exact rfl | exact trivial | exact HWk.refl rfl | exact leRL_refl _ | (refine And.intro ?_ ?_)))
  ((try dsimp only [awp]); (conv => whnf))
  (refine FinSpec.mono ?_; (conv => whnf); refine ⟨?_, rfl⟩; (conv => whnf))
  (repeat' (first | exact rfl | exact trivial | exact HWk.refl rfl | exact leRL_refl _ | (refine And.intro ?_ ?_)))
end S

open Go Go.AL Go.Proofs
namespace S
set_option maxRecDepth 100000

theorem wd_eq_nil {x : Nat} : wd x = [] ↔ x = 0 := by
  constructor
  · intro h
    apply Classical.byContradiction
    intro h0
    rw [wd_pos h0] at h; cases h
  · rintro rfl; exact wd_zero

theorem wd_len_add {x y k : Nat} (hx : (wd x).length ≤ k) (hy : (wd y).length ≤ k) : (wd (x + y)).length ≤ k + 1 := by
  refine wd_len_lt ?_
  have h1 := val_lt (wd_Ws x)
  have h2 := val_lt (wd_Ws y)
  rw [val_wd] at h1 h2
  have h3 : 4294967296 ^ (wd x).length ≤ 4294967296 ^ k := Nat.pow_le_pow_right (by omega) hx
  have h4 : 4294967296 ^ (wd y).length ≤ 4294967296 ^ k := Nat.pow_le_pow_right (by omega) hy
  rw [Nat.pow_succ]
  generalize 4294967296 ^ k = p at *
  generalize 4294967296 ^ (wd x).length = q at *
  generalize 4294967296 ^ (wd y).length = r at *
  omega

theorem c_rAdd (a b : Rat) (a1 : a.num.length ≤ 100000) (a2 : a.den.length ≤ 100000) (b1 : b.num.length ≤ 100000) (b2 : b.den.length ≤ 100000) : FnH Tryz.prog 220 [a.av, b.av] [] (addR a b).av [] := by
  have ca := c_rParts a (by omega) (by omega)
  have cb := c_rParts b (by omega) (by omega)
  refine FnH.intro lay mixed Tryz.func220 (by kernel_rfl) rfl (by kernel_rfl) rfl fun hok => ?_
  have pa := partsOk (ratWs hok).1 (ratWs hok).2 (by omega) (by omega)
  have pb := partsOk (ratWs hok.2).1 (ratWs hok.2).2 (by omega) (by omega)
  have qa := partsLe (ratWs hok).1 (ratWs hok).2 a1 a2
  have qb := partsLe (ratWs hok.2).1 (ratWs hok.2).2 b1 b2
  rw [pa.eq] at ca
  rw [pb.eq] at cb
  have hR : addR a b = sumR (partsR a).1 (partsR b).1 ((partsR a).2.1 * (partsR b).2.2) ((partsR b).2.1 * (partsR a).2.2) ((partsR a).2.2 * (partsR b).2.2) := rfl
  have m1 := c_rMul (wd (partsR a).2.1) (wd (partsR b).2.2) pa.ln pb.ld
  have m2 := c_rMul (wd (partsR b).2.1) (wd (partsR a).2.2) pb.ln pa.ld
  have m3 := c_rMul (wd (partsR a).2.2) (wd (partsR b).2.2) pa.ld pb.ld
  rw [val_wd, val_wd] at m1 m2 m3
  have l1 := wd_len_mul qa.1 qb.2
  have l2 := wd_len_mul qb.1 qa.2
  have l3 := wd_len_mul qa.2 qb.2
  have hne : (partsR a).2.2 * (partsR b).2.2 ≠ 0 := Nat.mul_ne_zero pa.den pb.den
  generalize addR a b = R at *
  generalize (partsR a).2.1 * (partsR b).2.2 = x at *
  generalize (partsR b).2.1 * (partsR a).2.2 = y at *
  generalize (partsR a).2.2 * (partsR b).2.2 = d at *
  have l4 := wd_len_add l1 l2
  have l5 := wd_len_mono (Nat.sub_le x y)
  have l6 := wd_len_mono (Nat.sub_le y x)
  have cA := c_r1Add (wd x) (wd y) (by omega) (by omega)
  have cC := c_rCmp (wd x) (wd y) (by omega) (by omega)
  have cS := c_rSub (wd x) (wd y) (by omega) (by omega) _ rfl
  have cS2 := c_rSub (wd y) (wd x) (by omega) (by omega) _ rfl
  rw [val_wd, val_wd] at cA cC cS cS2
  have cf1 := c_rFrom (partsR a).1 (x + y) d (by omega) (by omega) hne
  have cf2 := c_rFrom (partsR a).1 (x - y) d (by omega) (by omega) hne
  have cf3 := c_rFrom (partsR b).1 (y - x) d (by omega) (by omega) hne
  unfold sumR at hR
  generalize (partsR a).1 = s at *
  generalize (partsR b).1 = t at *
  ((try dsimp only [argC, succC]); (try dsimp only [awp]); (conv => whnf))
  refine .pure _ _ ?_ ⟨rfl, rfl⟩ ca fun _ => ?_
  · exact leL_refl _
  ((try dsimp only [awp]); (conv => whnf))
  refine .pure _ _ ?_ ⟨rfl, rfl⟩ cb fun _ => ?_
  · exact leL_refl _
  ((try dsimp only [awp]); (conv => whnf))
  refine .pure _ _ ?_ ⟨rfl, rfl⟩ m1 fun _ => ?_
  · exact leL_refl _
  ((try dsimp only [awp]); (conv => whnf))
  refine .pure _ _ ?_ ⟨rfl, rfl⟩ m2 fun _ => ?_
  · exact leL_refl _
  ((try dsimp only [awp]); (conv => whnf))
  refine .pure _ _ ?_ ⟨rfl, rfl⟩ m3 fun _ => ?_
  · exact leL_refl _
  ((try dsimp only [awp]); (conv => whnf))
  refine And.intro (fun hst => ?_) (fun hst => ?_)
  · have hst : s = t := by simpa using hst
    rw [if_pos hst] at hR
    subst hR
    ((try dsimp only [awp]); (conv => whnf))
    refine .pure _ _ ?_ ⟨rfl, rfl⟩ cA fun _ => ?_
    · exact leL_refl _
    ((try dsimp only [awp]); (conv => whnf))
    refine .pure _ _ ?_ ⟨rfl, rfl⟩ cf1 fun _ => ?_
    · exact leL_refl _
    ((try dsimp only [awp]); (conv => whnf))
    (refine FinSpec.mono ?_; (conv => whnf); refine ⟨?_, rfl⟩; (conv => whnf))
    (repeat' (first | exact rfl | exact trivial | exact HWk.refl rfl | exact leRL_refl _ | (refine And.intro ?_ ?_)))
  have hst : ¬ s = t := by simpa using hst
  rw [if_neg hst] at hR
  ((try dsimp only [awp]); (conv => whnf))
  refine .pure _ _ ?_ ⟨rfl, rfl⟩ cC fun _ => ?_
  · exact leL_refl _
  ((try dsimp only [awp]); (conv => whnf))
  refine And.intro (fun hxy => ?_) (fun hxy => ?_)
  · have hlt : x < y := by
      unfold cmpN at hxy
      split at hxy
      · assumption
      · split at hxy <;> omega
    rw [if_pos hlt] at hR
    subst hR
    rw [if_neg (by omega)] at cS2
    ((try dsimp only [awp]); (conv => whnf))
    refine .pure _ _ ?_ ⟨rfl, rfl⟩ cS2 fun _ => ?_
    · exact leL_refl _
    ((try dsimp only [awp]); (conv => whnf))
    refine .pure _ _ ?_ ⟨rfl, rfl⟩ cf3 fun _ => ?_
    · exact leL_refl _
    ((try dsimp only [awp]); (conv => whnf))
    (refine FinSpec.mono ?_; (conv => whnf); refine ⟨?_, rfl⟩; (conv => whnf))
    (repeat' (first | exact rfl | exact trivial | exact HWk.refl rfl | exact leRL_refl _ | (refine And.intro ?_ ?_)))
  · have hlt : ¬ x < y := by
      intro hlt
      unfold cmpN at hxy
      rw [if_pos hlt] at hxy
      omega
    rw [if_neg hlt] at hR
    subst hR
    rw [if_neg hlt] at cS
    ((try dsimp only [awp]); (conv => whnf))
    refine .pure _ _ ?_ ⟨rfl, rfl⟩ cS fun _ => ?_
    · exact leL_refl _
    ((try dsimp only [awp]); (conv => whnf))
    refine .pure _ _ ?_ ⟨rfl, rfl⟩ cf2 fun _ => ?_
    · exact leL_refl _
    ((try dsimp only [awp]); (conv => whnf))
    (refine FinSpec.mono ?_; (conv => whnf); refine ⟨?_, rfl⟩; (conv => whnf))
    (repeat' (first | exact rfl | exact trivial | exact HWk.refl rfl | exact leRL_refl _ | (refine And.intro ?_ ?_)))

def signR (r : Rat) : Int := if (partsR r).2.1 = 0 then 0 else if (partsR r).1 = true then -1 else 1

theorem c_rSign (a : Rat) (a1 : a.num.length ≤ 300000) (a2 : a.den.length ≤ 300000) : FnH Tryz.prog 125 [a.av] [] (.int .i64 (signR a)) [] := by
  have ca := c_rParts a (by omega) (by omega)
  have hR : signR a = if (partsR a).2.1 = 0 then 0 else if (partsR a).1 = true then -1 else 1 := rfl
  refine FnH.intro lay mixed Tryz.func125 (by kernel_rfl) rfl (by kernel_rfl) rfl fun hok => ?_
  have pa := partsOk (ratWs hok).1 (ratWs hok).2 (by omega) (by omega)
  rw [pa.eq] at ca
  have hz := wd_eq_nil (x := (partsR a).2.1)
  generalize signR a = R at *
  generalize (partsR a).2.1 = x at *
  generalize (partsR a).1 = s at *
  ((try dsimp only [argC, succC]); (try dsimp only [awp]); (conv => whnf))
  refine .pure _ _ ?_ ⟨rfl, rfl⟩ ca fun _ => ?_
  · exact leL_refl _
  ((try dsimp only [awp]); (conv => whnf))
  refine And.intro (fun h => ?_) (fun h => ?_)
  · have h0 : x = 0 := hz.1 (List.eq_nil_of_length_eq_zero (by simpa using h))
    rw [if_pos h0] at hR
    subst hR
    ((try dsimp only [awp]); (conv => whnf))
    (refine FinSpec.mono ?_; (conv => whnf); refine ⟨?_, rfl⟩; (conv => whnf))
    (repeat' (first | exact rfl | exact trivial | exact HWk.refl rfl | exact leRL_refl _ | (refine And.intro ?_ ?_)))
  have h0 : ¬ x = 0 := by
    intro h0
    apply h
    rw [hz.2 h0]; rfl
  rw [if_neg h0] at hR
  ((try dsimp only [awp]); (conv => whnf))
  refine And.intro (fun hs => ?_) (fun hs => ?_)
  · rw [if_pos hs] at hR
    subst hR
    ((try dsimp only [awp]); (conv => whnf))
    (refine FinSpec.mono ?_; (conv => whnf); refine ⟨?_, rfl⟩; (conv => whnf))
    (repeat' (first | exact rfl | exact trivial | exact HWk.refl rfl | exact leRL_refl _ | (refine And.intro ?_ ?_)))
  · rw [if_neg (by simp [hs])] at hR
    subst hR
    ((try dsimp only [awp]); (conv => whnf))
    (refine FinSpec.mono ?_; (conv => whnf); refine ⟨?_, rfl⟩; (conv => whnf))
    (repeat' (first | exact rfl | exact trivial | exact HWk.refl rfl | exact leRL_refl _ | (refine And.intro ?_ ?_)))

end S

open Go Go.AL Go.Proofs
namespace S
set_option maxRecDepth 100000

/-! ### the reference's signs and chances (no program in sight) -/

theorem plain_of_wd {x : Nat} (h : x ≠ 0) : plainR (wd x) = true := by
  have h1 : wd x ≠ [] := fun e => h (wd_eq_nil.1 e)
  have h2 : (wd x).getLastD 0 ≠ 0 := by
    rcases wd_Pl x with h2 | h2
    · exact absurd h2 h1
    · exact h2
  simp only [plainR, Bool.and_eq_true, decide_eq_true_eq]
  exact ⟨h1, h2⟩

theorem parts_form {neg : Bool} {x d : Nat} (hx : x ≠ 0) (hd : d ≠ 0) : partsR (formR neg x d) = (neg, x / Nat.gcd x d, d / Nat.gcd x d) ∧ x / Nat.gcd x d ≠ 0 := by
  have hg : 0 < Nat.gcd x d := Nat.gcd_pos_of_pos_left d (by omega)
  have h1 : x / Nat.gcd x d ≠ 0 := by
    have := Nat.div_pos (Nat.gcd_le_left d (by omega : 0 < x)) hg
    omega
  have h2 : d / Nat.gcd x d ≠ 0 := by
    have := Nat.div_pos (Nat.gcd_le_right x (by omega : 0 < d)) hg
    omega
  have hc : Nat.gcd (x / Nat.gcd x d) (d / Nat.gcd x d) = 1 := Nat.gcd_div_gcd_div_gcd_of_pos_left (by omega)
  unfold formR
  rw [if_neg hx]
  generalize x / Nat.gcd x d = a at *
  generalize d / Nat.gcd x d = b at *
  refine ⟨?_, h1⟩
  have hn : wd a ≠ [] := fun e => h1 (wd_eq_nil.1 e)
  have hv : valid ⟨neg, wd a, wd b⟩ = true := by
    unfold valid
    rw [if_neg (fun h => hn h.1)]
    show (plainR (wd a) && plainR (wd b) && decide (Nat.gcd (val (wd a)) (val (wd b)) = 1)) = true
    rw [plain_of_wd h1, plain_of_wd h2, val_wd, val_wd]
    simpa using hc
  unfold partsR
  rw [if_pos ⟨hv, hn⟩]
  show (neg, val (wd a), val (wd b)) = _
  rw [val_wd, val_wd]

theorem sign_form {neg : Bool} {x d : Nat} (hd : d ≠ 0) : signR (formR neg x d) = if x = 0 then 0 else if neg = true then -1 else 1 := by
  by_cases hx : x = 0
  · rw [if_pos hx]
    unfold formR
    rw [if_pos hx]
    have e : partsR ⟨false, [], []⟩ = (false, 0, 1) := if_neg (fun h => h.2 rfl)
    unfold signR
    rw [e]
    rfl
  · rw [if_neg hx]
    obtain ⟨h1, h2⟩ := parts_form (neg := neg) hx hd
    unfold signR
    rw [h1, if_neg h2]

theorem signR_eq {r : Rat} (w1 : Ws r.num) : signR r = sign r := by
  unfold signR sign partsR
  by_cases h : valid r = true ∧ r.num ≠ []
  · rw [if_pos h, if_pos h]
    obtain ⟨h1, h2⟩ := h
    unfold valid at h1
    rw [if_neg (fun h => h2 h.1)] at h1
    simp only [Bool.and_eq_true] at h1
    rw [if_neg (plain_wd h1.1.1 w1).2]
  · rw [if_neg h, if_neg h]; rfl

abbrev oneR : Rat := ⟨false, [1], [1]⟩

theorem wd_one : wd 1 = [1] := wd_small (by omega) (by omega)

theorem parts_one (neg : Bool) : partsR ⟨neg, [1], [1]⟩ = (neg, 1, 1) := by
  have h := (parts_form (neg := neg) (x := 1) (d := 1) (by omega) (by omega)).1
  have e : formR neg 1 1 = ⟨neg, [1], [1]⟩ := by
    unfold formR
    rw [if_neg (by omega)]
    simp [wd_one]
  rw [e] at h
  simpa using h

theorem neg_one : negR oneR = ⟨true, [1], [1]⟩ := by
  unfold negR
  rw [parts_one]
  unfold formR
  rw [if_neg (by simp)]
  simp [wd_one]

/-- A chance: at least 0, at most 1. -/
theorem prob_law {r : Rat} (w1 : Ws r.num) (w2 : Ws r.den) : (valid r && decide (0 ≤ sign r) && decide (signR (addR r (negR oneR)) ≤ 0)) = prob r := by
  unfold prob
  cases hv : valid r with
  | false => simp
  | true =>
    rw [neg_one]
    unfold addR
    rw [parts_one]
    have hp : partsR r = if r.num ≠ [] then (r.neg, val r.num, val r.den) else (false, 0, 1) := by
      unfold partsR; simp [hv]
    have hs : sign r = if r.num ≠ [] then (if r.neg then -1 else 1) else 0 := by
      unfold sign; simp [hv]
    have hv' := hv
    unfold valid at hv'
    by_cases hn : r.num = []
    · rw [hp, hs, if_neg (by simp [hn]), if_neg (by simp [hn])]
      have hdn : r.den = [] := by
        apply Classical.byContradiction
        intro hd
        rw [if_neg (fun h => hd h.2), hn] at hv'
        simp [plainR] at hv'
      rw [if_pos ⟨hn, hdn⟩] at hv'
      have hneg : r.neg = false := by simpa using hv'
      have e : sumR false true (0 * 1) (1 * 1) (1 * 1) = formR true 1 1 := rfl
      show (true && decide ((0 : Int) ≤ 0) && decide (signR (sumR false true (0 * 1) (1 * 1) (1 * 1)) ≤ 0)) = _
      rw [e, sign_form (by omega), hn, hdn, hneg]
      decide
    · rw [hp, hs, if_pos hn, if_pos hn]
      rw [if_neg (fun h => hn h.1)] at hv'
      simp only [Bool.and_eq_true] at hv'
      obtain ⟨e1, n1⟩ := plain_wd hv'.1.1 w1
      obtain ⟨e2, n2⟩ := plain_wd hv'.1.2 w2
      cases hneg : r.neg with
      | true => simp
      | false =>
        show (true && decide ((0 : Int) ≤ 1) && decide (signR (sumR false true (val r.num * 1) (1 * val r.den) (val r.den * 1)) ≤ 0)) = (true && !false && decide (val r.num ≤ val r.den))
        rw [Nat.mul_one, Nat.one_mul, Nat.mul_one]
        unfold sumR
        rw [if_neg (by decide)]
        by_cases hlt : val r.num < val r.den
        · rw [if_pos hlt, sign_form n2, if_neg (by omega)]
          simp; omega
        · rw [if_neg hlt, sign_form n2]
          by_cases h0 : val r.num - val r.den = 0
          · rw [if_pos h0]; simp; omega
          · rw [if_neg h0]; simp; omega
end S

open Go Go.AL Go.Proofs
namespace S
set_option maxRecDepth 100000

theorem c_rSub1 (a : Rat) (a1 : a.num.length ≤ 90000) (a2 : a.den.length ≤ 90000) : FnH Tryz.prog 213 [a.av, oneR.av] [] (addR a (negR oneR)).av [] := by
  have c1 := c_rNeg oneR (by simp) (by simp)
  have n1 : (negR oneR).num.length ≤ 90000 := by rw [neg_one]; simp
  have n2 : (negR oneR).den.length ≤ 90000 := by rw [neg_one]; simp
  have c2 := c_rAdd a (negR oneR) (by omega) (by omega) (by omega) (by omega)
  generalize addR a (negR oneR) = R at *
  generalize negR oneR = N at *
  refine FnH.intro lay mixed Tryz.func213 (by kernel_rfl) rfl (by kernel_rfl) rfl fun hok => ?_
  ((try dsimp only [argC, succC]); (try dsimp only [awp]); (conv => whnf))
  (refine ADraw.auto (by kernel_rfl) ?_; (conv => whnf))
  refine ACallP.pure _ _ ?_ ⟨rfl, rfl⟩ c1 ?_
  · exact leL_refl _
  ((try dsimp only [awp]); (conv => whnf))
  refine ACallP.pure _ _ ?_ ⟨rfl, rfl⟩ c2 ?_
  · exact leL_refl _
  ((try dsimp only [awp]); (conv => whnf))
  (refine FinSpec.mono ?_; (conv => whnf); refine ⟨?_, rfl⟩; (conv => whnf))
  (repeat' (first | exact rfl | exact trivial | exact HWk.refl rfl | exact leRL_refl _ | (refine And.intro ?_ ?_)))

theorem form_len {neg : Bool} {x d k : Nat} (hx : (wd x).length ≤ k) (hd : (wd d).length ≤ k) : (formR neg x d).num.length ≤ k ∧ (formR neg x d).den.length ≤ k := by
  unfold formR
  split
  · simp
  · have h1 := wd_len_mono (Nat.div_le_self x (Nat.gcd x d))
    have h2 := wd_len_mono (Nat.div_le_self d (Nat.gcd x d))
    exact ⟨by show (wd _).length ≤ k; omega, by show (wd _).length ≤ k; omega⟩

theorem add_len {a b : Rat} (wa : Ws a.num ∧ Ws a.den) (wb : Ws b.num ∧ Ws b.den) (a1 : a.num.length ≤ 100000) (a2 : a.den.length ≤ 100000) (b1 : b.num.length ≤ 100000) (b2 : b.den.length ≤ 100000) :
    (addR a b).num.length ≤ 200001 ∧ (addR a b).den.length ≤ 200001 := by
  have qa := partsLe wa.1 wa.2 a1 a2
  have qb := partsLe wb.1 wb.2 b1 b2
  have l1 := wd_len_mul qa.1 qb.2
  have l2 := wd_len_mul qb.1 qa.2
  have l3 := wd_len_mul qa.2 qb.2
  unfold addR sumR
  generalize (partsR a).2.1 * (partsR b).2.2 = x at *
  generalize (partsR b).2.1 * (partsR a).2.2 = y at *
  generalize (partsR a).2.2 * (partsR b).2.2 = d at *
  have l4 := wd_len_add l1 l2
  have l5 := wd_len_mono (Nat.sub_le x y)
  have l6 := wd_len_mono (Nat.sub_le y x)
  split
  · exact form_len (by omega) (by omega)
  · split
    · exact form_len (by omega) (by omega)
    · exact form_len (by omega) (by omega)

theorem c_rCmp1 (a : Rat) (a1 : a.num.length ≤ 90000) (a2 : a.den.length ≤ 90000) : FnH Tryz.prog 188 [a.av, oneR.av] [] (.int .i64 (signR (addR a (negR oneR)))) [] := by
  have c1 := c_rSub1 a a1 a2
  refine FnH.intro lay mixed Tryz.func188 (by kernel_rfl) rfl (by kernel_rfl) rfl fun hok => ?_
  have w := ratWs hok
  have hl := add_len w (b := negR oneR) (by rw [neg_one]; exact ⟨Ws.cons (by omega) Ws.nil, Ws.cons (by omega) Ws.nil⟩) (by omega) (by omega) (by rw [neg_one]; simp) (by rw [neg_one]; simp)
  have c2 := c_rSign (addR a (negR oneR)) (by omega) (by omega)
  generalize addR a (negR oneR) = R at *
  ((try dsimp only [argC, succC]); (try dsimp only [awp]); (conv => whnf))
  refine .pure _ _ ?_ ⟨rfl, rfl⟩ c1 fun _ => ?_
  · exact leL_refl _
  ((try dsimp only [awp]); (conv => whnf))
  refine .pure _ _ ?_ ⟨rfl, rfl⟩ c2 fun _ => ?_
  · exact leL_refl _
  ((try dsimp only [awp]); (conv => whnf))
  (refine FinSpec.mono ?_; (conv => whnf); refine ⟨?_, rfl⟩; (conv => whnf))
  (repeat' (first | exact rfl | exact trivial | exact HWk.refl rfl | exact leRL_refl _ | (refine And.intro ?_ ?_)))

theorem c_rProb (h1 : OneC) (a : Rat) (a1 : a.num.length ≤ 90000) (a2 : a.den.length ≤ 90000) : FnH Tryz.prog 128 [a.av] [] (.bool (prob a)) [] := by
  have cv := c_rValid a (by omega) (by omega)
  have cs := c_rSign a (by omega) (by omega)
  have cc := c_rCmp1 a a1 a2
  refine FnH.intro lay mixed Tryz.func128 (by kernel_rfl) rfl (by kernel_rfl) rfl fun hok => ?_
  have w := ratWs hok
  have hl := prob_law w.1 w.2
  rw [signR_eq w.1] at cs
  generalize signR (addR a (negR oneR)) = z at *
  rw [← hl]
  ((try dsimp only [argC, succC]); (try dsimp only [awp]); (conv => whnf))
  (refine ADraw.auto (by kernel_rfl) ?_; (conv => whnf))
  refine ACallP.pure _ _ ?_ ⟨rfl, rfl⟩ cv ?_
  · exact leL_refl _
  ((try dsimp only [awp]); (conv => whnf))
  refine And.intro (fun p1 => ?_) (fun p1 => ?_)
  · ((try dsimp only [awp]); (conv => whnf))
    refine ACallP.pure _ _ ?_ ⟨rfl, rfl⟩ cs ?_
    · exact leL_refl _
    ((try dsimp only [awp]); (conv => whnf))
    refine And.intro (fun p2 => ?_) (fun p2 => ?_)
    · ((try dsimp only [awp]); (conv => whnf))
      refine ACallP.pure _ _ ?_ ⟨rfl, rfl⟩ h1 ?_
      · exact leL_refl _
      ((try dsimp only [awp]); (conv => whnf))
      refine ACallP.pure _ _ ?_ ⟨rfl, rfl⟩ cc ?_
      · exact leL_refl _
      ((try dsimp only [awp]); (conv => whnf))
      (refine FinSpec.mono ?_; (conv => whnf); refine ⟨?_, rfl⟩; (conv => whnf))
      show _ ↔ _
      simp [p1, p2]
    · ((try dsimp only [awp]); (conv => whnf))
      (refine FinSpec.mono ?_; (conv => whnf); refine ⟨?_, rfl⟩; (conv => whnf))
      simp [p1, p2]
  · ((try dsimp only [awp]); (conv => whnf))
    (refine FinSpec.mono ?_; (conv => whnf); refine ⟨?_, rfl⟩; (conv => whnf))
    simp [p1]
end S

open Go Go.AL Go.Proofs
namespace S
set_option maxRecDepth 100000

theorem c_rates (l : List Rat) (hl : ∀ x ∈ l, x.num.length ≤ 40 ∧ x.den.length ≤ 40) (R : AV) (hR : R = .int .i64 (if l.any badRat = true then 3 else 0)) : FnH Tryz.prog 57 [.sl 3 (l.map Rat.av) .no] [] R [] := by
  refine FnH.intro lay mixed Tryz.func57 (by kernel_rfl) rfl (by kernel_rfl) rfl fun hok => ?_
  have ll : l.length ≤ 9223372036854775807 := by simpa [OkL, Ok, maxL] using hok.1.1
  have hw : ∀ x ∈ l, Ws x.num := fun x hx => by
    have := OkL_map hok.1.2 x hx
    exact Ws.ok this.2.1.2
  ((try dsimp only [argC, succC]); (try dsimp only [awp]); (conv => whnf))
  refine LoopE.of <| LoopSpec.inv (.refl _ _) (fun (i : Nat) => i ≤ l.length ∧ (l.take i).any badRat = false) (fun (i : Nat) => [(7, .int .i64 i)]) (fun _ => _) (fun (i : Nat) => l.length - i) 0 ?_ (fun _ => rfl) ?_ ?_
  · exact ⟨Nat.zero_le _, by simp⟩
  · (repeat' (first | exact rfl | exact trivial | exact HWk.refl rfl | exact leRL_refl _ | (refine And.intro ?_ ?_)))
  rintro i ⟨hi, hn⟩ _
  ((try dsimp only [awp]); (conv => whnf))
  refine And.intro (fun h => ?_) (fun h => ?_)
  · have hlt : i < l.length := by simpa using h
    have hmem := List.getElem_mem hlt
    have hall := any_take (p := badRat) hlt
    obtain ⟨h1, h2⟩ := hl _ hmem
    have w1 := hw _ hmem
    ((try dsimp only [awp]); (conv => whnf))
    refine aidx hlt ?_
    generalize l[i] = x at *
    have cv := c_rValid x (by omega) (by omega)
    have cs := c_rSign x (by omega) (by omega)
    rw [signR_eq w1] at cs
    have bad : badRat x = true → R = .int .i64 3 := fun h => by rw [hR, if_pos (List.any_eq_true.2 ⟨x, hmem, h⟩)]
    ((try dsimp only [awp]); (conv => whnf))
    refine .pure _ _ ?_ ⟨rfl, rfl⟩ cv fun _ => ?_
    · exact leL_refl _
    ((try dsimp only [awp]); (conv => whnf))
    refine And.intro (fun p1 => ?_) (fun p1 => ?_)
    · have p1 : valid x = false := by simpa using p1
      obtain rfl := bad (by simp [badRat, p1])
      ((try dsimp only [awp]); (conv => whnf))
      (refine FinSpec.mono ?_; (conv => whnf); refine ⟨?_, rfl⟩; (conv => whnf))
      (repeat' (first | exact rfl | exact trivial | exact HWk.refl rfl | exact leRL_refl _ | (refine And.intro ?_ ?_)))
    · have p1 : valid x = true := by simpa using p1
      ((try dsimp only [awp]); (conv => whnf))
      refine .pure _ _ ?_ ⟨rfl, rfl⟩ cs fun _ => ?_
      · exact leL_refl _
      ((try dsimp only [awp]); (conv => whnf))
      refine And.intro (fun p2 => ?_) (fun p2 => ?_)
      · obtain rfl := bad (by simp [badRat, p2])
        ((try dsimp only [awp]); (conv => whnf))
        (refine FinSpec.mono ?_; (conv => whnf); refine ⟨?_, rfl⟩; (conv => whnf))
        (repeat' (first | exact rfl | exact trivial | exact HWk.refl rfl | exact leRL_refl _ | (refine And.intro ?_ ?_)))
      · ((try dsimp only [awp]); (conv => whnf))
        (refine ⟨inr64 (by omega) (by omega), ?_⟩; (conv => whnf))
        refine ⟨i + 1, ?_, ?_, ?_⟩
        · exact ⟨hlt, by rw [hall, hn]; simp [badRat, p1]; omega⟩
        · refine ⟨?_, .mk ?_ trivial⟩
          · (repeat' (first | exact rfl | exact trivial | exact HWk.refl rfl | exact leRL_refl _ | (refine And.intro ?_ ?_)))
          · (repeat' (first | exact rfl | exact trivial | exact HWk.refl rfl | exact leRL_refl _ | (refine And.intro ?_ ?_)))
        · omega
  · have hil : i = l.length := by have : ¬ i < l.length := by simpa using h
                                  omega
    subst hil
    rw [List.take_length] at hn
    obtain rfl : R = .int .i64 0 := by rw [hR, if_neg (by simp [hn])]
    ((try dsimp only [awp]); (conv => whnf))
    (refine FinSpec.mono ?_; (conv => whnf); refine ⟨?_, rfl⟩; (conv => whnf))
    (repeat' (first | exact rfl | exact trivial | exact HWk.refl rfl | exact leRL_refl _ | (refine And.intro ?_ ?_)))
end S

open Go Go.AL Go.Proofs
namespace S
set_option maxRecDepth 100000

theorem c_of (d : Dyn) (V : List Bool) (f : Nat) (a : Int) (hv : 0 ≤ d.vars ∧ d.vars ≤ 24) (hf : f < 2 ^ 63) (ha : 0 ≤ a ∧ a < d.vars + (V.length : Int)) : FnH Tryz.prog 64 [d.av, bL V, .int .i64 f, .int .i64 a] [] (.bool ((evs d.vars.toNat f ++ V).getD a.toNat false)) [] := by
  refine FnH.intro lay mixed Tryz.func64 (by kernel_rfl) rfl (by kernel_rfl) rfl fun hok => ?_
  have hvl : V.length ≤ 9223372036854775807 := by have := hok.2.1.1; simpa [maxL] using this
  obtain ⟨n, rfl⟩ : ∃ n : Nat, a = n := ⟨a.toNat, by omega⟩
  ((try dsimp only [argC, succC]); (try dsimp only [awp]); (conv => whnf))
  refine And.intro (fun h => ?_) (fun h => ?_)
  · have e : (evs d.vars.toNat f ++ V).getD n false = f.testBit n := by
      rw [← evs_get (n := d.vars.toNat) (by omega), List.getD_eq_getElem?_getD, List.getD_eq_getElem?_getD, List.getElem?_append_left (by rw [evs_len]; omega)]
    rw [Int.toNat_natCast, e]
    ((try dsimp only [awp]); (conv => whnf))
    refine ⟨by omega, ?_⟩
    (conv => whnf)
    rw [bit_test hf (by omega)]
    ((try dsimp only [awp]); (conv => whnf))
    (refine FinSpec.mono ?_; (conv => whnf); refine ⟨?_, rfl⟩; (conv => whnf))
    cases f.testBit n <;> simp
  · have e : (evs d.vars.toNat f ++ V).getD n false = V.getD (n - d.vars.toNat) false := by
      rw [List.getD_eq_getElem?_getD, List.getD_eq_getElem?_getD, List.getElem?_append_right (by rw [evs_len]; omega), evs_len]
    rw [Int.toNat_natCast, e]
    ((try dsimp only [awp]); (conv => whnf))
    (refine ⟨inr64 (by omega) (by omega), ?_⟩; (conv => whnf))
    refine aidxN' false (i := n - d.vars.toNat) (by omega) (show n - d.vars.toNat < V.length by omega) ?_
    ((try dsimp only [awp]); (conv => whnf))
    (refine FinSpec.mono ?_; (conv => whnf); refine ⟨?_, rfl⟩; (conv => whnf))
    (repeat' (first | exact rfl | exact trivial | exact HWk.refl rfl | exact leRL_refl _ | (refine And.intro ?_ ?_)))
end S

open Go Go.AL Go.Proofs
namespace S
set_option maxRecDepth 100000

/-- The values of the arguments. -/
def argV (v : List Bool) (l : List Int) : List Bool := l.map fun a => v.getD a.toNat false

theorem argV_take {v : List Bool} {l : List Int} {i : Nat} (h : i < l.length) : argV v (l.take (i + 1)) = argV v (l.take i) ++ [v.getD (l[i]).toNat false] := by
  unfold argV
  rw [List.take_add_one, List.getElem?_eq_getElem h, List.map_append]; rfl

theorem count_take' {v : List Bool} {l : List Int} {i : Nat} (h : i < l.length) : count v (l.take (i + 1)) = count v (l.take i) + (if v.getD (l[i]).toNat false then 1 else 0) := by
  rw [List.take_add_one, List.getElem?_eq_getElem h, count_append]; simp [count]

theorem count_nonneg {v : List Bool} : ∀ (l : List Int), 0 ≤ count v l
  | [] => by simp [count]
  | a :: l => by
    have := count_nonneg (v := v) l
    simp only [count]
    split <;> omega


theorem c_trues (d : Dyn) (V : List Bool) (f : Nat) (g : Gate) (hv : 0 ≤ d.vars ∧ d.vars ≤ 24) (hf : f < 2 ^ 63) (hl : g.args.length ≤ 16) (ha : ∀ a ∈ g.args, 0 ≤ a ∧ a < d.vars + (V.length : Int)) :
    FnH Tryz.prog 66 [d.av, bL V, .int .i64 f, g.av] [] (.tup [bL (argV (evs d.vars.toNat f ++ V) g.args), .int .i64 (count (evs d.vars.toNat f ++ V) g.args)]) [] := by
  have co := fun a h => c_of d V f a hv hf h
  generalize evs d.vars.toNat f ++ V = W at *
  refine FnH.intro lay mixed Tryz.func66 (by kernel_rfl) rfl (by kernel_rfl) rfl fun hok => ?_
  ((try dsimp only [argC, succC]); (try dsimp only [awp]); (conv => whnf))
  refine LoopE.of <| LoopSpec.inv (.grow 10 1 [] _ rfl (.inl ⟨rfl, rfl⟩) (.refl _ _)) (fun i : Nat => i ≤ g.args.length)
    (fun i => [(18, .int .i64 i), (11, .int .i64 (count W (g.args.take i))), (10, .sl 1 ((argV W (g.args.take i)).map .bool) (.own 2))]) (fun i => [(2, .tok 1 i), (1, .box g.av), (0, .box d.av)])
    (fun i => g.args.length - i) 0 ?_ (fun _ => rfl) ?_ ?_
  · exact Nat.zero_le _
  · refine ⟨?_, .mk ?_ ⟨by simp, by simp, by simp, trivial⟩⟩
    · (repeat' (first | exact rfl | exact trivial | exact HWk.refl rfl | exact leRL_refl _ | (refine And.intro ?_ ?_)))
    · (repeat' (first | exact rfl | exact trivial | exact HWk.refl rfl | exact leRL_refl _ | (refine And.intro ?_ ?_)))
  intro i hi _
  ((try dsimp only [awp]); (conv => whnf))
  refine And.intro (fun h => ?_) (fun h => ?_)
  · have hlt : i < g.args.length := by simpa using h
    have hm := List.getElem_mem hlt
    have ea := argV_take (v := W) hlt
    have ec := count_take' (v := W) hlt
    have hlen : (argV W (g.args.take i)).length = i := by simp [argV]; omega
    have hcb := (count_all (v := W) (g.args.take i)).1
    have hc0 := count_nonneg (v := W) (g.args.take i)
    have htl : (g.args.take i).length = i := by simp; omega
    ((try dsimp only [awp]); (conv => whnf))
    refine aidx hlt ?_
    have cA := co _ (ha _ hm)
    generalize g.args[i] = a at *
    ((try dsimp only [awp]); (conv => whnf))
    refine .gen _ _ (FnH.ofPure cA (leL_refl _) ⟨rfl, rfl⟩) fun _ => ?_
    generalize count W (g.args.take i) = c at *
    generalize argV W (g.args.take i) = l at *
    ((try dsimp only [awp]); (conv => whnf))
    refine And.intro (fun hb => ?_) (fun hb => ?_)
    · rw [hb] at ea ec
      ((try dsimp only [awp]); (conv => whnf))
      try (refine ⟨inr64 (by omega) (by omega), ?_⟩; (conv => whnf))
      refine ⟨by rw [List.length_map]; omega, .mk (by simp [maxL]; omega) (by simp; omega) ?_⟩
      ((try dsimp only [awp]); (conv => whnf))
      (refine ⟨inr64 (by omega) (by omega), ?_⟩; (conv => whnf))
      refine ⟨i + 1, ?_, ?_, ?_⟩
      · exact hlt
      · rw [ea, ec]
        refine ⟨?_, .mk ?_ ⟨by simp, by simp, by simp, trivial⟩⟩
        · (repeat' (first | exact rfl | exact trivial | exact HWk.refl rfl | exact leRL_refl _ | (refine And.intro ?_ ?_)))
          all_goals first | (refine leRL_of ?_; rw [hb]; simp [strip]; done) | (refine leRL_of ?_; simp [strip]; done) | simp
        · (repeat' (first | exact rfl | exact trivial | exact HWk.refl rfl | exact leRL_refl _ | (refine And.intro ?_ ?_)))
          all_goals first | (simp; omega) | simp
      · omega
    · rw [hb] at ea ec
      ((try dsimp only [awp]); (conv => whnf))
      try (refine ⟨inr64 (by omega) (by omega), ?_⟩; (conv => whnf))
      refine ⟨by rw [List.length_map]; omega, .mk (by simp [maxL]; omega) (by simp; omega) ?_⟩
      ((try dsimp only [awp]); (conv => whnf))
      (refine ⟨inr64 (by omega) (by omega), ?_⟩; (conv => whnf))
      refine ⟨i + 1, ?_, ?_, ?_⟩
      · exact hlt
      · rw [ea, ec]
        refine ⟨?_, .mk ?_ ⟨by simp, by simp, by simp, trivial⟩⟩
        · (repeat' (first | exact rfl | exact trivial | exact HWk.refl rfl | exact leRL_refl _ | (refine And.intro ?_ ?_)))
          all_goals first | (refine leRL_of ?_; rw [hb]; simp [strip]; done) | (refine leRL_of ?_; simp [strip]; done) | simp
        · (repeat' (first | exact rfl | exact trivial | exact HWk.refl rfl | exact leRL_refl _ | (refine And.intro ?_ ?_)))
          all_goals first | (simp; omega) | simp
      · omega
  · have hil : i = g.args.length := by have : ¬ i < g.args.length := by simpa using h
                                       omega
    subst hil
    rw [List.take_length]
    ((try dsimp only [awp]); (conv => whnf))
    (refine FinSpec.mono ?_; (conv => whnf); refine ⟨?_, rfl⟩; (conv => whnf))
    (repeat' (first | exact rfl | exact trivial | exact HWk.refl rfl | exact leRL_refl _ | (refine And.intro ?_ ?_)))
end S

open Go Go.AL Go.Proofs
namespace S
set_option maxRecDepth 100000

theorem c_value48 (g : Gate) (W : List Bool) (memo : Int) (hl : g.args.length ≤ 16) (h8 : g.kind = 8 → g.args ≠ []) : FnH Tryz.prog 67 [g.av, bL (argV W g.args), .int .i64 (count W g.args), .int .i64 memo] [] (.bool (gval g W memo)) [] := by
  have hc0 := count_le W g.args
  have el : (((argV W g.args).map AV.bool).length : Int) = (g.args.length : Int) := by simp [argV]
  refine FnH.intro lay mixed Tryz.func67 (by kernel_rfl) rfl (by kernel_rfl) rfl fun hok => ?_
  ((try dsimp only [argC, succC]); (try dsimp only [awp]); (conv => whnf))
  refine And.intro (fun k1 => ?_) (fun k1 => ?_)
  · ((try dsimp only [awp]); (conv => whnf))
    (refine FinSpec.mono ?_; (conv => whnf); refine ⟨?_, rfl⟩; (conv => whnf))
    simp [gval, k1]
  ((try dsimp only [awp]); (conv => whnf))
  refine And.intro (fun k2 => ?_) (fun k2 => ?_)
  · ((try dsimp only [awp]); (conv => whnf))
    (refine FinSpec.mono ?_; (conv => whnf); refine ⟨?_, rfl⟩; (conv => whnf))
    simp [gval, k2]
  ((try dsimp only [awp]); (conv => whnf))
  refine And.intro (fun k3 => ?_) (fun k3 => ?_)
  · ((try dsimp only [awp]); (conv => whnf))
    (refine FinSpec.mono ?_; (conv => whnf); refine ⟨?_, rfl⟩; (conv => whnf))
    simp [gval, k3]
  ((try dsimp only [awp]); (conv => whnf))
  refine And.intro (fun k4 => ?_) (fun k4 => ?_)
  · ((try dsimp only [awp]); (conv => whnf))
    refine And.intro (by decide) ?_
    rw [Int.tmod_eq_emod_of_nonneg hc0.1]
    ((try dsimp only [awp]); (conv => whnf))
    (refine FinSpec.mono ?_; (conv => whnf); refine ⟨?_, rfl⟩; (conv => whnf))
    simp [gval, k4]
  ((try dsimp only [awp]); (conv => whnf))
  refine And.intro (fun k6 => ?_) (fun k6 => ?_)
  · ((try dsimp only [awp]); (conv => whnf))
    refine And.intro (fun c1 => ?_) (fun c1 => ?_)
    · rw [el] at c1
      ((try dsimp only [awp]); (conv => whnf))
      (refine FinSpec.mono ?_; (conv => whnf); refine ⟨?_, rfl⟩; (conv => whnf))
      simp [gval, k6, c1]
    · rw [el] at c1
      ((try dsimp only [awp]); (conv => whnf))
      (refine FinSpec.mono ?_; (conv => whnf); refine ⟨?_, rfl⟩; (conv => whnf))
      simp [gval, k6, c1]
  ((try dsimp only [awp]); (conv => whnf))
  refine And.intro (fun k8 => ?_) (fun k8 => ?_)
  · have h0 : 0 < g.args.length := List.length_pos_iff.2 (h8 k8)
    ((try dsimp only [awp]); (conv => whnf))
    refine aidx0 false (by simp [argV]; omega) ?_
    ((try dsimp only [awp]); (conv => whnf))
    (refine FinSpec.mono ?_; (conv => whnf); refine ⟨?_, rfl⟩; (conv => whnf))
    have e : (argV W g.args).getD 0 false = W.getD (g.args.getD 0 0).toNat false := by
      unfold argV
      rw [List.getD_eq_getElem?_getD, List.getElem?_map, List.getElem?_eq_getElem h0, List.getD_eq_getElem?_getD (l := g.args), List.getElem?_eq_getElem h0]
      rfl
    rw [e]
    simp [gval, k8]
  ((try dsimp only [awp]); (conv => whnf))
  (refine FinSpec.mono ?_; (conv => whnf); refine ⟨?_, rfl⟩; (conv => whnf))
  rw [el]
  simp [gval, k1, k2, k3, k4, k6, k8]
end S
