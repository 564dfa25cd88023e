/-
  Contracts of functions of the program, over the logic of the texts before. Nothing is assumed.
-/
import Derived.Test.YtkhinhepefmdhaaGreatT4

open Go Go.AL Go.Proofs
namespace S
set_option maxRecDepth 100000

def count (v : List Bool) : List Int → Int
  | [] => 0
  | a :: l => (if v.getD a.toNat false then 1 else 0) + count v l

theorem count_append (v : List Bool) : ∀ l m, count v (l ++ m) = count v l + count v m
  | [], m => by simp [count]
  | a :: l, m => by simp only [List.cons_append, count, count_append v l m]; omega

theorem count_take {v : List Bool} {l : List Int} {i : Nat} (h : i < l.length) : count v (l.take (i + 1)) = count v (l.take i) + (if v.getD (l[i]).toNat false then 1 else 0) := by
  rw [List.take_add_one, List.getElem?_eq_getElem h, count_append]; simp [count]

theorem count_le (v : List Bool) : ∀ l, 0 ≤ count v l ∧ count v l ≤ l.length
  | [] => by simp [count]
  | a :: l => by have := count_le v l; simp only [count, List.length_cons]; split <;> omega

/-- The value of a gate. -/
def gval (g : Gate) (v : List Bool) (memo : Int) : Bool :=
  let n := count v g.args
  if g.kind = 1 then decide (n > 0)
  else if g.kind = 2 then decide (n ≥ g.k)
  else if g.kind = 3 then decide (n = 0)
  else if g.kind = 4 then decide (n % 2 = 1)
  else if g.kind = 6 then decide (n = g.args.length ∧ memo = 0)
  else if g.kind = 8 then v.getD (g.args.getD 0 0).toNat false
  else decide (n = g.args.length)

theorem c_value (g : Gate) (v : List Bool) (memo : Int) (ha : ∀ a ∈ g.args, 0 ≤ a ∧ a < (v.length : Int)) (h8 : g.kind = 8 → g.args ≠ []) : FnH Tryz.prog 123 [g.av, bL v, .int .i64 memo] [] (.bool (gval g v memo)) [] := by
  refine FnH.intro lay mixed Tryz.func123 (by kernel_rfl) rfl (by kernel_rfl) rfl fun hok => ?_
  have hl : g.args.length ≤ 9223372036854775807 := by simpa [OkL, Ok, maxL] using hok.1.2.2.1.1
  have hc0 := count_le v g.args
  (conv => whnf)
  refine LoopE.of <| LoopSpec.inv (.refl _ _) (fun (i : Nat) => i ≤ g.args.length) (fun (i : Nat) => [(13, .int .i64 i), (7, .int .i64 (count v (g.args.take i)))]) (fun _ => _) (fun (i : Nat) => g.args.length - i) 0 ?_ (fun _ => rfl) ?_ ?_
  · exact Nat.zero_le _
  · (repeat' (first | exact rfl | exact trivial | exact HWk.refl rfl | exact leRL_refl _ | (refine And.intro ?_ ?_)))
  intro i hi _
  (conv => whnf)
  refine And.intro (fun h => ?_) (fun h => ?_)
  · have hlt : i < g.args.length := by simpa using h
    have hc := count_le v (g.args.take i)
    rw [List.length_take] at hc
    have ha' := ha g.args[i] (List.getElem_mem hlt)
    (conv => whnf)
    refine aidx hlt ?_
    (conv => whnf)
    refine aidxD false ha' ?_
    (conv => whnf)
    refine And.intro (fun h => ?_) (fun h => ?_)
    · (conv => whnf)
      (refine ⟨inr64 (by omega) (by omega), ?_⟩; (conv => whnf))
      (refine ⟨inr64 (by omega) (by omega), ?_⟩; (conv => whnf))
      refine ⟨i + 1, ?_, ?_, ?_⟩
      · exact hlt
      · (repeat' (first | exact rfl | exact trivial | exact HWk.refl rfl | exact leRL_refl _ | (refine And.intro ?_ ?_)))
        rw [count_take hlt, if_pos h]
      · omega
    · (conv => whnf)
      (refine ⟨inr64 (by omega) (by omega), ?_⟩; (conv => whnf))
      refine ⟨i + 1, ?_, ?_, ?_⟩
      · exact hlt
      · (repeat' (first | exact rfl | exact trivial | exact HWk.refl rfl | exact leRL_refl _ | (refine And.intro ?_ ?_)))
        rw [count_take hlt, h]; simp
      · omega
  · have hlt : i = g.args.length := by have : ¬ i < g.args.length := by simpa using h
                                       omega
    subst hlt
    rw [List.take_length]
    (conv => whnf)
    (repeat' (first | (refine And.intro (fun _ => ?_) (fun _ => ?_) <;> (conv => whnf)) | (refine ADraw.auto (by kernel_rfl) ?_; (conv => whnf)) | (refine FinSpec.mono ?_; (conv => whnf); refine ⟨?_, rfl⟩; (conv => whnf)) | (refine And.intro (inr64 (by omega) (by omega)) ?_; (conv => whnf)) | (refine And.intro (by decide) ?_; (conv => whnf))))
    all_goals first | (simp_all [gval]; done) | skip
    · rw [Int.tmod_eq_emod_of_nonneg hc0.1]; simp_all [gval]
    · rename_i h8'
      have h0 : 0 < g.args.length := List.length_pos_iff.2 (h8 h8')
      refine aidx0 0 h0 ?_
      have ha' := ha (g.args.getD 0 0) (by rw [List.getD_eq_getElem?_getD, List.getElem?_eq_getElem h0]; exact List.getElem_mem h0)
      (conv => whnf)
      refine aidxD false ha' ?_
      (conv => whnf)
      (repeat' (first | (refine And.intro (fun _ => ?_) (fun _ => ?_) <;> (conv => whnf)) | (refine ADraw.auto (by kernel_rfl) ?_; (conv => whnf)) | (refine FinSpec.mono ?_; (conv => whnf); refine ⟨?_, rfl⟩; (conv => whnf)) | (refine And.intro (inr64 (by omega) (by omega)) ?_; (conv => whnf)) | (refine And.intro (by decide) ?_; (conv => whnf))))
      simp_all [gval]

/-- The values of the events. -/
def evs (n : Nat) (f : Nat) : List Bool := (List.range n).map f.testBit

theorem set_ev {f : Nat → Bool} {n i : Nat} {A : AV} (hi : i < n) (hA : leR A (.bool (f i))) :
    leRL (((List.range i).map (fun j => AV.bool (f j)) ++ List.replicate (n - i) AV.ff).set i A) ((List.range (i + 1)).map (fun j => AV.bool (f j)) ++ List.replicate (n - (i + 1)) AV.ff) := by
  have e1 : n - i = (n - (i + 1)) + 1 := by omega
  have key : ∀ (l : List AV) (r : List AV), leRL (l ++ A :: r) (l ++ AV.bool (f i) :: r) := by
    intro l r
    induction l with
    | nil => exact ⟨hA, leRL_refl r⟩
    | cons x l ih => exact ⟨leR_refl x, ih⟩
  rw [e1, List.replicate_succ, List.set_append_right _ _ (by simp)]
  simp only [List.length_map, List.length_range, Nat.sub_self, List.set_cons_zero]
  rw [List.range_succ, List.map_append, List.append_assoc]
  exact key _ _

theorem c_events (d : Dyn) (f : Nat) (hf : f < 2 ^ 63) (h0 : 0 ≤ d.vars ∧ d.vars ≤ 24 ∧ d.gates.length ≤ 100) : FnH Tryz.prog 122 [d.av, .int .i64 f] [] (.sl 1 ((evs d.vars.toNat f).map .bool) (.own 2)) [(2, .tok 1 d.vars.toNat)] := by
  refine FnH.intro lay mixed Tryz.func122 (by kernel_rfl) rfl (by kernel_rfl) rfl fun hok => ?_
  (conv => whnf)
  have hlen : (d.gates.map Gate.av).length = d.gates.length := by simp
  refine ⟨inr64 (by omega) (by omega), ?_⟩
  (conv => whnf)
  refine ⟨by refine ⟨by omega, by omega, by simp; omega, by simp; omega⟩, ?_⟩
  refine .wr ?_
  (conv => whnf)
  refine LoopE.of <| LoopSpec.inv (.refl _ _) (fun i : Nat => i ≤ d.vars.toNat) (fun i => [(18, .int .i64 i)]) (fun i => [(1, .arr 1 (d.vars + ((d.gates.map Gate.av).length : Int)).toNat ((List.range i).map (fun j => AV.bool (f.testBit j)) ++ List.replicate (d.vars.toNat - i) .ff)), (0, .box d.av)]) (fun i => d.vars.toNat - i) 0 ?_ (fun _ => rfl) ?_ ?_
  · exact Nat.zero_le _
  · refine ⟨by (repeat' (first | exact rfl | exact trivial | exact HWk.refl rfl | exact leRL_refl _ | (refine And.intro ?_ ?_))), .mk ?_ ?_⟩
    · (repeat' (first | exact rfl | exact trivial | exact HWk.refl rfl | exact leRL_refl _ | (refine And.intro ?_ ?_)))
    · exact ⟨by simp, by simp, trivial⟩
  intro i hi _
  (conv => whnf)
  refine And.intro (fun h => ?_) (fun h => ?_)
  · have hlt : i < d.vars.toNat := by omega
    (conv => whnf)
    refine ⟨by omega, ?_⟩
    (conv => whnf)
    refine ⟨⟨by omega, by omega⟩, ?_⟩
    (conv => whnf)
    refine ⟨by simp; omega, rfl, ?_⟩
    (conv => whnf)
    (refine ⟨inr64 (by omega) (by omega), ?_⟩; (conv => whnf))
    refine ⟨i + 1, ?_, ?_, ?_⟩
    · exact hlt
    · refine ⟨by (repeat' (first | exact rfl | exact trivial | exact HWk.refl rfl | exact leRL_refl _ | (refine And.intro ?_ ?_))), .mk ?_ ?_⟩
      · (repeat' (first | exact rfl | exact trivial | exact HWk.refl rfl | exact leRL_refl _ | (refine And.intro ?_ ?_)))
        · simp only [Nat.zero_add, Int.toNat_natCast]
          refine set_ev hlt ?_
          show _ ↔ _
          rw [bit_test hf (by omega)]
          cases f.testBit i <;> simp
      · exact ⟨by simp, by simp, trivial⟩
    · omega
  · have hlt : i = d.vars.toNat := by omega
    subst hlt
    (conv => whnf)
    refine ⟨⟨_, _, .keep 4 1 d.vars.toNat _ 1 _ rfl rfl ?_ (.refl _ _), ?_⟩⟩
    · simp
    (conv => whnf)
    refine ⟨⟨rfl, ?_, rfl⟩, rfl, by simp [nextId], .mk ?_ ?_⟩
    · refine leRL_of ?_
      simp [evs]
      rw [List.take_of_length_le (by simp)]; rfl
    · (repeat' (first | exact rfl | exact trivial | exact HWk.refl rfl | exact leRL_refl _ | (refine And.intro ?_ ?_)))
    · exact ⟨by simp, trivial⟩
end S

open Go Go.AL Go.Proofs
namespace S
set_option maxRecDepth 100000

theorem foldl_take {α β : Type} {f : β → α → β} {s : β} {l : List α} {i : Nat} (h : i < l.length) : (l.take (i + 1)).foldl f s = f ((l.take i).foldl f s) l[i] := by
  rw [List.take_add_one, List.getElem?_eq_getElem h, List.foldl_append]; rfl

/-- The first index, or -1. -/
def idxP {α : Type} (p : α → Bool) : List α → Int
  | [] => -1
  | x :: l => if p x then 0 else (match idxP p l with | -1 => -1 | n => n + 1)

theorem idxP_cases {α : Type} (p : α → Bool) : ∀ l : List α, (idxP p l = -1 ∧ ∀ x ∈ l, p x = false) ∨ ∃ (i : Nat) (h : i < l.length), idxP p l = i ∧ p l[i] = true ∧ ∀ (j : Nat) (hj : j < i), p l[j] = false
  | [] => .inl ⟨rfl, by simp⟩
  | x :: l => by
    simp only [idxP]
    cases hx : p x with
    | true => exact .inr ⟨0, by simp, by simp, by simpa using hx, by simp⟩
    | false =>
      rcases idxP_cases p l with ⟨h1, h2⟩ | ⟨i, h, h1, h2, h3⟩
      · refine .inl ⟨by simp [h1], ?_⟩
        intro y hy
        rcases List.mem_cons.1 hy with rfl | hy
        · exact hx
        · exact h2 y hy
      · refine .inr ⟨i + 1, by simpa using h, ?_, by simpa using h2, ?_⟩
        · simp only [Bool.false_eq_true, if_false]
          rw [h1]
          split
          · rename_i h4; omega
          · simp
        · intro j hj
          cases j with
          | zero => simpa using hx
          | succ j => simpa using h3 j (by omega)

theorem idxP_some {α : Type} {p : α → Bool} {l : List α} {i : Nat} (h : i < l.length) (hp : p l[i] = true) (hn : ∀ (j : Nat) (hj : j < i), p l[j] = false) : idxP p l = i := by
  rcases idxP_cases p l with ⟨_, h2⟩ | ⟨k, hk, h1, h2, h3⟩
  · rw [h2 _ (List.getElem_mem h)] at hp; cases hp
  · rcases Nat.lt_trichotomy i k with hik | rfl | hik
    · rw [h3 i hik] at hp; cases hp
    · exact h1
    · rw [hn k hik] at h2; cases h2

theorem idxP_none {α : Type} {p : α → Bool} {l : List α} (hn : ∀ (j : Nat) (hj : j < l.length), p l[j] = false) : idxP p l = -1 := by
  rcases idxP_cases p l with ⟨h1, _⟩ | ⟨k, hk, _, h2, _⟩
  · exact h1
  · rw [hn k hk] at h2; cases h2

theorem c_indexFuncInt (l : List Int) (g : Nat) (cap : List AV) (p : Int → Bool) (H : Heap) (hg : ∀ x ∈ l, FnH Tryz.prog g (.int .i64 x :: cap) H (.bool (p x)) H) :
    FnH Tryz.prog 203 [iL l, .fn g cap] H (.int .i64 (idxP p l)) H := by
  refine FnH.intro lay mixed Tryz.func203 (by kernel_rfl) rfl (by kernel_rfl) rfl fun hok => ?_
  have hl : l.length ≤ 9223372036854775807 := by simpa [OkL, Ok, maxL] using hok.1.1
  (conv => whnf)
  refine LoopE.of <| LoopSpec.inv (.refl _ _) (fun (i : Nat) => i ≤ l.length ∧ ∀ (j : Nat) (hj : j < l.length), j < i → p l[j] = false) (fun (i : Nat) => [(8, .int .i64 i)]) (fun _ => _) (fun (i : Nat) => l.length - i) 0 ?_ (fun _ => rfl) ?_ ?_
  · exact ⟨Nat.zero_le _, by omega⟩
  · (repeat' (first | exact rfl | exact trivial | exact HWk.refl rfl | exact leRL_refl _ | (refine And.intro ?_ ?_)))
  rintro i ⟨hi, hn⟩ _
  (conv => whnf)
  refine And.intro (fun h => ?_) (fun h => ?_)
  · have hlt : i < l.length := by simpa using h
    (conv => whnf)
    refine aidx hlt ?_
    (conv => whnf)
    refine .gen _ _ (hg _ (List.getElem_mem hlt)) fun _ => ?_
    (conv => whnf)
    refine And.intro (fun h => ?_) (fun h => ?_)
    · (conv => whnf)
      (refine FinSpec.same ?_; (conv => whnf); refine ⟨?_, rfl⟩; (conv => whnf))
      exact ⟨rfl, (idxP_some hlt h fun j hj => hn j (by omega) hj).symm⟩
    · (conv => whnf)
      (refine ⟨inr64 (by omega) (by omega), ?_⟩; (conv => whnf))
      refine ⟨i + 1, ?_, ?_, ?_⟩
      · refine ⟨hlt, fun j hj hji => ?_⟩
        by_cases hji' : j = i
        · subst hji'; exact h
        · exact hn j hj (by omega)
      · (repeat' (first | exact rfl | exact trivial | exact HWk.refl rfl | exact leRL_refl _ | (refine And.intro ?_ ?_)))
      · omega
  · have hlt : i = l.length := by have : ¬ i < l.length := by simpa using h
                                  omega
    subst hlt
    (conv => whnf)
    (refine FinSpec.same ?_; (conv => whnf); refine ⟨?_, rfl⟩; (conv => whnf))
    exact ⟨rfl, (idxP_none fun j hj => hn j hj hj).symm⟩
end S

open Go Go.AL Go.Proofs
namespace S
set_option maxRecDepth 100000

theorem leRL_snoc {x y : AV} (hx : leR x y) : ∀ {l m : List AV}, leRL l m → leRL (l ++ [x]) (m ++ [y])
  | [], [], _ => ⟨hx, trivial⟩
  | [], _ :: _, h => by simp only [leRL] at h
  | _ :: _, [], h => by simp only [leRL] at h
  | a :: l, b :: m, h => by simp only [leRL] at h; exact ⟨h.1, leRL_snoc hx h.2⟩

def bstep (v : List Bool) (s : Bool × Bool × Int) (a : Int) : Bool × Bool × Int :=
  if v.getD a.toNat false then (true, s.2.1, if s.2.1 then 1 else s.2.2) else (s.1, true, s.2.2)

def brokenR (g : Gate) (v : List Bool) (old : Int) : Int :=
  let s := g.args.foldl (bstep v) (false, false, old)
  if s.1 then s.2.2 else 0

theorem c_broken (g : Gate) (v : List Bool) (old : Int) (ha : ∀ a ∈ g.args, 0 ≤ a ∧ a < (v.length : Int)) : FnH Tryz.prog 180 [g.av, bL v, .int .i64 old] [] (.int .i64 (brokenR g v old)) [] := by
  refine FnH.intro lay mixed Tryz.func180 (by kernel_rfl) rfl (by kernel_rfl) rfl fun hok => ?_
  have hl : g.args.length ≤ 9223372036854775807 := by simpa [OkL, Ok, maxL] using hok.1.2.2.1.1
  (conv => whnf)
  refine LoopE.of <| LoopSpec.inv (.refl _ _) (fun (i : Nat) => i ≤ g.args.length) (fun (i : Nat) => [(16, .int .i64 i), (7, .bool ((g.args.take i).foldl (bstep v) (false, false, old)).1), (8, .bool ((g.args.take i).foldl (bstep v) (false, false, old)).2.1), (9, .int .i64 ((g.args.take i).foldl (bstep v) (false, false, old)).2.2)]) (fun _ => _) (fun (i : Nat) => g.args.length - i) 0 ?_ (fun _ => rfl) ?_ ?_
  · exact Nat.zero_le _
  · (repeat' (first | exact rfl | exact trivial | exact HWk.refl rfl | exact leRL_refl _ | (refine And.intro ?_ ?_)))
  intro i hi _
  (conv => whnf)
  refine And.intro (fun h => ?_) (fun h => ?_)
  · have hlt : i < g.args.length := by simpa using h
    have ha' := ha g.args[i] (List.getElem_mem hlt)
    have hs := foldl_take (f := bstep v) (s := (false, false, old)) hlt
    generalize hs0 : (g.args.take i).foldl (bstep v) (false, false, old) = s at *
    obtain ⟨s1, s2, s3⟩ := s
    (conv => whnf)
    refine aidx hlt ?_
    (conv => whnf)
    refine aidxD false ha' ?_
    (conv => whnf)
    refine And.intro (fun h => ?_) (fun h => ?_)
    · rw [bstep, if_pos h] at hs
      (conv => whnf)
      refine And.intro (fun h => ?_) (fun h => ?_)
      · (conv => whnf)
        (refine ⟨inr64 (by omega) (by omega), ?_⟩; (conv => whnf))
        refine ⟨i + 1, ?_, ?_, ?_⟩
        · exact hlt
        · rw [hs]; (repeat' (first | exact rfl | exact trivial | exact HWk.refl rfl | exact leRL_refl _ | (refine And.intro ?_ ?_)))
          simp_all
        · omega
      · (conv => whnf)
        (refine ⟨inr64 (by omega) (by omega), ?_⟩; (conv => whnf))
        refine ⟨i + 1, ?_, ?_, ?_⟩
        · exact hlt
        · rw [hs]; (repeat' (first | exact rfl | exact trivial | exact HWk.refl rfl | exact leRL_refl _ | (refine And.intro ?_ ?_)))
          simp_all
        · omega
    · rw [bstep, h, if_neg (by simp)] at hs
      (conv => whnf)
      (refine ⟨inr64 (by omega) (by omega), ?_⟩; (conv => whnf))
      refine ⟨i + 1, ?_, ?_, ?_⟩
      · exact hlt
      · rw [hs]; (repeat' (first | exact rfl | exact trivial | exact HWk.refl rfl | exact leRL_refl _ | (refine And.intro ?_ ?_)))
      · omega
  · have hlt : i = g.args.length := by have : ¬ i < g.args.length := by simpa using h
                                       omega
    subst hlt
    rw [List.take_length]
    (conv => whnf)
    (repeat' (first | (refine And.intro (fun _ => ?_) (fun _ => ?_) <;> (conv => whnf)) | (refine ADraw.auto (by kernel_rfl) ?_; (conv => whnf)) | (refine FinSpec.mono ?_; (conv => whnf); refine ⟨?_, rfl⟩; (conv => whnf)) | (refine And.intro (inr64 (by omega) (by omega)) ?_; (conv => whnf)) | (refine And.intro (by decide) ?_; (conv => whnf))))
    all_goals simp_all [brokenR]

theorem c_active1 (v : List Bool) (a : Int) (ha : 0 ≤ a ∧ a < (v.length : Int)) (H : Heap) (k : Nat) (hk : hget H k = some (.box (bL v))) :
    FnH Tryz.prog 204 [.int .i64 a, .ptr k [] 0] H (.bool (!v.getD a.toNat false)) H := by
  refine FnH.intro lay mixed Tryz.func204 (by kernel_rfl) rfl (by kernel_rfl) rfl fun hok => ?_
  (conv => whnf)
  refine hgetC_iff.2 ⟨_, hk, ?_⟩
  (conv => whnf)
  refine aidxD false ha ?_
  (conv => whnf)
  (refine FinSpec.same ?_; (conv => whnf); refine ⟨?_, rfl⟩; (conv => whnf))

def activeR (g : Gate) (v : List Bool) (old : Int) : Int :=
  if 0 ≤ old ∧ v.getD (g.args.getD old.toNat 0).toNat false = false then old else idxP (fun a => !v.getD a.toNat false) g.args

theorem getD_mem {α : Type} {l : List α} {i : Nat} {d : α} (h : i < l.length) : l.getD i d ∈ l := by
  rw [List.getD_eq_getElem?_getD, List.getElem?_eq_getElem h]; exact List.getElem_mem h

theorem c_active (g : Gate) (v : List Bool) (old : Int) (ha : ∀ a ∈ g.args, 0 ≤ a ∧ a < (v.length : Int)) (ho : old < (g.args.length : Int)) : FnH Tryz.prog 181 [g.av, bL v, .int .i64 old] [] (.int .i64 (activeR g v old)) [] := by
  refine FnH.intro lay mixed Tryz.func181 (by kernel_rfl) rfl (by kernel_rfl) rfl fun hok => ?_
  (conv => whnf)
  (refine ADraw.auto (by kernel_rfl) ?_; (conv => whnf))
  refine And.intro (fun h => ?_) (fun h => ?_)
  · have hx : 0 ≤ old ∧ old < (g.args.length : Int) := ⟨h, ho⟩
    have ha' := ha (g.args.getD old.toNat 0) (getD_mem (by omega))
    (conv => whnf)
    refine aidxD 0 hx ?_
    (conv => whnf)
    refine aidxD false ha' ?_
    (conv => whnf)
    refine And.intro (fun h => ?_) (fun h => ?_)
    · (conv => whnf)
      (refine FinSpec.mono ?_; (conv => whnf); refine ⟨?_, rfl⟩; (conv => whnf))
      refine ⟨rfl, ?_⟩
      rw [activeR, if_pos ⟨hx.1, by simpa using h⟩]
    · (conv => whnf)
      refine .gen _ _ (c_indexFuncInt g.args 204 [.ptr 1 [] 0] (fun a => !v.getD a.toNat false) _ fun x hx => c_active1 v x (ha x hx) _ 1 rfl) fun _ => ?_
      (conv => whnf)
      (refine FinSpec.mono ?_; (conv => whnf); refine ⟨?_, rfl⟩; (conv => whnf))
      refine ⟨rfl, ?_⟩
      rw [activeR, if_neg (by simp only [Bool.not_eq_false'] at h; rw [h]; simp)]
  · (conv => whnf)
    refine .gen _ _ (c_indexFuncInt g.args 204 [.ptr 1 [] 0] (fun a => !v.getD a.toNat false) _ fun x hx => c_active1 v x (ha x hx) _ 1 rfl) fun _ => ?_
    (conv => whnf)
    (refine FinSpec.mono ?_; (conv => whnf); refine ⟨?_, rfl⟩; (conv => whnf))
    refine ⟨rfl, ?_⟩
    rw [activeR, if_neg (by omega)]

def memoR (g : Gate) (v : List Bool) (old : Int) : Int :=
  if g.kind = 6 then brokenR g v old else if g.kind = 7 then activeR g v old else 0

def ostep (old : List Int) (s : List Int × List Bool) (g : Gate) : List Int × List Bool :=
  let m := memoR g s.2 (old.getD s.1.length 0)
  (s.1 ++ [m], s.2 ++ [gval g s.2 m])

/-- Memories and values for a set of failed events. -/
def onceR (d : Dyn) (f : Nat) (old : List Int) : List Int × List Bool := d.gates.foldl (ostep old) ([], evs d.vars.toNat f)

theorem ostep_len (old : List Int) : ∀ (l : List Gate) (s : List Int × List Bool), (l.foldl (ostep old) s).1.length = s.1.length + l.length ∧ (l.foldl (ostep old) s).2.length = s.2.length + l.length
  | [], s => by simp
  | g :: l, s => by
    have := ostep_len old l (ostep old s g)
    simp only [List.foldl_cons, List.length_cons]
    simp only [ostep, List.length_append, List.length_singleton] at this ⊢
    omega

theorem evs_len (n f : Nat) : (evs n f).length = n := by simp [evs]

/-- What is known of a tree that is accepted. -/
structure TreeOk (d : Dyn) : Prop where
  vars : 1 ≤ d.vars ∧ d.vars ≤ 24
  gates : d.gates.length ≤ 64
  args : ∀ (i : Nat) (h : i < d.gates.length), ∀ a ∈ (d.gates[i]).args, 0 ≤ a ∧ a < d.vars + i
  two : ∀ (i : Nat) (h : i < d.gates.length), (d.gates[i]).kind = 8 → 2 ≤ (d.gates[i]).args.length
  dep : ∀ (i : Nat) (h : i < d.gates.length), (d.gates[i]).kind = 8 → ∀ a ∈ (d.gates[i]).args.drop 1, a < d.vars
  sp : ∀ (i : Nat) (h : i < d.gates.length), (d.gates[i]).kind = 7 → 2 ≤ (d.gates[i]).args.length
  spl : ∀ (i : Nat) (h : i < d.gates.length), (d.gates[i]).kind = 7 → ∀ a ∈ (d.gates[i]).args, a < d.vars
  top : 0 ≤ d.top ∧ d.top < d.vars + d.gates.length

/-- What is known of memories. -/
structure MemoOk (d : Dyn) (memo : List Int) : Prop where
  len : memo.length = d.gates.length
  sp : ∀ (i : Nat) (h : i < d.gates.length), (d.gates[i]).kind = 7 → memo.getD i 0 < (d.gates[i]).args.length


theorem c_once (d : Dyn) (f : Nat) (old : List Int) (hf : f < 2 ^ 63) (hd : TreeOk d) (ho : MemoOk d old) :
    FnH Tryz.prog 114 [d.av, .int .i64 f, iL old] [] (.tup [iL (onceR d f old).1, bL (onceR d f old).2]) [] := by
  have hv := hd.vars
  have hg := hd.gates
  refine FnH.intro lay mixed Tryz.func114 (by kernel_rfl) rfl (by kernel_rfl) rfl fun hok => ?_
  (conv => whnf)
  refine .gen _ _ (FnH.frame [] (c_events d f hf (by omega)) ⟨rfl, rfl, rfl, rfl⟩ trivial (leL_refl _)) fun _ => ?_
  (conv => whnf)
  have hl : (d.gates.map Gate.av).length = d.gates.length := by simp
  refine LoopE.of <| LoopSpec.inv (.grow 9 1 [] _ rfl (.inl ⟨rfl, rfl⟩) (.refl _ _)) (fun i : Nat => i ≤ d.gates.length)
    (fun i => [(19, .int .i64 i), (8, .sl 1 ((((d.gates.take i).foldl (ostep old) ([], evs d.vars.toNat f)).2).map .bool) (.own 3)), (9, .sl 1 ((((d.gates.take i).foldl (ostep old) ([], evs d.vars.toNat f)).1).map (.int .i64)) (.own 4))])
    (fun i => [(4, .tok 1 i), (3, .tok 1 (d.vars.toNat + i)), (0, .box d.av)]) (fun i => d.gates.length - i) 0 ?_ (fun _ => rfl) ?_ ?_
  · exact Nat.zero_le _
  · refine ⟨by (repeat' (first | exact rfl | exact trivial | exact HWk.refl rfl | exact leRL_refl _ | (refine And.intro ?_ ?_))), .mk ?_ ?_⟩
    · (repeat' (first | exact rfl | exact trivial | exact HWk.refl rfl | exact leRL_refl _ | (refine And.intro ?_ ?_)))
    · exact ⟨by simp, by simp, by simp, trivial⟩
  intro i hi _
  (conv => whnf)
  refine And.intro (fun h => ?_) (fun h => ?_)
  · have hlt : i < d.gates.length := by omega
    have hs := foldl_take (f := ostep old) (s := ([], evs d.vars.toNat f)) hlt
    have hlen := ostep_len old (d.gates.take i) ([], evs d.vars.toNat f)
    rw [List.length_take, evs_len, Nat.min_eq_left hi] at hlen
    have ha := hd.args i hlt
    generalize hg0 : d.gates[i] = g at *
    generalize hs0 : (d.gates.take i).foldl (ostep old) ([], evs d.vars.toNat f) = s at *
    obtain ⟨s1, s2⟩ := s
    simp only [List.length_nil, Nat.zero_add] at hlen
    have ha2 : ∀ a ∈ g.args, 0 ≤ a ∧ a < (s2.length : Int) := fun a h => by have := ha a h; omega
    (conv => whnf)
    refine aidx hlt ?_
    rw [hg0]
    have hx : (i : Int) < (old.length : Int) := by rw [ho.len]; omega
    have h8 : g.kind = 8 → g.args ≠ [] := fun hk e => by have := hd.two i hlt (by rw [hg0]; exact hk); rw [hg0, e] at this; simp at this
    (conv => whnf)
    refine And.intro (fun h => ?_) (fun h => ?_)
    · have hm : memoR g s2 (old.getD s1.length 0) = brokenR g s2 (old.getD i 0) := by rw [memoR, if_pos h, hlen.1]
      rw [ostep, hm] at hs
      (conv => whnf)
      (refine ADraw.auto (by kernel_rfl) ?_; (conv => whnf))
      refine aidxD 0 ⟨by omega, hx⟩ ?_
      (conv => whnf)
      refine ACallP.pure _ _ ?_ ⟨rfl, rfl⟩ (c_broken g s2 (old.getD i 0) ha2) ?_
      · (repeat' (first | exact rfl | exact trivial | exact HWk.refl rfl | exact leRL_refl _ | (refine And.intro ?_ ?_)))
      (conv => whnf)
      refine ⟨by simp; omega, ?_⟩
      (refine ⟨by simp [maxL] <;> omega, by simp <;> omega, ?_⟩; (conv => whnf))
      refine .pure _ _ ?_ ⟨rfl, rfl⟩ (c_value g s2 (brokenR g s2 (old.getD i 0)) ha2 h8) fun _ => ?_
      · (repeat' (first | exact rfl | exact trivial | exact HWk.refl rfl | exact leRL_refl _ | (refine And.intro ?_ ?_)))
      (conv => whnf)
      refine ⟨by simp; omega, ?_⟩
      (refine ⟨by simp [maxL] <;> omega, by simp <;> omega, ?_⟩; (conv => whnf))
      (refine ⟨inr64 (by omega) (by omega), ?_⟩; (conv => whnf))
      refine ⟨i + 1, ?_, ?_, ?_⟩
      · exact hlt
      · rw [hs]
        refine ⟨?_, .mk ?_ ?_⟩
        · (repeat' (first | exact rfl | exact trivial | exact HWk.refl rfl | exact leRL_refl _ | (refine And.intro ?_ ?_)))
          · refine leRL_of ?_
            simp [strip]
          · refine leRL_of ?_
            simp [strip]
        · (repeat' (first | exact rfl | exact trivial | exact HWk.refl rfl | exact leRL_refl _ | (refine And.intro ?_ ?_)))
          · simp; omega
          · simp; omega
        · exact ⟨by simp, by simp, by simp, trivial⟩
      · omega
    · (conv => whnf)
      refine And.intro (fun h => ?_) (fun h => ?_)
      · have hm : memoR g s2 (old.getD s1.length 0) = activeR g s2 (old.getD i 0) := by rw [memoR, if_neg (by omega), if_pos (by omega), hlen.1]
        rw [ostep, hm] at hs
        have hsp := ho.sp i hlt (by rw [hg0]; assumption)
        rw [hg0] at hsp
        (conv => whnf)
        (refine ADraw.auto (by kernel_rfl) ?_; (conv => whnf))
        refine aidxD 0 ⟨by omega, hx⟩ ?_
        (conv => whnf)
        refine ACallP.pure _ _ ?_ ⟨rfl, rfl⟩ (c_active g s2 (old.getD i 0) ha2 hsp) ?_
        · (repeat' (first | exact rfl | exact trivial | exact HWk.refl rfl | exact leRL_refl _ | (refine And.intro ?_ ?_)))
        (conv => whnf)
        refine ⟨by simp; omega, ?_⟩
        (refine ⟨by simp [maxL] <;> omega, by simp <;> omega, ?_⟩; (conv => whnf))
        refine .pure _ _ ?_ ⟨rfl, rfl⟩ (c_value g s2 (activeR g s2 (old.getD i 0)) ha2 h8) fun _ => ?_
        · (repeat' (first | exact rfl | exact trivial | exact HWk.refl rfl | exact leRL_refl _ | (refine And.intro ?_ ?_)))
        (conv => whnf)
        refine ⟨by simp; omega, ?_⟩
        (refine ⟨by simp [maxL] <;> omega, by simp <;> omega, ?_⟩; (conv => whnf))
        (refine ⟨inr64 (by omega) (by omega), ?_⟩; (conv => whnf))
        refine ⟨i + 1, ?_, ?_, ?_⟩
        · exact hlt
        · rw [hs]
          refine ⟨?_, .mk ?_ ?_⟩
          · (repeat' (first | exact rfl | exact trivial | exact HWk.refl rfl | exact leRL_refl _ | (refine And.intro ?_ ?_)))
            · refine leRL_of ?_
              simp [strip]
            · refine leRL_of ?_
              simp [strip]
          · (repeat' (first | exact rfl | exact trivial | exact HWk.refl rfl | exact leRL_refl _ | (refine And.intro ?_ ?_)))
            · simp; omega
            · simp; omega
          · exact ⟨by simp, by simp, by simp, trivial⟩
        · omega
      · have hm : memoR g s2 (old.getD s1.length 0) = 0 := by rw [memoR, if_neg (by omega), if_neg (by omega)]
        rw [ostep, hm] at hs
        (conv => whnf)
        refine ⟨by simp; omega, ?_⟩
        (refine ⟨by simp [maxL] <;> omega, by simp <;> omega, ?_⟩; (conv => whnf))
        refine .pure _ _ ?_ ⟨rfl, rfl⟩ (c_value g s2 0 ha2 h8) fun _ => ?_
        · (repeat' (first | exact rfl | exact trivial | exact HWk.refl rfl | exact leRL_refl _ | (refine And.intro ?_ ?_)))
        (conv => whnf)
        refine ⟨by simp; omega, ?_⟩
        (refine ⟨by simp [maxL] <;> omega, by simp <;> omega, ?_⟩; (conv => whnf))
        (refine ⟨inr64 (by omega) (by omega), ?_⟩; (conv => whnf))
        refine ⟨i + 1, ?_, ?_, ?_⟩
        · exact hlt
        · rw [hs]
          refine ⟨?_, .mk ?_ ?_⟩
          · (repeat' (first | exact rfl | exact trivial | exact HWk.refl rfl | exact leRL_refl _ | (refine And.intro ?_ ?_)))
            · refine leRL_of ?_
              simp [strip]
            · refine leRL_of ?_
              simp [strip]
          · (repeat' (first | exact rfl | exact trivial | exact HWk.refl rfl | exact leRL_refl _ | (refine And.intro ?_ ?_)))
            · simp; omega
            · simp; omega
          · exact ⟨by simp, by simp, by simp, trivial⟩
        · omega
  · have hlt : i = d.gates.length := by omega
    subst hlt
    rw [List.take_length]
    (conv => whnf)
    (refine FinSpec.mono ?_; (conv => whnf); refine ⟨?_, rfl⟩; (conv => whnf))
    (repeat' (first | exact rfl | exact trivial | exact HWk.refl rfl | exact leRL_refl _ | (refine And.intro ?_ ?_)))
end S

open Go Go.AL Go.Proofs
namespace S
set_option maxRecDepth 100000

/-- Events that are struck. -/
def orAll (l : List Int) (f : Nat) : Nat := l.foldl (fun x a => x ||| 2 ^ a.toNat) f

def strike1 (v : List Bool) (x : Nat) (g : Gate) : Nat :=
  if g.kind = 8 ∧ v.getD (g.args.getD 0 0).toNat false = true then orAll (g.args.drop 1) x else x

def strike (d : Dyn) (v : List Bool) (f : Nat) : Nat := d.gates.foldl (strike1 v) f

def settleN (d : Dyn) (old : List Int) : Nat → Nat → St
  | 0, f => ⟨f, (onceR d f old).1⟩
  | n + 1, f => if strike d (onceR d f old).2 f = f then ⟨f, (onceR d f old).1⟩ else settleN d old n (strike d (onceR d f old).2 f)

/-- The state that follows. -/
def settleR (d : Dyn) (f : Nat) (old : List Int) : St := settleN d old (2 ^ d.vars.toNat - f) f

theorem orAll_le : ∀ (l : List Int) (f : Nat), f ≤ orAll l f
  | [], f => Nat.le_refl _
  | a :: l, f => Nat.le_trans (Nat.left_le_or) (orAll_le l (f ||| 2 ^ a.toNat))

theorem orAll_lt {n : Nat} : ∀ (l : List Int) (f : Nat), (∀ a ∈ l, 0 ≤ a ∧ a < (n : Int)) → f < 2 ^ n → orAll l f < 2 ^ n
  | [], f, _, h => h
  | a :: l, f, ha, h => by
    refine orAll_lt l _ (fun b hb => ha b (by simp [hb])) ?_
    refine Nat.or_lt_two_pow h (Nat.pow_lt_pow_right (by omega) ?_)
    have := ha a (by simp); omega

theorem strike_le (v : List Bool) : ∀ (l : List Gate) (f : Nat), f ≤ l.foldl (strike1 v) f
  | [], f => Nat.le_refl _
  | g :: l, f => by
    refine Nat.le_trans ?_ (strike_le v l (strike1 v f g))
    unfold strike1; split
    · exact orAll_le _ _
    · exact Nat.le_refl _

theorem strike1_lt {n : Nat} {v : List Bool} {g : Gate} {f : Nat} (hg : g.kind = 8 → ∀ a ∈ g.args.drop 1, 0 ≤ a ∧ a < (n : Int)) (h : f < 2 ^ n) : strike1 v f g < 2 ^ n := by
  unfold strike1; split
  · rename_i h8; exact orAll_lt _ _ (hg h8.1) h
  · exact h

theorem strikeL_lt {n : Nat} {v : List Bool} : ∀ (l : List Gate) (f : Nat), (∀ g ∈ l, g.kind = 8 → ∀ a ∈ g.args.drop 1, 0 ≤ a ∧ a < (n : Int)) → f < 2 ^ n → l.foldl (strike1 v) f < 2 ^ n
  | [], f, _, h => h
  | g :: l, f, hg, h => strikeL_lt l _ (fun x hx => hg x (by simp [hx])) (strike1_lt (hg g (by simp)) h)

theorem TreeOk.drop {d : Dyn} (hd : TreeOk d) : ∀ g ∈ d.gates, g.kind = 8 → ∀ a ∈ g.args.drop 1, 0 ≤ a ∧ a < (d.vars.toNat : Int) := by
  intro g hg h8 a ha
  obtain ⟨i, hi, rfl⟩ := List.getElem_of_mem hg
  have h1 := hd.args i hi a (List.mem_of_mem_drop ha)
  have h2 := hd.dep i hi h8 a ha
  omega

theorem strike_lt {d : Dyn} (hd : TreeOk d) {v : List Bool} {f : Nat} (h : f < 2 ^ d.vars.toNat) : strike d v f < 2 ^ d.vars.toNat := strikeL_lt _ _ hd.drop h

theorem settleN_fuel {d : Dyn} (hd : TreeOk d) {old : List Int} : ∀ (n m f : Nat), f < 2 ^ d.vars.toNat → 2 ^ d.vars.toNat - f ≤ n → 2 ^ d.vars.toNat - f ≤ m → settleN d old n f = settleN d old m f := by
  intro n
  induction n with
  | zero => intro m f h1 h2 h3; omega
  | succ n ih =>
    intro m f h1 h2 h3
    cases m with
    | zero => omega
    | succ m =>
      simp only [settleN]
      split
      · rfl
      · rename_i hne
        have h4 := strike_le (onceR d f old).2 d.gates f
        have h4 : f ≤ strike d (onceR d f old).2 f := h4
        exact ih m _ (strike_lt hd h1) (by omega) (by omega)

theorem settleR_step {d : Dyn} (hd : TreeOk d) {f : Nat} {old : List Int} (hf : f < 2 ^ d.vars.toNat) :
    settleR d f old = if strike d (onceR d f old).2 f = f then ⟨f, (onceR d f old).1⟩ else settleR d (strike d (onceR d f old).2 f) old := by
  unfold settleR
  obtain ⟨n, hn⟩ : ∃ n, 2 ^ d.vars.toNat - f = n + 1 := ⟨2 ^ d.vars.toNat - f - 1, by omega⟩
  rw [hn]
  simp only [settleN]
  split
  · rfl
  · rename_i hne
    have h4 : f ≤ strike d (onceR d f old).2 f := strike_le _ _ _
    have h5 := strike_lt hd (v := (onceR d f old).2) hf
    exact settleN_fuel hd _ _ _ h5 (by omega) (Nat.le_refl _)

theorem pow_vars {d : Dyn} (hd : TreeOk d) : 2 ^ d.vars.toNat ≤ 16777216 := by
  have := hd.vars
  exact Nat.le_trans (Nat.pow_le_pow_right (by omega) (show d.vars.toNat ≤ 24 by omega)) (by decide)

theorem orAll_take {l : List Int} {i x : Nat} (h : i < l.length) : orAll (l.take (i + 1)) x = orAll (l.take i) x ||| 2 ^ (l[i]).toNat := by
  unfold orAll; rw [foldl_take h]

theorem c_settle (d : Dyn) (f : Nat) (old : List Int) (hf : f < 2 ^ d.vars.toNat) (hd : TreeOk d) (ho : MemoOk d old) :
    FnH Tryz.prog 50 [d.av, .int .i64 f, iL old] [] (settleR d f old).av [] := by
  have hv := hd.vars
  have hg := hd.gates
  have hp := pow_vars hd
  refine FnH.intro lay mixed Tryz.func50 (by kernel_rfl) rfl (by kernel_rfl) rfl fun hok => ?_
  (conv => whnf)
  refine LoopE.of <| LoopSpec.inv (.refl _ _) (fun (x : Nat) => x < 2 ^ d.vars.toNat ∧ settleR d x old = settleR d f old) (fun (x : Nat) => [(1, .int .i64 x)]) (fun _ => _) (fun (x : Nat) => 2 ^ d.vars.toNat - x) f ?_ (fun _ => rfl) ?_ ?_
  · exact ⟨hf, rfl⟩
  · (repeat' (first | exact rfl | exact trivial | exact HWk.refl rfl | exact leRL_refl _ | (refine And.intro ?_ ?_)))
  rintro x ⟨hx, hs⟩ _
  (conv => whnf)
  refine .pure _ _ ?_ ⟨rfl, rfl⟩ (c_once d x old (by omega) hd ho) fun _ => ?_
  · (repeat' (first | exact rfl | exact trivial | exact HWk.refl rfl | exact leRL_refl _ | (refine And.intro ?_ ?_)))
  have hlen : (onceR d x old).2.length = d.vars.toNat + d.gates.length := by
    unfold onceR; rw [(ostep_len old d.gates _).2, evs_len]
  rw [settleR_step hd hx] at hs
  generalize (onceR d x old).1 = o1 at *
  generalize (onceR d x old).2 = o2 at *
  (conv => whnf)
  have hl : (d.gates.map Gate.av).length = d.gates.length := by simp
  refine LoopE.of <| LoopSpec.inv (.refl _ _) (fun (i : Nat) => i ≤ d.gates.length) (fun (i : Nat) => [(25, .int .i64 i), (9, .int .i64 ((d.gates.take i).foldl (strike1 o2) x : Nat))]) (fun _ => _) (fun (i : Nat) => d.gates.length - i) 0 ?_ (fun _ => rfl) ?_ ?_
  · exact Nat.zero_le _
  · (repeat' (first | exact rfl | exact trivial | exact HWk.refl rfl | exact leRL_refl _ | (refine And.intro ?_ ?_)))
  intro i hi _
  (conv => whnf)
  refine And.intro (fun h => ?_) (fun h => ?_)
  · have hlt : i < d.gates.length := by omega
    have hst := foldl_take (f := strike1 o2) (s := x) hlt
    have hlt2 := strikeL_lt (n := d.vars.toNat) (v := o2) (d.gates.take i) x (fun g hg => hd.drop g (List.mem_of_mem_take hg)) hx
    generalize hy : (d.gates.take i).foldl (strike1 o2) x = y at *
    have ha := hd.args i hlt
    have h2 := hd.two i hlt
    have hdr := hd.drop _ (List.getElem_mem hlt)
    generalize hg0 : d.gates[i] = g at *
    (conv => whnf)
    refine aidx hlt ?_
    rw [hg0]
    (conv => whnf)
    refine And.intro (fun h => ?_) (fun h => ?_)
    · rename_i h8
      have hlen0 : 0 < g.args.length := by have := h2 h; omega
      have ha0 := ha (g.args.getD 0 0) (getD_mem hlen0)
      (conv => whnf)
      refine aidx0 0 hlen0 ?_
      (conv => whnf)
      refine aidxD false ⟨ha0.1, by omega⟩ ?_
      (conv => whnf)
      refine And.intro (fun h => ?_) (fun h => ?_)
      · rename_i hk
        have hst1 : strike1 o2 y g = orAll (g.args.drop 1) y := by unfold strike1; rw [if_pos ⟨hk, h⟩]
        rw [hst1] at hst
        (conv => whnf)
        refine ⟨⟨by omega, by simp; omega, by simp⟩, ?_⟩
        have hcut : ((g.args.map (AV.int .i64)).drop (1 : Int).toNat).take (((g.args.map (AV.int .i64)).length : Int).toNat - (1 : Int).toNat) = (g.args.drop 1).map (AV.int .i64) := by
          rw [List.take_of_length_le (by simp), ← List.map_drop]; rfl
        rw [hcut]
        (conv => whnf)
        refine LoopE.of <| LoopSpec.inv (.refl _ _) (fun (j : Nat) => j ≤ (g.args.drop 1).length) (fun (j : Nat) => [(45, .int .i64 j), (9, .int .i64 (orAll ((g.args.drop 1).take j) y : Nat))]) (fun _ => _) (fun (j : Nat) => (g.args.drop 1).length - j) 0 ?_ (fun _ => rfl) ?_ ?_
        · exact Nat.zero_le _
        · (repeat' (first | exact rfl | exact trivial | exact HWk.refl rfl | exact leRL_refl _ | (refine And.intro ?_ ?_)))
        intro j hj _
        (conv => whnf)
        refine And.intro (fun h => ?_) (fun h => ?_)
        · have hjlt : j < (g.args.drop 1).length := by simp only [List.length_map] at h; omega
          have hor := orAll_take (x := y) hjlt
          have hor2 := orAll_lt (n := d.vars.toNat) ((g.args.drop 1).take j) y (fun a ha => hdr hk a (List.mem_of_mem_take ha)) hlt2
          have ha1 := hdr hk _ (List.getElem_mem hjlt)
          obtain ⟨a', ha'⟩ : ∃ a' : Nat, (g.args.drop 1)[j] = a' := ⟨((g.args.drop 1)[j]).toNat, by omega⟩
          rw [ha'] at hor ha1
          (conv => whnf)
          refine aidx hjlt ?_
          rw [ha']
          (conv => whnf)
          refine ⟨by omega, ?_⟩
          rw [shl_one (by omega)]
          have hpa : 2 ^ a' < 2 ^ 24 := Nat.pow_lt_pow_right (by omega) (by omega)
          (conv => whnf)
          rw [or_nat (by omega) (by omega)]
          (conv => whnf)
          have : (g.args.drop 1).length ≤ g.args.length := by simp
          have hal : g.args.length ≤ 9223372036854775807 := by rw [← hg0]; exact Gate.okArgs (Dyn.okGates hok.1 _ (List.getElem_mem hlt))
          (refine ⟨inr64 (by omega) (by omega), ?_⟩; (conv => whnf))
          refine ⟨j + 1, ?_, ?_, ?_⟩
          · exact hjlt
          · rw [hor]; (repeat' (first | exact rfl | exact trivial | exact HWk.refl rfl | exact leRL_refl _ | (refine And.intro ?_ ?_)))
          · omega
        · have hjlt : j = (g.args.drop 1).length := by simp only [List.length_map] at h; omega
          subst hjlt
          rw [List.take_length]
          (conv => whnf)
          (refine ⟨inr64 (by omega) (by omega), ?_⟩; (conv => whnf))
          refine ⟨i + 1, ?_, ?_, ?_⟩
          · exact hlt
          · refine ⟨?_, .mk ?_ ?_⟩
            · rw [hst]; (repeat' (first | exact rfl | exact trivial | exact HWk.refl rfl | exact leRL_refl _ | (refine And.intro ?_ ?_)))
            · (repeat' (first | exact rfl | exact trivial | exact HWk.refl rfl | exact leRL_refl _ | (refine And.intro ?_ ?_)))
            · exact ⟨by simp, by simp, trivial⟩
          · omega
      · have hst1 : strike1 o2 y g = y := by unfold strike1; rw [if_neg (by rw [h]; simp)]
        rw [hst1] at hst
        (conv => whnf)
        (refine ⟨inr64 (by omega) (by omega), ?_⟩; (conv => whnf))
        refine ⟨i + 1, ?_, ?_, ?_⟩
        · exact hlt
        · refine ⟨?_, .mk ?_ ?_⟩
          · rw [hst]; (repeat' (first | exact rfl | exact trivial | exact HWk.refl rfl | exact leRL_refl _ | (refine And.intro ?_ ?_)))
          · (repeat' (first | exact rfl | exact trivial | exact HWk.refl rfl | exact leRL_refl _ | (refine And.intro ?_ ?_)))
          · exact ⟨by simp, by simp, trivial⟩
        · omega
    · have hst1 : strike1 o2 y g = y := by unfold strike1; rw [if_neg (by simp [h])]
      rw [hst1] at hst
      (conv => whnf)
      (refine ⟨inr64 (by omega) (by omega), ?_⟩; (conv => whnf))
      refine ⟨i + 1, ?_, ?_, ?_⟩
      · exact hlt
      · refine ⟨?_, .mk ?_ ?_⟩
        · rw [hst]; (repeat' (first | exact rfl | exact trivial | exact HWk.refl rfl | exact leRL_refl _ | (refine And.intro ?_ ?_)))
        · (repeat' (first | exact rfl | exact trivial | exact HWk.refl rfl | exact leRL_refl _ | (refine And.intro ?_ ?_)))
        · exact ⟨by simp, by simp, trivial⟩
      · omega
  · have hlt : i = d.gates.length := by omega
    subst hlt
    rw [List.take_length]
    have hst : d.gates.foldl (strike1 o2) x = strike d o2 x := rfl
    rw [hst]
    have hlt2 := strike_lt hd (v := o2) hx
    have hle2 : x ≤ strike d o2 x := strike_le _ _ _
    (conv => whnf)
    refine And.intro (fun h => ?_) (fun h => ?_)
    · have h : strike d o2 x = x := by omega
      rw [if_pos h] at hs
      (conv => whnf)
      (refine FinSpec.mono ?_; (conv => whnf); refine ⟨?_, rfl⟩; (conv => whnf))
      rw [← hs]
      (repeat' (first | exact rfl | exact trivial | exact HWk.refl rfl | exact leRL_refl _ | (refine And.intro ?_ ?_)))
    · have h : strike d o2 x ≠ x := by omega
      rw [if_neg h] at hs
      (conv => whnf)
      refine ⟨strike d o2 x, ?_, ?_, ?_⟩
      · exact ⟨hlt2, hs⟩
      · (repeat' (first | exact rfl | exact trivial | exact HWk.refl rfl | exact leRL_refl _ | (refine And.intro ?_ ?_)))
      · omega
end S

open Go Go.AL Go.Proofs
namespace S
set_option maxRecDepth 100000

theorem idxP_nonneg {α : Type} (p : α → Bool) (l : List α) : (0 ≤ idxP p l) ↔ l.any p = true := by
  rcases idxP_cases p l with ⟨h1, h2⟩ | ⟨i, h, h1, h2, h3⟩
  · rw [h1]
    constructor
    · intro h; omega
    · intro h
      obtain ⟨x, hx, hp⟩ := List.any_eq_true.1 h
      rw [h2 x hx] at hp; cases hp
  · rw [h1]
    exact ⟨fun _ => List.any_eq_true.2 ⟨_, List.getElem_mem h, h2⟩, fun _ => by omega⟩

theorem c_indexInt (l : List Int) (x : Int) : FnH Tryz.prog 53 [iL l, .int .i64 x] [] (.int .i64 (idxP (fun y => decide (x = y)) l)) [] := by
  refine FnH.intro lay mixed Tryz.func53 (by kernel_rfl) rfl (by kernel_rfl) rfl fun hok => ?_
  have hl : l.length ≤ 9223372036854775807 := by simpa [OkL, Ok, maxL] using hok.1.1
  (conv => whnf)
  refine LoopE.of <| LoopSpec.inv (.refl _ _) (fun (i : Nat) => i ≤ l.length ∧ ∀ (j : Nat) (hj : j < l.length), j < i → (fun y => decide (x = y)) l[j] = false) (fun (i : Nat) => [(8, .int .i64 i)]) (fun _ => _) (fun (i : Nat) => l.length - i) 0 ?_ (fun _ => rfl) ?_ ?_
  · exact ⟨Nat.zero_le _, by omega⟩
  · (repeat' (first | exact rfl | exact trivial | exact HWk.refl rfl | exact leRL_refl _ | (refine And.intro ?_ ?_)))
  rintro i ⟨hi, hn⟩ _
  (conv => whnf)
  refine And.intro (fun h => ?_) (fun h => ?_)
  · have hlt : i < l.length := by simpa using h
    (conv => whnf)
    refine aidx hlt ?_
    (conv => whnf)
    refine And.intro (fun h => ?_) (fun h => ?_)
    · (conv => whnf)
      (refine FinSpec.mono ?_; (conv => whnf); refine ⟨?_, rfl⟩; (conv => whnf))
      exact ⟨rfl, (idxP_some hlt (by simpa using h) fun j hj => hn j (by omega) hj).symm⟩
    · (conv => whnf)
      (refine ⟨inr64 (by omega) (by omega), ?_⟩; (conv => whnf))
      refine ⟨i + 1, ?_, ?_, ?_⟩
      · refine ⟨hlt, fun j hj hji => ?_⟩
        by_cases hji' : j = i
        · subst hji'; simpa using h
        · exact hn j hj (by omega)
      · (repeat' (first | exact rfl | exact trivial | exact HWk.refl rfl | exact leRL_refl _ | (refine And.intro ?_ ?_)))
      · omega
  · have hlt : i = l.length := by have : ¬ i < l.length := by simpa using h
                                  omega
    subst hlt
    (conv => whnf)
    (refine FinSpec.mono ?_; (conv => whnf); refine ⟨?_, rfl⟩; (conv => whnf))
    exact ⟨rfl, (idxP_none fun j hj => hn j hj hj).symm⟩

theorem c_containsInt (l : List Int) (x : Int) : FnH Tryz.prog 117 [iL l, .int .i64 x] [] (.bool (l.any fun y => decide (x = y))) [] := by
  refine FnH.intro lay mixed Tryz.func117 (by kernel_rfl) rfl (by kernel_rfl) rfl fun hok => ?_
  (conv => whnf)
  refine .pure _ _ ?_ ⟨rfl, rfl⟩ (c_indexInt l x) fun _ => ?_
  · (repeat' (first | exact rfl | exact trivial | exact HWk.refl rfl | exact leRL_refl _ | (refine And.intro ?_ ?_)))
  (conv => whnf)
  (refine FinSpec.mono ?_; (conv => whnf); refine ⟨?_, rfl⟩; (conv => whnf))
  exact idxP_nonneg _ l

theorem c_indexFuncGate (l : List Gate) (g : Nat) (cap : List AV) (p : Gate → Bool) (H : Heap) (hg : ∀ x ∈ l, FnH Tryz.prog g (x.av :: cap) H (.bool (p x)) H) :
    FnH Tryz.prog 182 [.sl 6 (l.map Gate.av) .no, .fn g cap] H (.int .i64 (idxP p l)) H := by
  refine FnH.intro lay mixed Tryz.func182 (by kernel_rfl) rfl (by kernel_rfl) rfl fun hok => ?_
  have hl : l.length ≤ 9223372036854775807 := by have := hok.1.1; simpa [maxL] using this
  (conv => whnf)
  refine LoopE.of <| LoopSpec.inv (.refl _ _) (fun (i : Nat) => i ≤ l.length ∧ ∀ (j : Nat) (hj : j < l.length), j < i → p l[j] = false) (fun (i : Nat) => [(8, .int .i64 i)]) (fun _ => _) (fun (i : Nat) => l.length - i) 0 ?_ (fun _ => rfl) ?_ ?_
  · exact ⟨Nat.zero_le _, by omega⟩
  · (repeat' (first | exact rfl | exact trivial | exact HWk.refl rfl | exact leRL_refl _ | (refine And.intro ?_ ?_)))
  rintro i ⟨hi, hn⟩ _
  (conv => whnf)
  refine And.intro (fun h => ?_) (fun h => ?_)
  · have hlt : i < l.length := by simpa using h
    (conv => whnf)
    refine aidx hlt ?_
    (conv => whnf)
    refine .gen _ _ (hg _ (List.getElem_mem hlt)) fun _ => ?_
    (conv => whnf)
    refine And.intro (fun h => ?_) (fun h => ?_)
    · (conv => whnf)
      (refine FinSpec.same ?_; (conv => whnf); refine ⟨?_, rfl⟩; (conv => whnf))
      exact ⟨rfl, (idxP_some hlt h fun j hj => hn j (by omega) hj).symm⟩
    · (conv => whnf)
      (refine ⟨inr64 (by omega) (by omega), ?_⟩; (conv => whnf))
      refine ⟨i + 1, ?_, ?_, ?_⟩
      · refine ⟨hlt, fun j hj hji => ?_⟩
        by_cases hji' : j = i
        · subst hji'; exact h
        · exact hn j hj (by omega)
      · (repeat' (first | exact rfl | exact trivial | exact HWk.refl rfl | exact leRL_refl _ | (refine And.intro ?_ ?_)))
      · omega
  · have hlt : i = l.length := by have : ¬ i < l.length := by simpa using h
                                  omega
    subst hlt
    (conv => whnf)
    (refine FinSpec.same ?_; (conv => whnf); refine ⟨?_, rfl⟩; (conv => whnf))
    exact ⟨rfl, (idxP_none fun j hj => hn j hj hj).symm⟩

theorem c_containsFuncGate (l : List Gate) (g : Nat) (cap : List AV) (p : Gate → Bool) (H : Heap) (hg : ∀ x ∈ l, FnH Tryz.prog g (x.av :: cap) H (.bool (p x)) H) :
    FnH Tryz.prog 115 [.sl 6 (l.map Gate.av) .no, .fn g cap] H (.bool (l.any p)) H := by
  refine FnH.intro lay mixed Tryz.func115 (by kernel_rfl) rfl (by kernel_rfl) rfl fun hok => ?_
  (conv => whnf)
  refine .gen _ _ (c_indexFuncGate l g cap p H hg) fun _ => ?_
  (conv => whnf)
  (refine FinSpec.same ?_; (conv => whnf); refine ⟨?_, rfl⟩; (conv => whnf))
  exact idxP_nonneg _ l

/-- Does the gate hold the event? -/
def holds (v : List Bool) (i : Int) (g : Gate) : Bool :=
  decide (g.kind = 8) && v.getD (g.args.getD 0 0).toNat false && (g.args.drop 1).any fun y => decide (i = y)

theorem c_held1 (v : List Bool) (i : Int) (g : Gate) (s : St) (d : Dyn) (h8 : g.kind = 8 → g.args ≠ []) (ha : ∀ a ∈ g.args, 0 ≤ a ∧ a < (v.length : Int)) :
    FnH Tryz.prog 116 [g.av, .ptr 3 [] 0, .ptr 2 [] 0] [(3, .box (bL v)), (2, .box (.int .i64 i)), (1, .box s.av), (0, .box d.av)] (.bool (holds v i g)) [(3, .box (bL v)), (2, .box (.int .i64 i)), (1, .box s.av), (0, .box d.av)] := by
  refine FnH.intro lay mixed Tryz.func116 (by kernel_rfl) rfl (by kernel_rfl) rfl fun hok => ?_
  (conv => whnf)
  (refine ADraw.auto (by kernel_rfl) ?_; (conv => whnf))
  have back : ∀ C : HO, HWk [(4, C), (3, .box (bL v)), (2, .box (.int .i64 i)), (1, .box s.av), (0, .box d.av)] [(3, .box (bL v)), (2, .box (.int .i64 i)), (1, .box s.av), (0, .box d.av)] := by
    intro C
    refine .mk ?_ ?_
    · (repeat' (first | exact rfl | exact trivial | exact HWk.refl rfl | exact leRL_refl _ | (refine And.intro ?_ ?_)))
    · exact ⟨by simp, by simp, by simp, by simp, trivial⟩
  refine And.intro (fun h => ?_) (fun h => ?_)
  · have hlen0 : 0 < g.args.length := List.length_pos_iff.2 (h8 h)
    have ha' := ha _ (getD_mem (d := 0) hlen0)
    (conv => whnf)
    refine aidx0 0 hlen0 ?_
    (conv => whnf)
    refine aidxD false ha' ?_
    (conv => whnf)
    refine And.intro (fun h => ?_) (fun h => ?_)
    · (conv => whnf)
      refine ⟨⟨by omega, by simp; omega, by simp⟩, ?_⟩
      have hcut : ((g.args.map (AV.int .i64)).drop (1 : Int).toNat).take (((g.args.map (AV.int .i64)).length : Int).toNat - (1 : Int).toNat) = (g.args.drop 1).map (AV.int .i64) := by
        rw [List.take_of_length_le (by simp), ← List.map_drop]; rfl
      rw [hcut]
      (conv => whnf)
      refine ACallP.pure _ _ ?_ ⟨rfl, rfl⟩ (c_containsInt (g.args.drop 1) i) ?_
      · (repeat' (first | exact rfl | exact trivial | exact HWk.refl rfl | exact leRL_refl _ | (refine And.intro ?_ ?_)))
      (conv => whnf)
      refine ⟨⟨_, _, .refl _ _, ?_⟩⟩
      (conv => whnf)
      refine ⟨?_, rfl, by simp [nextId], back _⟩
      simp_all [holds]
      rfl
    · (conv => whnf)
      refine ⟨⟨_, _, .refl _ _, ?_⟩⟩
      (conv => whnf)
      refine ⟨?_, rfl, by simp [nextId], back _⟩
      simp_all [holds]
      rfl
  · (conv => whnf)
    refine ⟨⟨_, _, .refl _ _, ?_⟩⟩
    (conv => whnf)
    refine ⟨?_, rfl, by simp [nextId], back _⟩
    simp_all [holds]
    rfl
def vstep (n : Nat) (memo : List Int) (v : List Bool) (g : Gate) : List Bool := v ++ [gval g v (memo.getD (v.length - n) 0)]

/-- The values of all arguments for the memories as they are. -/
def valuesR (d : Dyn) (f : Nat) (memo : List Int) : List Bool := d.gates.foldl (vstep d.vars.toNat memo) (evs d.vars.toNat f)

theorem vstep_len (n : Nat) (memo : List Int) : ∀ (l : List Gate) (v : List Bool), (l.foldl (vstep n memo) v).length = v.length + l.length
  | [], v => by simp
  | g :: l, v => by
    have := vstep_len n memo l (vstep n memo v g)
    simp only [List.foldl_cons, List.length_cons]
    simp only [vstep, List.length_append, List.length_singleton] at this ⊢
    omega

theorem valuesR_len {d : Dyn} {f : Nat} {memo : List Int} : (valuesR d f memo).length = d.vars.toNat + d.gates.length := by
  unfold valuesR; rw [vstep_len, evs_len]

theorem c_values (d : Dyn) (f : Nat) (memo : List Int) (hf : f < 2 ^ 63) (hd : TreeOk d) (ho : memo.length = d.gates.length) :
    FnH Tryz.prog 56 [d.av, St.av ⟨f, memo⟩] [] (bL (valuesR d f memo)) [] := by
  have hv := hd.vars
  have hg := hd.gates
  refine FnH.intro lay mixed Tryz.func56 (by kernel_rfl) rfl (by kernel_rfl) rfl fun hok => ?_
  (conv => whnf)
  refine .gen _ _ (FnH.frame [] (c_events d f hf (by omega)) ⟨rfl, rfl, rfl, rfl⟩ trivial (leL_refl _)) fun _ => ?_
  (conv => whnf)
  have hl : (d.gates.map Gate.av).length = d.gates.length := by simp
  refine LoopE.of <| LoopSpec.inv (.refl _ _) (fun i : Nat => i ≤ d.gates.length)
    (fun i => [(15, .int .i64 i), (5, .sl 1 (((d.gates.take i).foldl (vstep d.vars.toNat memo) (evs d.vars.toNat f)).map .bool) (.own 4))])
    (fun i => [(4, .tok 1 (d.vars.toNat + i)), (1, .box (St.av ⟨f, memo⟩)), (0, .box d.av)]) (fun i => d.gates.length - i) 0 ?_ (fun _ => rfl) ?_ ?_
  · exact Nat.zero_le _
  · refine ⟨by (repeat' (first | exact rfl | exact trivial | exact HWk.refl rfl | exact leRL_refl _ | (refine And.intro ?_ ?_))), .mk ?_ ?_⟩
    · (repeat' (first | exact rfl | exact trivial | exact HWk.refl rfl | exact leRL_refl _ | (refine And.intro ?_ ?_)))
    · exact ⟨by simp, by simp, by simp, trivial⟩
  intro i hi _
  (conv => whnf)
  refine And.intro (fun h => ?_) (fun h => ?_)
  · have hlt : i < d.gates.length := by omega
    have hs := foldl_take (f := vstep d.vars.toNat memo) (s := evs d.vars.toNat f) hlt
    have hlen := vstep_len d.vars.toNat memo (d.gates.take i) (evs d.vars.toNat f)
    rw [List.length_take, evs_len, Nat.min_eq_left hi] at hlen
    have ha := hd.args i hlt
    have h2 := hd.two i hlt
    generalize hg0 : d.gates[i] = g at *
    generalize hs0 : (d.gates.take i).foldl (vstep d.vars.toNat memo) (evs d.vars.toNat f) = v at *
    have ha2 : ∀ a ∈ g.args, 0 ≤ a ∧ a < (v.length : Int) := fun a h => by have := ha a h; omega
    have h8 : g.kind = 8 → g.args ≠ [] := fun hk e => by have := h2 hk; rw [e] at this; simp at this
    have hx : (i : Int) < (memo.length : Int) := by rw [ho]; omega
    rw [vstep, hlen, Nat.add_sub_cancel_left] at hs
    (conv => whnf)
    refine aidx hlt ?_
    rw [hg0]
    (conv => whnf)
    (refine ADraw.auto (by kernel_rfl) ?_; (conv => whnf))
    refine aidxD 0 ⟨by omega, hx⟩ ?_
    (conv => whnf)
    refine ACallP.pure _ _ ?_ ⟨rfl, rfl⟩ (c_value g v (memo.getD i 0) ha2 h8) ?_
    · (repeat' (first | exact rfl | exact trivial | exact HWk.refl rfl | exact leRL_refl _ | (refine And.intro ?_ ?_)))
    (conv => whnf)
    refine ⟨by simp; omega, ?_⟩
    (refine ⟨by simp [maxL] <;> omega, by simp <;> omega, ?_⟩; (conv => whnf))
    (refine ⟨inr64 (by omega) (by omega), ?_⟩; (conv => whnf))
    refine ⟨i + 1, ?_, ?_, ?_⟩
    · exact hlt
    · rw [hs]
      refine ⟨?_, .mk ?_ ?_⟩
      · (repeat' (first | exact rfl | exact trivial | exact HWk.refl rfl | exact leRL_refl _ | (refine And.intro ?_ ?_)))
        refine leRL_of ?_
        simp [strip]
      · (repeat' (first | exact rfl | exact trivial | exact HWk.refl rfl | exact leRL_refl _ | (refine And.intro ?_ ?_)))
        simp; omega
      · exact ⟨by simp, by simp, by simp, trivial⟩
    · omega
  · have hlt : i = d.gates.length := by omega
    subst hlt
    rw [List.take_length]
    (conv => whnf)
    (refine FinSpec.mono ?_; (conv => whnf); refine ⟨?_, rfl⟩; (conv => whnf))
    (repeat' (first | exact rfl | exact trivial | exact HWk.refl rfl | exact leRL_refl _ | (refine And.intro ?_ ?_)))

def heldR (d : Dyn) (v : List Bool) (i : Int) : Bool := d.gates.any (holds v i)

theorem c_held (d : Dyn) (f : Nat) (memo : List Int) (i : Int) (hf : f < 2 ^ 63) (hd : TreeOk d) (ho : memo.length = d.gates.length) :
    FnH Tryz.prog 51 [d.av, St.av ⟨f, memo⟩, .int .i64 i] [] (.bool (heldR d (valuesR d f memo) i)) [] := by
  have hg := hd.gates
  refine FnH.intro lay mixed Tryz.func51 (by kernel_rfl) rfl (by kernel_rfl) rfl fun hok => ?_
  (conv => whnf)
  refine .pure _ _ ?_ ⟨rfl, rfl⟩ (c_values d f memo hf hd ho) fun _ => ?_
  · (repeat' (first | exact rfl | exact trivial | exact HWk.refl rfl | exact leRL_refl _ | (refine And.intro ?_ ?_)))
  (conv => whnf)
  refine .gen _ _ (c_containsFuncGate d.gates 116 [.ptr 3 [] 0, .ptr 2 [] 0] (holds (valuesR d f memo) i) _ fun g hg => c_held1 (valuesR d f memo) i g ⟨f, memo⟩ d ?_ ?_) fun _ => ?_
  · intro hk e
    obtain ⟨j, hj, rfl⟩ := List.getElem_of_mem hg
    have := hd.two j hj hk
    rw [e] at this; simp at this
  · intro a ha
    obtain ⟨j, hj, rfl⟩ := List.getElem_of_mem hg
    have := hd.args j hj a ha
    rw [valuesR_len]
    have := hd.vars
    omega
  (conv => whnf)
  (refine FinSpec.mono ?_; (conv => whnf); refine ⟨?_, rfl⟩; (conv => whnf))
  rfl
end S

open Go Go.AL Go.Proofs
namespace S
set_option maxRecDepth 100000

def argsR (kind n : Int) : Bool :=
  if kind = 3 then decide (n = 1) else if kind = 5 then decide (n = 2)
  else if kind = 6 ∨ kind = 7 ∨ kind = 8 then decide (2 ≤ n ∧ n ≤ 16) else decide (1 ≤ n ∧ n ≤ 16)

theorem c_arguments (kind n : Int) : FnH Tryz.prog 134 [.int .i64 kind, .int .i64 n] [] (.bool (argsR kind n)) [] := by
  refine FnH.intro lay mixed Tryz.func134 (by kernel_rfl) rfl (by kernel_rfl) rfl fun hok => ?_
  (conv => whnf)
  (repeat' (first | (refine And.intro (fun _ => ?_) (fun _ => ?_) <;> (conv => whnf)) | (refine ADraw.auto (by kernel_rfl) ?_; (conv => whnf)) | (refine FinSpec.mono ?_; (conv => whnf); refine ⟨?_, rfl⟩; (conv => whnf)) | (refine And.intro (inr64 (by omega) (by omega)) ?_; (conv => whnf)) | (refine And.intro (by decide) ?_; (conv => whnf))))
  all_goals first | (simp_all [argsR]; done) | (simp_all [argsR]; omega)

def zeroR (r : Rat) : Bool := !r.neg && decide (r.num.length = 0) && decide (r.den.length = 0)

theorem c_zero (r : Rat) : FnH Tryz.prog 136 [r.av] [] (.bool (zeroR r)) [] := by
  refine FnH.intro lay mixed Tryz.func136 (by kernel_rfl) rfl (by kernel_rfl) rfl fun hok => ?_
  (conv => whnf)
  refine And.intro (fun h => ?_) (fun h => ?_)
  all_goals
    (conv => whnf)
    (repeat' (first | (refine And.intro (fun _ => ?_) (fun _ => ?_) <;> (conv => whnf)) | (refine ADraw.auto (by kernel_rfl) ?_; (conv => whnf)) | (refine FinSpec.mono ?_; (conv => whnf); refine ⟨?_, rfl⟩; (conv => whnf)) | (refine And.intro (inr64 (by omega) (by omega)) ?_; (conv => whnf)) | (refine And.intro (by decide) ?_; (conv => whnf))))
  all_goals (simp_all [zeroR]; done)
def plainR (l : List Int) : Bool := decide (l ≠ []) && decide (l.getLastD 0 ≠ 0)

/-- Is a fraction valid? -/
def valid (r : Rat) : Bool :=
  if r.num = [] ∧ r.den = [] then !r.neg else plainR r.num && plainR r.den && decide (Nat.gcd (val r.num) (val r.den) = 1)

def sign (r : Rat) : Int := if valid r = true ∧ r.num ≠ [] then (if r.neg then -1 else 1) else 0

def prob (r : Rat) : Bool := valid r && !r.neg && decide (val r.num ≤ val r.den)

/-- What is known of the functions on a fraction. -/
structure RatC (r : Rat) : Prop where
  v : FnH Tryz.prog 59 [r.av] [] (.bool (valid r)) []
  s : FnH Tryz.prog 60 [r.av] [] (.int .i64 (sign r)) []
  p : FnH Tryz.prog 135 [r.av] [] (.bool (prob r)) []

def twice : List Int → List Int → Bool
  | _, [] => false
  | sp, a :: l => (sp.any fun y => decide (a = y)) || twice (sp ++ [a]) l

def gateErr (d : Dyn) (i : Nat) (g : Gate) (sp : List Int) : Int :=
  if g.kind < 0 then 7 else if 8 < g.kind then 7
  else if argsR g.kind g.args.length = false then 11
  else if (g.args.any fun a => decide (a < 0) || decide (d.vars + i ≤ a)) = true then 10
  else if (g.kind = 7 ∧ (g.args.any fun a => decide (d.vars ≤ a)) = true) ∨ (g.kind = 8 ∧ ((g.args.drop 1).any fun a => decide (d.vars ≤ a)) = true) then 7
  else if g.kind = 7 ∧ twice sp g.args = true then 6
  else if g.kind = 2 ∧ (g.k < 1 ∨ (g.args.length : Int) < g.k) then 3
  else if g.kind ≠ 2 ∧ g.k ≠ 0 then 2
  else if g.kind = 7 ∧ prob g.dorm = false then 3
  else if g.kind ≠ 7 ∧ zeroR g.dorm = false then 2
  else 0

def spAfter (g : Gate) (sp : List Int) : List Int := if g.kind = 7 then sp ++ g.args else sp

theorem any_take {α : Type} {p : α → Bool} {l : List α} {i : Nat} (h : i < l.length) : (l.take (i + 1)).any p = ((l.take i).any p || p l[i]) := by
  rw [List.take_add_one, List.getElem?_eq_getElem h, List.any_append]; simp


theorem c_checkGate (d : Dyn) (i : Nat) (sp : List Int) (hi : i < d.gates.length) (hv : 0 ≤ d.vars ∧ d.vars ≤ 24) (hg : d.gates.length ≤ 64) (hsp : sp.length ≤ 100000) (hr : RatC (d.gates[i]).dorm) (R : AV) (G : Heap)
    (hR : R = if gateErr d i d.gates[i] sp = 0 then .tup [.sl 1 ((spAfter d.gates[i] sp).map (.int .i64)) (.own 0), .nilI] else .tup [.nils, .ifc 104 (.int .i64 (gateErr d i d.gates[i] sp))])
    (hG : G = if gateErr d i d.gates[i] sp = 0 then [(0, .tok 1 (spAfter d.gates[i] sp).length)] else [(0, .gone)]) :
    FnH Tryz.prog 61 [d.av, .int .i64 i, .sl 1 (sp.map (.int .i64)) (.own 0)] [(0, .tok 1 sp.length)] R G := by
  refine FnH.intro lay mixed Tryz.func61 (by kernel_rfl) rfl (by kernel_rfl) rfl fun hok => ?_
  have hal : (d.gates[i]).args.length ≤ 9223372036854775807 := Gate.okArgs (Dyn.okGates hok.1 _ (List.getElem_mem hi))
  (conv => whnf)
  refine aidx hi ?_
  generalize d.gates[i] = g at *
  have err : ∀ e : Int, gateErr d i g sp = e → e ≠ 0 → R = .tup [.nils, .ifc 104 (.int .i64 e)] ∧ G = [(0, .gone)] := by
    intro e he h0
    rw [hR, hG, he, if_neg h0, if_neg h0]; exact ⟨rfl, rfl⟩
  (conv => whnf)
  refine And.intro (fun n1 => ?_) (fun n1 => ?_)
  · obtain ⟨rfl, rfl⟩ := err 7 (by unfold gateErr; rw [if_pos n1]) (by decide)
    (conv => whnf)
    refine ⟨⟨_, _, .refl _ _, ?_⟩⟩
    (conv => whnf)
    refine ⟨le_refl _, rfl, by simp [nextId], .mk ?_ ⟨by simp, trivial⟩⟩
    (repeat' (first | exact rfl | exact trivial | exact HWk.refl rfl | exact leRL_refl _ | (refine And.intro ?_ ?_)))
  (conv => whnf)
  refine And.intro (fun n2 => ?_) (fun n2 => ?_)
  · obtain ⟨rfl, rfl⟩ := err 7 (by unfold gateErr; rw [if_neg n1, if_pos n2]) (by decide)
    (conv => whnf)
    refine ⟨⟨_, _, .refl _ _, ?_⟩⟩
    (conv => whnf)
    refine ⟨le_refl _, rfl, by simp [nextId], .mk ?_ ⟨by simp, trivial⟩⟩
    (repeat' (first | exact rfl | exact trivial | exact HWk.refl rfl | exact leRL_refl _ | (refine And.intro ?_ ?_)))
  (conv => whnf)
  refine .pure _ _ ?_ ⟨rfl, rfl⟩ (c_arguments g.kind g.args.length) fun _ => ?_
  · (repeat' (first | exact rfl | exact trivial | exact HWk.refl rfl | exact leRL_refl _ | (refine And.intro ?_ ?_)))
    simp
  (conv => whnf)
  refine And.intro (fun n3 => ?_) (fun n3 => ?_)
  · have n3 : argsR g.kind g.args.length = false := by simpa using n3
    obtain ⟨rfl, rfl⟩ := err 11 (by unfold gateErr; rw [if_neg n1, if_neg n2, if_pos n3]) (by decide)
    (conv => whnf)
    refine ⟨⟨_, _, .refl _ _, ?_⟩⟩
    (conv => whnf)
    refine ⟨le_refl _, rfl, by simp [nextId], .mk ?_ ⟨by simp, trivial⟩⟩
    (repeat' (first | exact rfl | exact trivial | exact HWk.refl rfl | exact leRL_refl _ | (refine And.intro ?_ ?_)))
  have n3 : argsR g.kind g.args.length = true := by simpa using n3
  have h16 : g.args.length ≤ 16 := by
    unfold argsR at n3
    split at n3 <;> first | (simp at n3; omega) | skip
    split at n3 <;> first | (simp at n3; omega) | skip
    split at n3 <;> (simp at n3; omega)
  have n3 : ¬ argsR g.kind g.args.length = false := by simp [n3]
  (conv => whnf)
  refine LoopE.of <| LoopSpec.inv (.refl _ _) (fun (j : Nat) => j ≤ g.args.length ∧ ((g.args.take j).any fun a => decide (a < 0) || decide (d.vars + i ≤ a)) = false) (fun (j : Nat) => [(40, .int .i64 j)]) (fun _ => _) (fun (j : Nat) => g.args.length - j) 0 ?_ (fun _ => rfl) ?_ ?_
  · exact ⟨Nat.zero_le _, by simp⟩
  · (repeat' (first | exact rfl | exact trivial | exact HWk.refl rfl | exact leRL_refl _ | (refine And.intro ?_ ?_)))
  rintro j ⟨hj, hn⟩ _
  (conv => whnf)
  refine And.intro (fun h => ?_) (fun h => ?_)
  · have hlt : j < g.args.length := by simpa using h
    have hany := any_take (p := fun a => decide (a < 0) || decide (d.vars + i ≤ a)) hlt
    rw [hn, Bool.false_or] at hany
    have hmem := List.getElem_mem hlt
    (conv => whnf)
    refine aidx hlt ?_
    generalize g.args[j] = a at *
    (conv => whnf)
    refine And.intro (fun m1 => ?_) (fun m1 => ?_)
    · obtain ⟨rfl, rfl⟩ := err 10 (by unfold gateErr; rw [if_neg n1, if_neg n2, if_neg n3, if_pos (List.any_eq_true.2 ⟨a, hmem, by simp [m1]⟩)]) (by decide)
      (conv => whnf)
      refine ⟨⟨_, _, .refl _ _, ?_⟩⟩
      (conv => whnf)
      refine ⟨le_refl _, rfl, by simp [nextId], .mk ?_ ⟨by simp, trivial⟩⟩
      (repeat' (first | exact rfl | exact trivial | exact HWk.refl rfl | exact leRL_refl _ | (refine And.intro ?_ ?_)))
    (conv => whnf)
    (refine ⟨inr64 (by omega) (by omega), ?_⟩; (conv => whnf))
    refine And.intro (fun m2 => ?_) (fun m2 => ?_)
    · obtain ⟨rfl, rfl⟩ := err 10 (by unfold gateErr; rw [if_neg n1, if_neg n2, if_neg n3, if_pos (List.any_eq_true.2 ⟨a, hmem, by simp [m2]⟩)]) (by decide)
      (conv => whnf)
      refine ⟨⟨_, _, .refl _ _, ?_⟩⟩
      (conv => whnf)
      refine ⟨le_refl _, rfl, by simp [nextId], .mk ?_ ⟨by simp, trivial⟩⟩
      (repeat' (first | exact rfl | exact trivial | exact HWk.refl rfl | exact leRL_refl _ | (refine And.intro ?_ ?_)))
    (conv => whnf)
    (refine ⟨inr64 (by omega) (by omega), ?_⟩; (conv => whnf))
    refine ⟨j + 1, ?_, ?_, ?_⟩
    · exact ⟨hlt, by rw [hany]; simp; omega⟩
    · (repeat' (first | exact rfl | exact trivial | exact HWk.refl rfl | exact leRL_refl _ | (refine And.intro ?_ ?_)))
    · omega
  have hjl : j = g.args.length := by have : ¬ j < g.args.length := by simpa using h
                                     omega
  rw [hjl, List.take_length] at hn
  clear h
  subst hjl
  have n4 : ¬ (g.args.any fun a => decide (a < 0) || decide (d.vars + i ≤ a)) = true := by rw [hn]; simp
  (conv => whnf)
  refine LoopE.of <| LoopSpec.inv (.refl _ _) (fun (j : Nat) => j ≤ g.args.length ∧ ∀ (k : Nat) (hk : k < g.args.length), k < j → ¬ (d.vars ≤ g.args[k] ∧ (g.kind = 7 ∨ g.kind = 8 ∧ 0 < k))) (fun (j : Nat) => [(59, .int .i64 j)]) (fun _ => _) (fun (j : Nat) => g.args.length - j) 0 ?_ (fun _ => rfl) ?_ ?_
  · exact ⟨Nat.zero_le _, by omega⟩
  · (repeat' (first | exact rfl | exact trivial | exact HWk.refl rfl | exact leRL_refl _ | (refine And.intro ?_ ?_)))
  rintro j ⟨hj, hn⟩ _
  (conv => whnf)
  refine And.intro (fun h => ?_) (fun h => ?_)
  · have hlt : j < g.args.length := by simpa using h
    have fin : (d.vars ≤ g.args[j] ∧ (g.kind = 7 ∨ g.kind = 8 ∧ 0 < j)) → (g.kind = 7 ∧ (g.args.any fun a => decide (d.vars ≤ a)) = true) ∨ (g.kind = 8 ∧ ((g.args.drop 1).any fun a => decide (d.vars ≤ a)) = true) := by
      rintro ⟨h1, h2 | ⟨h2, h3⟩⟩
      · exact .inl ⟨h2, List.any_eq_true.2 ⟨_, List.getElem_mem hlt, by simpa using h1⟩⟩
      · refine .inr ⟨h2, List.any_eq_true.2 ⟨g.args[j], ?_, by simpa using h1⟩⟩
        rw [List.mem_iff_getElem]
        exact ⟨j - 1, by simp; omega, by simp only [List.getElem_drop]; congr 1; omega⟩
    have step : ¬ (d.vars ≤ g.args[j] ∧ (g.kind = 7 ∨ g.kind = 8 ∧ 0 < j)) → j + 1 ≤ g.args.length ∧ ∀ (k : Nat) (hk : k < g.args.length), k < j + 1 → ¬ (d.vars ≤ g.args[k] ∧ (g.kind = 7 ∨ g.kind = 8 ∧ 0 < k)) := by
      intro h0
      refine ⟨hlt, fun k hk hkj => ?_⟩
      by_cases hkj' : k = j
      · subst hkj'; exact h0
      · exact hn k hk (by omega)
    (conv => whnf)
    refine aidx hlt ?_
    generalize g.args[j] = a at *
    (conv => whnf)
    refine And.intro (fun m1 => ?_) (fun m1 => ?_)
    · (conv => whnf)
      refine And.intro (fun m2 => ?_) (fun m2 => ?_)
      · obtain ⟨rfl, rfl⟩ := err 7 (by unfold gateErr; rw [if_neg n1, if_neg n2, if_neg n3, if_neg n4, if_pos (fin ⟨m1, .inl m2⟩)]) (by decide)
        (conv => whnf)
        refine ⟨⟨_, _, .refl _ _, ?_⟩⟩
        (conv => whnf)
        refine ⟨le_refl _, rfl, by simp [nextId], .mk ?_ ⟨by simp, trivial⟩⟩
        (repeat' (first | exact rfl | exact trivial | exact HWk.refl rfl | exact leRL_refl _ | (refine And.intro ?_ ?_)))
      (conv => whnf)
      refine And.intro (fun m3 => ?_) (fun m3 => ?_)
      · (conv => whnf)
        refine And.intro (fun m4 => ?_) (fun m4 => ?_)
        · obtain ⟨rfl, rfl⟩ := err 7 (by unfold gateErr; rw [if_neg n1, if_neg n2, if_neg n3, if_neg n4, if_pos (fin ⟨m1, .inr ⟨m3, by omega⟩⟩)]) (by decide)
          (conv => whnf)
          refine ⟨⟨_, _, .refl _ _, ?_⟩⟩
          (conv => whnf)
          refine ⟨le_refl _, rfl, by simp [nextId], .mk ?_ ⟨by simp, trivial⟩⟩
          (repeat' (first | exact rfl | exact trivial | exact HWk.refl rfl | exact leRL_refl _ | (refine And.intro ?_ ?_)))
        (conv => whnf)
        (refine ⟨inr64 (by omega) (by omega), ?_⟩; (conv => whnf))
        refine ⟨j + 1, ?_, ?_, ?_⟩
        · exact step (by omega)
        · (repeat' (first | exact rfl | exact trivial | exact HWk.refl rfl | exact leRL_refl _ | (refine And.intro ?_ ?_)))
        · omega
      (conv => whnf)
      (refine ⟨inr64 (by omega) (by omega), ?_⟩; (conv => whnf))
      refine ⟨j + 1, ?_, ?_, ?_⟩
      · exact step (by omega)
      · (repeat' (first | exact rfl | exact trivial | exact HWk.refl rfl | exact leRL_refl _ | (refine And.intro ?_ ?_)))
      · omega
    (conv => whnf)
    (refine ⟨inr64 (by omega) (by omega), ?_⟩; (conv => whnf))
    refine ⟨j + 1, ?_, ?_, ?_⟩
    · exact step (by omega)
    · (repeat' (first | exact rfl | exact trivial | exact HWk.refl rfl | exact leRL_refl _ | (refine And.intro ?_ ?_)))
    · omega
  have hjl : j = g.args.length := by have : ¬ j < g.args.length := by simpa using h
                                     omega
  clear h
  subst hjl
  have n5 : ¬ ((g.kind = 7 ∧ (g.args.any fun a => decide (d.vars ≤ a)) = true) ∨ (g.kind = 8 ∧ ((g.args.drop 1).any fun a => decide (d.vars ≤ a)) = true)) := by
    rintro (⟨h1, h2⟩ | ⟨h1, h2⟩)
    · obtain ⟨x, hx, hp⟩ := List.any_eq_true.1 h2
      obtain ⟨k, hk, rfl⟩ := List.getElem_of_mem hx
      exact hn k hk hk ⟨by simpa using hp, .inl h1⟩
    · obtain ⟨x, hx, hp⟩ := List.any_eq_true.1 h2
      obtain ⟨k, hk, rfl⟩ := List.getElem_of_mem hx
      simp only [List.getElem_drop] at hp
      simp only [List.length_drop] at hk
      exact hn (1 + k) (by omega) (by omega) ⟨by simpa using hp, .inr ⟨h1, by omega⟩⟩
  (conv => whnf)
  refine And.intro (fun k7 => ?_) (fun k7 => ?_)
  · (conv => whnf)
    refine LoopE.of <| LoopSpec.inv (.refl _ _) (fun j : Nat => j ≤ g.args.length ∧ twice sp g.args = twice (sp ++ g.args.take j) (g.args.drop j))
      (fun j => [(90, .int .i64 j), (2, .sl 1 ((sp ++ g.args.take j).map (.int .i64)) (.own 0))]) (fun j => [(2, .box g.av), (1, .box d.av), (0, .tok 1 (sp.length + j))]) (fun j => g.args.length - j) 0 ?_ (fun _ => rfl) ?_ ?_
    · exact ⟨Nat.zero_le _, by simp⟩
    · refine ⟨?_, .mk ?_ ⟨by simp, by simp, by simp, trivial⟩⟩
      · (repeat' (first | exact rfl | exact trivial | exact HWk.refl rfl | exact leRL_refl _ | (refine And.intro ?_ ?_)))
        exact leRL_of (by simp)
      · (repeat' (first | exact rfl | exact trivial | exact HWk.refl rfl | exact leRL_refl _ | (refine And.intro ?_ ?_)))
    rintro j ⟨hj, hn⟩ _
    (conv => whnf)
    refine And.intro (fun h => ?_) (fun h => ?_)
    · have hlt : j < g.args.length := by simpa using h
      rw [List.drop_eq_getElem_cons hlt] at hn
      simp only [twice] at hn
      have htk : g.args.take (j + 1) = g.args.take j ++ [g.args[j]] := by rw [List.take_add_one, List.getElem?_eq_getElem hlt]; rfl
      (conv => whnf)
      refine aidx hlt ?_
      generalize g.args[j] = a at *
      (conv => whnf)
      refine .pure _ _ ?_ ⟨rfl, rfl⟩ (c_containsInt (sp ++ g.args.take j) a) fun _ => ?_
      · (repeat' (first | exact rfl | exact trivial | exact HWk.refl rfl | exact leRL_refl _ | (refine And.intro ?_ ?_)))
      (conv => whnf)
      refine And.intro (fun m1 => ?_) (fun m1 => ?_)
      · rw [m1, Bool.true_or] at hn
        obtain ⟨rfl, rfl⟩ := err 6 (by unfold gateErr; rw [if_neg n1, if_neg n2, if_neg n3, if_neg n4, if_neg n5, if_pos ⟨k7, hn⟩]) (by decide)
        (conv => whnf)
        refine ⟨⟨_, _, .refl _ _, ?_⟩⟩
        (conv => whnf)
        refine ⟨le_refl _, rfl, by simp [nextId], .mk ?_ ⟨by simp, trivial⟩⟩
        (repeat' (first | exact rfl | exact trivial | exact HWk.refl rfl | exact leRL_refl _ | (refine And.intro ?_ ?_)))
      rw [m1, Bool.false_or] at hn
      (conv => whnf)
      refine ⟨by simp; omega, ?_⟩
      (refine ⟨by simp [maxL] <;> omega, by simp <;> omega, ?_⟩; (conv => whnf))
      (refine ⟨inr64 (by omega) (by omega), ?_⟩; (conv => whnf))
      refine ⟨j + 1, ?_, ?_, ?_⟩
      · exact ⟨hlt, by rw [hn, htk, List.append_assoc]⟩
      · refine ⟨?_, .mk ?_ ⟨by simp, by simp, by simp, trivial⟩⟩
        · (repeat' (first | exact rfl | exact trivial | exact HWk.refl rfl | exact leRL_refl _ | (refine And.intro ?_ ?_)))
          refine leRL_of ?_
          rw [htk]; simp [strip]
        · (repeat' (first | exact rfl | exact trivial | exact HWk.refl rfl | exact leRL_refl _ | (refine And.intro ?_ ?_)))
          simp; omega
      · omega
    have hjl : j = g.args.length := by have : ¬ j < g.args.length := by simpa using h
                                       omega
    clear h
    subst hjl
    rw [List.drop_length] at hn
    have n6 : ¬ (g.kind = 7 ∧ twice sp g.args = true) := by rw [hn]; simp [twice]
    rw [List.take_length]
    have n7 : ¬ (g.kind = 2 ∧ (g.k < 1 ∨ (g.args.length : Int) < g.k)) := by omega
    (conv => whnf)
    refine And.intro (fun k2 => by exfalso; omega) (fun k2 => ?_)
    (conv => whnf)
    refine And.intro (fun kk => ?_) (fun kk => ?_)
    · obtain ⟨rfl, rfl⟩ := err 2 (by unfold gateErr; rw [if_neg n1, if_neg n2, if_neg n3, if_neg n4, if_neg n5, if_neg n6, if_neg n7, if_pos ⟨k2, kk⟩]) (by decide)
      (conv => whnf)
      refine ⟨⟨_, _, .refl _ _, ?_⟩⟩
      (conv => whnf)
      refine ⟨le_refl _, rfl, by simp [nextId], .mk ?_ ⟨by simp, trivial⟩⟩
      (repeat' (first | exact rfl | exact trivial | exact HWk.refl rfl | exact leRL_refl _ | (refine And.intro ?_ ?_)))
    have n8 : ¬ (g.kind ≠ 2 ∧ g.k ≠ 0) := fun h => kk h.2
    (conv => whnf)
    refine And.intro (fun _ => ?_) (fun h => absurd k7 h)
    (conv => whnf)
    refine .pure _ _ ?_ ⟨rfl, rfl⟩ hr.p fun _ => ?_
    · exact leL_refl _
    (conv => whnf)
    refine And.intro (fun kp => ?_) (fun kp => ?_)
    · have kp : prob g.dorm = false := by simpa using kp
      obtain ⟨rfl, rfl⟩ := err 3 (by unfold gateErr; rw [if_neg n1, if_neg n2, if_neg n3, if_neg n4, if_neg n5, if_neg n6, if_neg n7, if_neg n8, if_pos ⟨k7, kp⟩]) (by decide)
      (conv => whnf)
      refine ⟨⟨_, _, .refl _ _, ?_⟩⟩
      (conv => whnf)
      refine ⟨le_refl _, rfl, by simp [nextId], .mk ?_ ⟨by simp, trivial⟩⟩
      (repeat' (first | exact rfl | exact trivial | exact HWk.refl rfl | exact leRL_refl _ | (refine And.intro ?_ ?_)))
    have kp : prob g.dorm = true := by simpa using kp
    have n9 : ¬ (g.kind = 7 ∧ prob g.dorm = false) := fun h => by rw [kp] at h; cases h.2
    have hE : gateErr d i g sp = 0 := by unfold gateErr; rw [if_neg n1, if_neg n2, if_neg n3, if_neg n4, if_neg n5, if_neg n6, if_neg n7, if_neg n8, if_neg n9, if_neg (fun h => h.1 k7)]
    rw [hE, if_pos rfl] at hR hG
    subst hR; subst hG
    (conv => whnf)
    refine ⟨⟨_, _, .refl _ _, ?_⟩⟩
    (conv => whnf)
    refine ⟨?_, rfl, by simp [nextId], .mk ?_ ⟨by simp, trivial⟩⟩
    · rw [spAfter, if_pos k7]
      (repeat' (first | exact rfl | exact trivial | exact HWk.refl rfl | exact leRL_refl _ | (refine And.intro ?_ ?_)))
    · rw [spAfter, if_pos k7]
      (repeat' (first | exact rfl | exact trivial | exact HWk.refl rfl | exact leRL_refl _ | (refine And.intro ?_ ?_)))
      simp
  · have n6 : ¬ (g.kind = 7 ∧ twice sp g.args = true) := fun h => k7 h.1
    have n9 : ¬ (g.kind = 7 ∧ prob g.dorm = false) := fun h => k7 h.1
    have hsa : spAfter g sp = sp := by rw [spAfter, if_neg k7]
    rw [hsa] at hR hG
    (conv => whnf)
    refine And.intro (fun k2 => ?_) (fun k2 => ?_)
    · have n8 : ¬ (g.kind ≠ 2 ∧ g.k ≠ 0) := fun h => h.1 k2
      (conv => whnf)
      refine And.intro (fun kk => ?_) (fun kk => ?_)
      · obtain ⟨rfl, rfl⟩ := err 3 (by unfold gateErr; rw [if_neg n1, if_neg n2, if_neg n3, if_neg n4, if_neg n5, if_neg n6, if_pos ⟨k2, .inl kk⟩]) (by decide)
        (conv => whnf)
        refine ⟨⟨_, _, .refl _ _, ?_⟩⟩
        (conv => whnf)
        refine ⟨le_refl _, rfl, by simp [nextId], .mk ?_ ⟨by simp, trivial⟩⟩
        (repeat' (first | exact rfl | exact trivial | exact HWk.refl rfl | exact leRL_refl _ | (refine And.intro ?_ ?_)))
      (conv => whnf)
      refine And.intro (fun kl => ?_) (fun kl => ?_)
      · have kl : (g.args.length : Int) < g.k := by simpa using kl
        obtain ⟨rfl, rfl⟩ := err 3 (by unfold gateErr; rw [if_neg n1, if_neg n2, if_neg n3, if_neg n4, if_neg n5, if_neg n6, if_pos ⟨k2, .inr kl⟩]) (by decide)
        (conv => whnf)
        refine ⟨⟨_, _, .refl _ _, ?_⟩⟩
        (conv => whnf)
        refine ⟨le_refl _, rfl, by simp [nextId], .mk ?_ ⟨by simp, trivial⟩⟩
        (repeat' (first | exact rfl | exact trivial | exact HWk.refl rfl | exact leRL_refl _ | (refine And.intro ?_ ?_)))
      have kl : ¬ (g.args.length : Int) < g.k := by simpa using kl
      have n7 : ¬ (g.kind = 2 ∧ (g.k < 1 ∨ (g.args.length : Int) < g.k)) := by omega
      (conv => whnf)
      refine And.intro (fun h => absurd h k7) (fun _ => ?_)
      (conv => whnf)
      refine .pure _ _ ?_ ⟨rfl, rfl⟩ (c_zero g.dorm) fun _ => ?_
      · exact leL_refl _
      (conv => whnf)
      refine And.intro (fun kz => ?_) (fun kz => ?_)
      · have kz : zeroR g.dorm = false := by simpa using kz
        obtain ⟨rfl, rfl⟩ := err 2 (by unfold gateErr; rw [if_neg n1, if_neg n2, if_neg n3, if_neg n4, if_neg n5, if_neg n6, if_neg n7, if_neg n8, if_neg n9, if_pos ⟨k7, kz⟩]) (by decide)
        (conv => whnf)
        refine ⟨⟨_, _, .refl _ _, ?_⟩⟩
        (conv => whnf)
        refine ⟨le_refl _, rfl, by simp [nextId], .mk ?_ ⟨by simp, trivial⟩⟩
        (repeat' (first | exact rfl | exact trivial | exact HWk.refl rfl | exact leRL_refl _ | (refine And.intro ?_ ?_)))
      have kz : zeroR g.dorm = true := by simpa using kz
      have hE : gateErr d i g sp = 0 := by unfold gateErr; rw [if_neg n1, if_neg n2, if_neg n3, if_neg n4, if_neg n5, if_neg n6, if_neg n7, if_neg n8, if_neg n9, if_neg (fun h => by rw [kz] at h; cases h.2)]
      rw [hE, if_pos rfl] at hR hG
      subst hR; subst hG
      (conv => whnf)
      refine ⟨⟨_, _, .refl _ _, ?_⟩⟩
      (conv => whnf)
      refine ⟨?_, rfl, by simp [nextId], .mk ?_ ⟨by simp, trivial⟩⟩
      · (repeat' (first | exact rfl | exact trivial | exact HWk.refl rfl | exact leRL_refl _ | (refine And.intro ?_ ?_)))
      · (repeat' (first | exact rfl | exact trivial | exact HWk.refl rfl | exact leRL_refl _ | (refine And.intro ?_ ?_)))
    · have n7 : ¬ (g.kind = 2 ∧ (g.k < 1 ∨ (g.args.length : Int) < g.k)) := by omega
      (conv => whnf)
      refine And.intro (fun kk => ?_) (fun kk => ?_)
      · obtain ⟨rfl, rfl⟩ := err 2 (by unfold gateErr; rw [if_neg n1, if_neg n2, if_neg n3, if_neg n4, if_neg n5, if_neg n6, if_neg n7, if_pos ⟨k2, kk⟩]) (by decide)
        (conv => whnf)
        refine ⟨⟨_, _, .refl _ _, ?_⟩⟩
        (conv => whnf)
        refine ⟨le_refl _, rfl, by simp [nextId], .mk ?_ ⟨by simp, trivial⟩⟩
        (repeat' (first | exact rfl | exact trivial | exact HWk.refl rfl | exact leRL_refl _ | (refine And.intro ?_ ?_)))
      have n8 : ¬ (g.kind ≠ 2 ∧ g.k ≠ 0) := fun h => kk h.2
      (conv => whnf)
      refine And.intro (fun h => absurd h k7) (fun _ => ?_)
      (conv => whnf)
      refine .pure _ _ ?_ ⟨rfl, rfl⟩ (c_zero g.dorm) fun _ => ?_
      · exact leL_refl _
      (conv => whnf)
      refine And.intro (fun kz => ?_) (fun kz => ?_)
      · have kz : zeroR g.dorm = false := by simpa using kz
        obtain ⟨rfl, rfl⟩ := err 2 (by unfold gateErr; rw [if_neg n1, if_neg n2, if_neg n3, if_neg n4, if_neg n5, if_neg n6, if_neg n7, if_neg n8, if_neg n9, if_pos ⟨k7, kz⟩]) (by decide)
        (conv => whnf)
        refine ⟨⟨_, _, .refl _ _, ?_⟩⟩
        (conv => whnf)
        refine ⟨le_refl _, rfl, by simp [nextId], .mk ?_ ⟨by simp, trivial⟩⟩
        (repeat' (first | exact rfl | exact trivial | exact HWk.refl rfl | exact leRL_refl _ | (refine And.intro ?_ ?_)))
      have kz : zeroR g.dorm = true := by simpa using kz
      have hE : gateErr d i g sp = 0 := by unfold gateErr; rw [if_neg n1, if_neg n2, if_neg n3, if_neg n4, if_neg n5, if_neg n6, if_neg n7, if_neg n8, if_neg n9, if_neg (fun h => by rw [kz] at h; cases h.2)]
      rw [hE, if_pos rfl] at hR hG
      subst hR; subst hG
      (conv => whnf)
      refine ⟨⟨_, _, .refl _ _, ?_⟩⟩
      (conv => whnf)
      refine ⟨?_, rfl, by simp [nextId], .mk ?_ ⟨by simp, trivial⟩⟩
      · (repeat' (first | exact rfl | exact trivial | exact HWk.refl rfl | exact leRL_refl _ | (refine And.intro ?_ ?_)))
      · (repeat' (first | exact rfl | exact trivial | exact HWk.refl rfl | exact leRL_refl _ | (refine And.intro ?_ ?_)))
end S

open Go Go.AL Go.Proofs
namespace S
set_option maxRecDepth 100000

theorem c_one : FnH Tryz.prog 133 [] [] (wL [1]) [] := by
  refine FnH.intro lay mixed Tryz.func133 (by kernel_rfl) rfl (by kernel_rfl) rfl fun hok => ?_
  (conv => whnf)
  (refine FinSpec.mono ?_; (conv => whnf); refine ⟨?_, rfl⟩; (conv => whnf))
  (repeat' (first | exact rfl | exact trivial | exact HWk.refl rfl | exact leRL_refl _ | (refine And.intro ?_ ?_)))

theorem c_plain (a : List Int) (ha : a.length ≤ 1000000) : FnH Tryz.prog 130 [wL a] [] (.bool (plainR a)) [] := by
  refine FnH.intro lay mixed Tryz.func130 (by kernel_rfl) rfl (by kernel_rfl) rfl fun hok => ?_
  (conv => whnf)
  refine And.intro (fun h => ?_) (fun h => ?_)
  · have h : 0 < a.length := by simp only [List.length_map] at h; omega
    (conv => whnf)
    refine ⟨inr64 (by simp; omega) (by simp; omega), ?_⟩
    (conv => whnf)
    refine aidxN' 0 (i := a.length - 1) (by simp; omega) (by omega) ?_
    (conv => whnf)
    (refine FinSpec.mono ?_; (conv => whnf); refine ⟨?_, rfl⟩; (conv => whnf))
    have e : a.getD (a.length - 1) 0 = a.getLastD 0 := by
      rw [List.getLastD_eq_getLast?, List.getLast?_eq_getElem?, List.getD_eq_getElem?_getD]
    rw [e]
    have hne : a ≠ [] := List.length_pos_iff.1 h
    simp [plainR, hne]
  · have h : a = [] := by
      apply List.eq_nil_of_length_eq_zero
      simp only [List.length_map] at h; omega
    subst h
    (conv => whnf)
    (refine FinSpec.mono ?_; (conv => whnf); refine ⟨?_, rfl⟩; (conv => whnf))
    rfl

theorem c_Valid (r : Rat) (h1 : r.num.length ≤ 1000000) (h2 : r.den.length ≤ 1000000) (hg : ¬ (r.num = [] ∧ r.den = []) → FnH Tryz.prog 132 [wL r.num, wL r.den] [] (wL (wd (Nat.gcd (val r.num) (val r.den)))) []) :
    FnH Tryz.prog 59 [r.av] [] (.bool (valid r)) [] := by
  refine FnH.intro lay mixed Tryz.func59 (by kernel_rfl) rfl (by kernel_rfl) rfl fun hok => ?_
  have hw1 : Ws r.num := Ws.ok hok.1.2.1.2
  have hw2 : Ws r.den := Ws.ok hok.1.2.2.1.2
  have lg : (wd (Nat.gcd (val r.num) (val r.den))).length ≤ 1000000 := by
    have l1 := wd_len_le hw1
    have l2 := wd_len_le hw2
    by_cases h0 : val r.num = 0
    · rw [h0, Nat.gcd_zero_left]; omega
    · have := wd_len_mono (Nat.gcd_le_left (val r.den) (by omega : 0 < val r.num))
      omega
  have tail : ∀ {e : Env} {H : Heap} {k : AV → Heap → Prop}, True := fun {_ _ _} => trivial
  clear tail
  have c1 := c_plain r.num h1
  have c2 := c_plain r.den h2
  have c3 := c_Cmp (wd (Nat.gcd (val r.num) (val r.den))) [1] lg (by simp)
  rw [val_wd] at c3
  have v1 : val [1] = 1 := rfl
  rw [v1] at c3
  have hcmp : (cmpN (Nat.gcd (val r.num) (val r.den)) 1 = 0) ↔ Nat.gcd (val r.num) (val r.den) = 1 := by
    unfold cmpN
    split
    · omega
    · split <;> omega
  (conv => whnf)
  refine And.intro (fun n1 => ?_) (fun n1 => ?_)
  · have n1 : r.num = [] := by
      apply List.eq_nil_of_length_eq_zero
      simpa using n1
    (conv => whnf)
    refine And.intro (fun n2 => ?_) (fun n2 => ?_)
    · have n2 : r.den = [] := by
        apply List.eq_nil_of_length_eq_zero
        simpa using n2
      (conv => whnf)
      (refine FinSpec.mono ?_; (conv => whnf); refine ⟨?_, rfl⟩; (conv => whnf))
      simp [valid, n1, n2]
    · have n2 : ¬ r.den = [] := fun e => n2 (by rw [e]; rfl)
      have hval : valid r = false := by simp [valid, n1, n2, plainR]
      have p1 : plainR r.num = false := by simp [n1, plainR]
      rw [hval]
      rw [p1] at c1
      (conv => whnf)
      refine .pure _ _ ?_ ⟨rfl, rfl⟩ c1 fun _ => ?_
      · exact leL_refl _
      (conv => whnf)
      refine And.intro (fun h => ?_) (fun h => ?_)
      · cases h
      · (conv => whnf)
        (refine FinSpec.mono ?_; (conv => whnf); refine ⟨?_, rfl⟩; (conv => whnf))
  · have n1 : ¬ r.num = [] := fun e => n1 (by rw [e]; rfl)
    have hgc := hg (fun h => n1 h.1)
    have hval : valid r = (plainR r.num && plainR r.den && decide (Nat.gcd (val r.num) (val r.den) = 1)) := by simp [valid, n1]
    rw [hval]
    (conv => whnf)
    refine .pure _ _ ?_ ⟨rfl, rfl⟩ c1 fun _ => ?_
    · exact leL_refl _
    (conv => whnf)
    refine And.intro (fun p1 => ?_) (fun p1 => ?_)
    · (conv => whnf)
      refine .pure _ _ ?_ ⟨rfl, rfl⟩ c2 fun _ => ?_
      · exact leL_refl _
      (conv => whnf)
      refine And.intro (fun p2 => ?_) (fun p2 => ?_)
      · (conv => whnf)
        refine .pure _ _ ?_ ⟨rfl, rfl⟩ hgc fun _ => ?_
        · exact leL_refl _
        (conv => whnf)
        refine .pure _ _ ?_ ⟨rfl, rfl⟩ c_one fun _ => ?_
        · exact leL_refl _
        (conv => whnf)
        refine .pure _ _ ?_ ⟨rfl, rfl⟩ c3 fun _ => ?_
        · exact leL_refl _
        (conv => whnf)
        (refine FinSpec.mono ?_; (conv => whnf); refine ⟨?_, rfl⟩; (conv => whnf))
        rw [p1, p2]
        show _ ↔ _
        rw [hcmp]; simp
      · (conv => whnf)
        (refine FinSpec.mono ?_; (conv => whnf); refine ⟨?_, rfl⟩; (conv => whnf))
        simp [p1, p2]
    · (conv => whnf)
      (refine FinSpec.mono ?_; (conv => whnf); refine ⟨?_, rfl⟩; (conv => whnf))
      simp [p1]

theorem c_parts (r : Rat) (hv : FnH Tryz.prog 59 [r.av] [] (.bool (valid r)) []) :
    FnH Tryz.prog 119 [r.av] [] (if valid r = true ∧ r.num ≠ [] then .tup [.bool r.neg, wL r.num, wL r.den] else .tup [.bool false, wL [], wL [1]]) [] := by
  generalize hR : (if valid r = true ∧ r.num ≠ [] then AV.tup [.bool r.neg, wL r.num, wL r.den] else .tup [.bool false, wL [], wL [1]]) = R
  refine FnH.intro lay mixed Tryz.func119 (by kernel_rfl) rfl (by kernel_rfl) rfl fun hok => ?_
  (conv => whnf)
  refine .pure _ _ ?_ ⟨rfl, rfl⟩ hv fun _ => ?_
  · exact leL_refl _
  (conv => whnf)
  refine And.intro (fun p1 => ?_) (fun p1 => ?_)
  · have p1 : valid r = false := by simpa using p1
    rw [if_neg (by simp [p1])] at hR
    subst hR
    (conv => whnf)
    refine .pure _ _ ?_ ⟨rfl, rfl⟩ c_one fun _ => ?_
    · exact leL_refl _
    (conv => whnf)
    (refine FinSpec.mono ?_; (conv => whnf); refine ⟨?_, rfl⟩; (conv => whnf))
    (repeat' (first | exact rfl | exact trivial | exact HWk.refl rfl | exact leRL_refl _ | (refine And.intro ?_ ?_)))
  · have p1 : valid r = true := by simpa using p1
    (conv => whnf)
    refine And.intro (fun p2 => ?_) (fun p2 => ?_)
    · have p2 : r.num = [] := by
        apply List.eq_nil_of_length_eq_zero
        simpa using p2
      rw [if_neg (by simp [p2])] at hR
      subst hR
      (conv => whnf)
      refine .pure _ _ ?_ ⟨rfl, rfl⟩ c_one fun _ => ?_
      · exact leL_refl _
      (conv => whnf)
      (refine FinSpec.mono ?_; (conv => whnf); refine ⟨?_, rfl⟩; (conv => whnf))
      (repeat' (first | exact rfl | exact trivial | exact HWk.refl rfl | exact leRL_refl _ | (refine And.intro ?_ ?_)))
    · have p2 : ¬ r.num = [] := fun e => p2 (by rw [e]; rfl)
      rw [if_pos ⟨p1, p2⟩] at hR
      subst hR
      (conv => whnf)
      (refine ADraw.auto (by kernel_rfl) ?_; (conv => whnf))
      (refine FinSpec.mono ?_; (conv => whnf); refine ⟨?_, rfl⟩; (conv => whnf))
      (repeat' (first | exact rfl | exact trivial | exact HWk.refl rfl | exact leRL_refl _ | (refine And.intro ?_ ?_)))

theorem c_Sign (r : Rat) (hv : FnH Tryz.prog 59 [r.av] [] (.bool (valid r)) []) : FnH Tryz.prog 60 [r.av] [] (.int .i64 (sign r)) [] := by
  have hp := c_parts r hv
  refine FnH.intro lay mixed Tryz.func60 (by kernel_rfl) rfl (by kernel_rfl) rfl fun hok => ?_
  by_cases h : valid r = true ∧ r.num ≠ []
  · rw [if_pos h] at hp
    (conv => whnf)
    refine .pure _ _ ?_ ⟨rfl, rfl⟩ hp fun _ => ?_
    · exact leL_refl _
    (conv => whnf)
    refine And.intro (fun p2 => ?_) (fun _ => ?_)
    · exfalso
      apply h.2
      apply List.eq_nil_of_length_eq_zero
      simpa using p2
    (conv => whnf)
    refine And.intro (fun p2 => ?_) (fun p2 => ?_)
    · (conv => whnf)
      (refine FinSpec.mono ?_; (conv => whnf); refine ⟨?_, rfl⟩; (conv => whnf))
      refine ⟨rfl, ?_⟩
      rw [sign, if_pos h, if_pos p2]
    · (conv => whnf)
      (refine FinSpec.mono ?_; (conv => whnf); refine ⟨?_, rfl⟩; (conv => whnf))
      refine ⟨rfl, ?_⟩
      rw [sign, if_pos h, if_neg (by rw [p2]; simp)]
  · rw [if_neg h] at hp
    (conv => whnf)
    refine .pure _ _ ?_ ⟨rfl, rfl⟩ hp fun _ => ?_
    · exact leL_refl _
    (conv => whnf)
    refine And.intro (fun _ => ?_) (fun p2 => by exfalso; exact p2 rfl)
    (conv => whnf)
    (refine FinSpec.mono ?_; (conv => whnf); refine ⟨?_, rfl⟩; (conv => whnf))
    refine ⟨rfl, ?_⟩
    rw [sign, if_neg h]

theorem c_Prob (r : Rat) (h1 : r.num.length ≤ 1000000) (h2 : r.den.length ≤ 1000000) (hv : FnH Tryz.prog 59 [r.av] [] (.bool (valid r)) []) : FnH Tryz.prog 135 [r.av] [] (.bool (prob r)) [] := by
  have hc := c_Cmp r.num r.den h1 h2
  have hle : (cmpN (val r.num) (val r.den) ≤ 0) ↔ val r.num ≤ val r.den := by
    unfold cmpN
    split
    · omega
    · split <;> omega
  refine FnH.intro lay mixed Tryz.func135 (by kernel_rfl) rfl (by kernel_rfl) rfl fun hok => ?_
  (conv => whnf)
  refine .pure _ _ ?_ ⟨rfl, rfl⟩ hv fun _ => ?_
  · exact leL_refl _
  (conv => whnf)
  refine And.intro (fun p1 => ?_) (fun p1 => ?_)
  · (conv => whnf)
    refine And.intro (fun p2 => ?_) (fun p2 => ?_)
    · (conv => whnf)
      refine .pure _ _ ?_ ⟨rfl, rfl⟩ hc fun _ => ?_
      · exact leL_refl _
      (conv => whnf)
      (refine FinSpec.mono ?_; (conv => whnf); refine ⟨?_, rfl⟩; (conv => whnf))
      show _ ↔ _
      rw [hle]
      simp only [prob, p1, p2, Bool.true_and, decide_eq_true_eq]
    · (conv => whnf)
      (refine FinSpec.mono ?_; (conv => whnf); refine ⟨?_, rfl⟩; (conv => whnf))
      simp [prob, p1, p2]
  · (conv => whnf)
    (refine FinSpec.mono ?_; (conv => whnf); refine ⟨?_, rfl⟩; (conv => whnf))
    simp [prob, p1]

/-- Where the division is known, all is. -/
theorem ratC (r : Rat) (h1 : r.num.length ≤ 1000000) (h2 : r.den.length ≤ 1000000) (hd : ¬ (r.num = [] ∧ r.den = []) → ∀ x y, y ≠ 0 → x ≤ max (val r.num) (val r.den) → y ≤ max (val r.num) (val r.den) → DivC x y) : RatC r := by
  have hv := c_Valid r h1 h2 fun h => c_Gcd r.num r.den h1 h2 (hd h)
  exact ⟨hv, c_Sign r hv, c_Prob r h1 h2 hv⟩

theorem ratC_zero : RatC ⟨false, [], []⟩ := ratC _ (by simp) (by simp) fun h => absurd ⟨rfl, rfl⟩ h

theorem ratC_one : RatC ⟨false, [1], [1]⟩ := by
  refine ratC _ (by simp) (by simp) fun _ x y hy hx hy' => ?_
  have e : max (val [1]) (val [1]) = 1 := by decide
  rw [e] at hx hy'
  exact div_small x y (by have := wd_len_mono hx; rw [wd_small (y := 1) (by omega) (by omega)] at this; simp at this; omega) hy (by omega)
end S
