/-
  Contracts of functions of the program, over the logic of the texts before. Nothing is assumed.
-/
import Derived.Test.YtjalgklpjjkjfaaT5

open Go Go.AL Go.Proofs
namespace S
set_option maxRecDepth 100000

theorem leRL_set25 {A : AV} {b : Bool} (h : leR A (.bool b)) : ∀ (d : List Bool) (i : Nat), leRL ((d.map AV.bool).set i A) ((d.set i b).map AV.bool)
 | [], _ => trivial
 | _ :: _, 0 => ⟨h, leRL_refl _⟩
 | x :: d, i + 1 => ⟨leR_refl _, leRL_set25 h d i⟩
theorem leRL_ff25 : ∀ (n : Nat), leRL (List.replicate n AV.ff) ((List.replicate n false).map AV.bool)
 | 0 => trivial
 | n + 1 => ⟨rfl, leRL_ff25 n⟩

def trK (n k : Nat) : List Bool := List.replicate k true ++ List.replicate (n - k) false
theorem trK_len {n k : Nat} (h : k ≤ n) : (trK n k).length = n := by simp [trK]; omega
theorem trK_set {n k : Nat} (h : k < n) : (trK n k).set k true = trK n (k + 1) := by
 unfold trK
 obtain ⟨r, hr⟩ : ∃ r, n - k = r + 1 := ⟨n - k - 1, by omega⟩
 rw [hr, show n - (k + 1) = r by omega, List.replicate_succ, List.set_append_right _ _ (by simp)]
 simp [List.replicate_succ']

theorem rowF_take {b : Bool} {l : List Int} {d : List Bool} {j : Nat} (h : j < l.length) : rowF b (l.take (j + 1)) d = (rowF b (l.take j) d).set l[j].toNat ((rowF b (l.take j) d).getD l[j].toNat false || b) := by
 rw [List.take_add_one, List.getElem?_eq_getElem h]
 unfold rowF
 rw [List.foldl_append]
 rfl

theorem usesP_row {m : Md} {i : Nat} (h : i < m.pages.length) (h2 : i + 1 < (usesP m).length) : (usesP m)[i + 1] = usN m (insG (pgA m i).gates) := by
 have e : (usesP m)[i + 1]? = some (usN m (insG (pgA m i).gates)) := by
  show (_ :: m.pages.map _)[i + 1]? = _
  rw [List.getElem?_cons_succ, List.getElem?_map, List.getElem?_eq_getElem h, show pgA m i = m.pages[i] from getD_lt h]
  rfl
 rw [List.getElem?_eq_getElem h2] at e
 exact Option.some.inj e

theorem usesP_len25 (m : Md) : (usesP m).length = m.pages.length + 1 := by simp [usesP]

theorem c_PagesCircle (m : Md) : FnH Try.prog 6 [m.av] [] (.bool true) [] := by
 have c0 := c_awake25.weak (R' := .tt) rfl
 have cl := c_LightM m _ rfl
 cases hL : lightM m with
 | false =>
   rw [hL] at cl
   have cl := cl.weak (R' := .ff) rfl
   refine FnH.intro lay mixed Try.func6 (by kernel_rfl) rfl (by kernel_rfl) rfl fun hok => ?_
   (try dsimp only[argC,succC]);(try dsimp only[awp]);conv=>whnf
   refine .pure _ _ ?_ ⟨rfl, rfl⟩ c0 fun _ => ?_
   ·exact leL_refl _
   (try dsimp only[awp]);conv=>whnf
   refine .pure _ _ ?_ ⟨rfl, rfl⟩ cl fun _ => ?_
   ·exact leL_refl _
   (try dsimp only[awp]);conv=>whnf
   refine .pure _ _ ?_ ⟨rfl, rfl⟩ c0 fun _ => ?_
   ·exact leL_refl _
   (try dsimp only[awp]);conv=>whnf
   refine fM ?_;(conv=>whnf);refine ⟨?_,rfl⟩;conv=>whnf
   repeat' first|exact rfl|exact trivial|exact wR|exact lR _|apply aI
 | true =>
 rw [hL] at cl
 have cl := cl.weak (R' := .tt) rfl
 obtain ⟨hB, hC⟩ := lightM_B hL
 have hX := lightM_X hL
 have cc := c_mCheck m hC hB _ rfl
 by_cases hc : checkM m ≠ 0
 ·rw [errAV_ne hc] at cc
  refine FnH.intro lay mixed Try.func6 (by kernel_rfl) rfl (by kernel_rfl) rfl fun hok => ?_
  (try dsimp only[argC,succC]);(try dsimp only[awp]);conv=>whnf
  refine .pure _ _ ?_ ⟨rfl, rfl⟩ c0 fun _ => ?_
  ·exact leL_refl _
  (try dsimp only[awp]);conv=>whnf
  refine .pure _ _ ?_ ⟨rfl, rfl⟩ cl fun _ => ?_
  ·exact leL_refl _
  (try dsimp only[awp]);conv=>whnf
  refine .pure _ _ ?_ ⟨rfl, rfl⟩ cc fun _ => ?_
  ·exact leL_refl _
  (try dsimp only[awp]);conv=>whnf
  refine .pure _ _ ?_ ⟨rfl, rfl⟩ c0 fun _ => ?_
  ·exact leL_refl _
  (try dsimp only[awp]);conv=>whnf
  refine fM ?_;(conv=>whnf);refine ⟨?_,rfl⟩;conv=>whnf
  repeat' first|exact rfl|exact trivial|exact wR|exact lR _|apply aI
 have hc0 := hc
 have hc : checkM m = 0 := by simpa using hc
 rw [hc, errAV_zero] at cc
 have hM := checkM_ok hc
 have cu := c_Uses m hC hB hX _ rfl
 rw [if_neg hc0] at cu
 obtain ⟨l1, l2⟩ := circ_law _ m rfl hc
 have hcase := c_InlineW m hC hB hX hc
 have hul := usesP_len25 m
 have hpl := hB.pages
 have hrow := fun (i : Nat) (h : i < m.pages.length) (h2 : i + 1 < (usesP m).length) => usesP_row (m := m) h h2
 generalize usesP m = U at *
 generalize wantM m = W at *
 generalize (inlP m.pages.length m).2 = E at *
 rcases hcase with ⟨he, cI⟩ | ⟨he, cI⟩
 all_goals
  refine FnH.intro lay mixed Try.func6 (by kernel_rfl) rfl (by kernel_rfl) rfl fun hok => ?_
  (try dsimp only[argC,succC]);(try dsimp only[awp]);conv=>whnf
  refine .pure _ _ ?_ ⟨rfl, rfl⟩ c0 fun _ => ?_
  ·exact leL_refl _
  (try dsimp only[awp]);conv=>whnf
  refine .pure _ _ ?_ ⟨rfl, rfl⟩ cl fun _ => ?_
  ·exact leL_refl _
  (try dsimp only[awp]);conv=>whnf
  refine .pure _ _ ?_ ⟨rfl, rfl⟩ cc fun _ => ?_
  ·exact leL_refl _
  (try dsimp only[awp]);conv=>whnf
  refine .pure _ _ ?_ ⟨rfl, rfl⟩ cu fun _ => ?_
  ·exact leL_refl _
  (try dsimp only[awp]);conv=>whnf
  refine .pure _ _ ?_ ⟨rfl, rfl⟩ cI fun _ => ?_
  ·exact leL_refl _
  (try dsimp only[awp]);conv=>whnf
  refine ⟨inr64 (by simp; omega) (by simp; omega), ?_⟩
  (try dsimp only[awp]);conv=>whnf
  refine And.intro (fun h => by exfalso; apply h; simp [hul]) (fun _ => ?_)
  (try dsimp only[awp]);conv=>whnf
  rw [show (((m.pages.map Pg.av).length : Nat) : Int) = (m.pages.length : Int) by simp]
  refine ⟨⟨by omega, by omega, by show (m.pages.length : Int) * 1 ≤ _; omega, by omega⟩, ?_⟩
  refine .wr ?_
  (try dsimp only[awp]);conv=>whnf
  rw [Int.toNat_natCast]
  refine LoopE.of <| LoopSpec.inv (.refl _ _) (fun (k : Nat) => k ≤ m.pages.length)
   (fun k => [(57, .int .i64 k)]) (fun k => [(2, .arr 1 m.pages.length ((trK m.pages.length k).map .bool)), (1, .box W.av), (0, .box m.av)]) (fun k => m.pages.length - k) 0 ?_ (fun _ => rfl) ?_ ?_
  ·exact Nat.zero_le _
  ·refine ⟨?_, .mk ?_ (by simp [idsOk])⟩
   ·repeat' first|exact rfl|exact trivial|exact wR|exact lR _|apply aI
   ·repeat' first|exact rfl|exact trivial|exact wR|exact lR _|apply aI
    all_goals exact leRL_ff25 _
  intro k hk _
  have hkl0 := trK_len hk
  (try dsimp only[awp]);conv=>whnf
  refine And.intro (fun h => ?_) (fun h => ?_)
  ·have hkl : k < m.pages.length := by simp at h; omega
   have hset := trK_set hkl
   (try dsimp only[awp]);conv=>whnf
   refine ⟨⟨by omega, by omega⟩, ?_⟩
   (try dsimp only[awp]);conv=>whnf
   refine ⟨by simp; omega, rfl, ?_⟩
   (try dsimp only[awp]);conv=>whnf
   refine zA ?_;conv=>whnf
   refine ⟨k + 1, ?_, ?_, ?_⟩
   ·exact hkl
   ·rw [← hset]
    refine ⟨?_, .mk ?_ (by simp [idsOk])⟩
    ·repeat' first|exact rfl|exact trivial|exact wR|exact lR _|apply aI
    ·repeat' first|exact rfl|exact trivial|exact wR|exact lR _|apply aI
     all_goals (rw [Nat.zero_add, Int.toNat_natCast]; refine leRL_set25 ?_ _ _; first | exact rfl | (show _ ↔ _; simp))
   ·omega
  have hkl : k = m.pages.length := by simp at h; omega
  subst hkl
  clear h
  rw [show trK m.pages.length m.pages.length = atK m 0 by simp [trK, atK]]
  (try dsimp only[awp]);conv=>whnf
  refine LoopE.of <| LoopSpec.invC (.freeze 7 2 0 m.pages.length m.pages.length m.pages.length 1 _ rfl rfl (by simp [atK_len]) (.refl _ _)) (fun (t : Nat) => t ≤ m.pages.length)
   (fun t => [(67, .int .i64 t), (7, .sl 1 ((atK m t).map .bool) .no)]) (fun _ => [(2, .gone), (1, .box W.av), (0, .box m.av)]) (fun t => m.pages.length - t) 0 ?_ (fun _ => rfl) ?_ ?_
  ·exact Nat.zero_le _
  ·refine ⟨?_, .mk ?_ (by simp [idsOk])⟩
   ·repeat' first|exact rfl|exact trivial|exact wR|exact lR _|apply aI
    all_goals (refine leRL_of ?_; rw [List.drop_zero, List.take_of_length_le (by simp [atK_len])])
   ·repeat' first|exact rfl|exact trivial|exact wR|exact lR _|apply aI
  intro t ht _
  have htl := atK_len (m := m) t
  (try dsimp only[awp]);conv=>whnf
  refine And.intro (fun h => ?_) (fun h => ?_)
  ·have htlt : t < m.pages.length := by simpa using h
   clear h
   generalize hA : atK m t = A at *
   (try dsimp only[awp]);conv=>whnf
   rw [show (((A.map AV.bool).length : Nat) : Int) = (m.pages.length : Int) by simp [htl]]
   refine ⟨⟨by omega, by omega, by show (m.pages.length : Int) * 1 ≤ _; omega, by omega⟩, ?_⟩
   refine .wr ?_
   (try dsimp only[awp]);conv=>whnf
   rw [Int.toNat_natCast]
   refine LoopE.of <| LoopSpec.inv (.refl _ _) (fun (i : Nat) => i ≤ m.pages.length)
    (fun i => [(74, .int .i64 i)]) (fun i => [(3, .arr 1 m.pages.length ((stepK m A i).map .bool)), (2, .gone), (1, .box W.av), (0, .box m.av)]) (fun i => m.pages.length - i) 0 ?_ (fun _ => rfl) ?_ ?_
   ·exact Nat.zero_le _
   ·refine ⟨?_, .mk ?_ (by simp [idsOk])⟩
    ·repeat' first|exact rfl|exact trivial|exact wR|exact lR _|apply aI
    ·repeat' first|exact rfl|exact trivial|exact wR|exact lR _|apply aI
     all_goals exact leRL_ff25 _
   intro i hi _
   have hsl := stepK_len (m := m) (d := A) i
   (try dsimp only[awp]);conv=>whnf
   refine And.intro (fun h => ?_) (fun h => ?_)
   ·have hil : i < m.pages.length := by simp [htl] at h; omega
    have hsi : stepK m A (i + 1) = rowF (A.getD i false) (usN m (insG (pgA m i).gates)) (stepK m A i) := rfl
    have hbd := usN_bd (m := m) (names := insG (pgA m i).gates)
    have hll : (usN m (insG (pgA m i).gates)).length ≤ 30 := by
     have := usK_len (m := m) (names := insG (pgA m i).gates) (k := m.pages.length)
     unfold usN
     rw [List.length_map]; omega
    (try dsimp only[awp]);conv=>whnf
    refine aidxD false ⟨by omega, by omega⟩ ?_
    rw [Int.toNat_natCast]
    (try dsimp only[awp]);conv=>whnf
    refine zA ?_;conv=>whnf
    rw [show (i : Int) + 1 = ((i + 1 : Nat) : Int) by omega]
    refine aidx (show i + 1 < U.length by omega) ?_
    rw [hrow i hil (by omega)]
    generalize usN m (insG (pgA m i).gates) = l at *
    generalize A.getD i false = b at *
    generalize stepK m A i = D at *
    (try dsimp only[awp]);conv=>whnf
    refine LoopE.of <| LoopSpec.inv (.refl _ _) (fun (j : Nat) => j ≤ l.length)
     (fun j => [(85, .int .i64 j)]) (fun j => [(3, .arr 1 m.pages.length ((rowF b (l.take j) D).map .bool)), (2, .gone), (1, .box W.av), (0, .box m.av)]) (fun j => l.length - j) 0 ?_ (fun _ => rfl) ?_ ?_
    ·exact Nat.zero_le _
    ·refine ⟨?_, .mk ?_ (by simp [idsOk])⟩
     ·repeat' first|exact rfl|exact trivial|exact wR|exact lR _|apply aI
     ·repeat' first|exact rfl|exact trivial|exact wR|exact lR _|apply aI
    intro j hj _
    have hrl := rowF_len b (l.take j) D
    (try dsimp only[awp]);conv=>whnf
    refine And.intro (fun hh => ?_) (fun hh => ?_)
    ·have hjl : j < l.length := by simpa using hh
     have hrt := rowF_take (b := b) (d := D) hjl
     have hy := hbd _ (List.getElem_mem hjl)
     (try dsimp only[awp]);conv=>whnf
     refine aidx hjl ?_
     generalize l[j] = y at *
     generalize rowF b (l.take j) D = D2 at *
     (try dsimp only[awp]);conv=>whnf
     refine And.intro (fun h1 => by exfalso; omega) (fun h1 => ?_)
     (try dsimp only[awp]);conv=>whnf
     refine And.intro (fun h2 => by exfalso; omega) (fun h2 => ?_)
     (try dsimp only[awp]);conv=>whnf
     refine ⟨⟨by omega, by omega⟩, ?_⟩
     (try dsimp only[awp]);conv=>whnf
     rw [Nat.zero_add]
     refine aidxD false ⟨by omega, by omega⟩ ?_
     rw [Int.toNat_natCast]
     refine ⟨rfl, ?_⟩
     (try dsimp only[awp]);conv=>whnf
     generalize D2.getD y.toNat false = x at *
     refine And.intro (fun h3 => ?_) (fun h3 => ?_)
     all_goals
      (try dsimp only[awp]);conv=>whnf
      refine ⟨⟨by omega, by omega⟩, ?_⟩
      (try dsimp only[awp]);conv=>whnf
      refine ⟨by simp; omega, rfl, ?_⟩
      (try dsimp only[awp]);conv=>whnf
      refine zA ?_;conv=>whnf
      refine ⟨j + 1, ?_, ?_, ?_⟩
      ·exact hjl
      ·rw [hrt]
       refine ⟨?_, .mk ?_ (by simp [idsOk])⟩
       ·repeat' first|exact rfl|exact trivial|exact wR|exact lR _|apply aI
       ·repeat' first|exact rfl|exact trivial|exact wR|exact lR _|apply aI
        all_goals (rw [Nat.zero_add]; refine leRL_set25 ?_ _ _; first | exact rfl | (rw [h3]; exact rfl) | (show _ ↔ _; simp [h3]) | (show (_ : Bool) = _; simp [h3]))
      ·omega
    have hjl : j = l.length := by have : ¬ j < l.length := by simpa using hh
                                  omega
    subst hjl
    rw [List.take_length, ← hsi]
    clear hh
    (try dsimp only[awp]);conv=>whnf
    refine zA ?_;conv=>whnf
    refine ⟨i + 1, ?_, ?_, ?_⟩
    ·exact hil
    ·refine ⟨?_, .mk ?_ (by simp [idsOk])⟩
     ·repeat' first|exact rfl|exact trivial|exact wR|exact lR _|apply aI
     ·repeat' first|exact rfl|exact trivial|exact wR|exact lR _|apply aI
    ·omega
   have hil : i = m.pages.length := by simp [htl] at h; omega
   subst hil
   clear h
   rw [show stepK m A m.pages.length = atK m (t + 1) by rw [← hA]; rfl]
   (try dsimp only[awp]);conv=>whnf
   refine zA ?_;conv=>whnf
   refine ⟨t + 1, ?_, ⟨_, _, .freeze 7 3 0 m.pages.length m.pages.length m.pages.length 1 _ rfl rfl (by simp [atK_len]) (.refl _ _), ?_, ?_⟩, ?_⟩
   ·exact htlt
   ·repeat' first|exact rfl|exact trivial|exact wR|exact lR _|apply aI
    all_goals (refine leRL_of ?_; rw [List.drop_zero, List.take_of_length_le (by simp [atK_len])])
   ·refine .mk ?_ (by simp [idsOk])
    repeat' first|exact rfl|exact trivial|exact wR|exact lR _|apply aI
   ·omega
  have htn : t = m.pages.length := by have : ¬ t < m.pages.length := by simpa using h
                                      omega
  subst htn
  clear h
  have hci := circ_any (m := m) (t := m.pages.length)
  have hAl : (atK m m.pages.length).length ≤ 30 := by rw [atK_len]; exact hpl
  generalize atK m m.pages.length = A at *
  (try dsimp only[awp]);conv=>whnf
  refine LoopE.of <| LoopSpec.inv (.refl _ _) (fun (k : Nat) => k ≤ A.length) (fun (k : Nat) => [(113, .int .i64 k), (14, .bool ((A.take k).any id))]) (fun _ => _) (fun (k : Nat) => A.length - k) 0 ?_ (fun _ => rfl) ?_ ?_
  ·exact Nat.zero_le _
  ·repeat' first|exact rfl|exact trivial|exact wR|exact lR _|apply aI
  rintro k hk _
  (try dsimp only[awp]);conv=>whnf
  refine And.intro (fun h => ?_) (fun h => ?_)
  ·have hkl : k < A.length := by simpa using h
   have ht2 := take_one hkl
   (try dsimp only[awp]);conv=>whnf
   refine aidx hkl ?_
   generalize A[k] = x at *
   generalize A.take k = L at *
   (try dsimp only[awp]);conv=>whnf
   refine And.intro (fun h3 => ?_) (fun h3 => ?_)
   all_goals
    (try dsimp only[awp]);conv=>whnf
    refine zA ?_;conv=>whnf
    refine ⟨k + 1, ?_, ?_, ?_⟩
    ·exact hkl
    ·rw [ht2, List.any_append, h3]
     refine ⟨?_, .mk ?_ (by simp [idsOk])⟩
     ·repeat' first|exact rfl|exact trivial|exact wR|exact lR _|apply aI
      all_goals first | (show _ ↔ _; simp; done) | (show (_ : Bool) = _; simp; done) | simp
     ·repeat' first|exact rfl|exact trivial|exact wR|exact lR _|apply aI
    ·omega
  have hkl : k = A.length := by have : ¬ k < A.length := by simpa using h
                                omega
  subst hkl
  rw [List.take_length]
  clear h
  first
   | (have hno : A.any id = false := by
        cases hb : A.any id with
        | false => rfl
        | true => exact absurd (hci.1 hb) (l2 he)
      rw [hno]
      (try dsimp only[awp]);conv=>whnf
      refine fM ?_;(conv=>whnf);refine ⟨?_,rfl⟩;conv=>whnf
      repeat' first|exact rfl|exact trivial|exact wR|exact lR _|apply aI
      done)
   | (have cs := c_Is E 14
      rw [errAV_ne he] at cs
      by_cases h14 : E = 14
      ·have hyes : A.any id = true := hci.2 (l1 h14 _)
       rw [hyes]
       have cs := cs.weak (R' := .tt) (by show decide _ = true; simp [h14])
       (try dsimp only[awp]);conv=>whnf
       refine .pure _ _ ?_ ⟨rfl, rfl⟩ cs fun _ => ?_
       ·exact leL_refl _
       (try dsimp only[awp]);conv=>whnf
       refine fM ?_;(conv=>whnf);refine ⟨?_,rfl⟩;conv=>whnf
       repeat' first|exact rfl|exact trivial|exact wR|exact lR _|apply aI
      ·have cs := cs.weak (R' := .ff) (by show decide _ = false; simp [h14])
       (try dsimp only[awp]);conv=>whnf
       refine .pure _ _ ?_ ⟨rfl, rfl⟩ cs fun _ => ?_
       ·exact leL_refl _
       (try dsimp only[awp]);conv=>whnf
       refine fM ?_;(conv=>whnf);refine ⟨?_,rfl⟩;conv=>whnf
       (repeat' first|exact rfl|exact trivial|exact wR|exact lR _|apply aI))
  all_goals trace_state

theorem list_of {α : Type} {f : α → AV} : ∀ {l : List AV}, (∀ x ∈ l, ∃ y, x = f y) → ∃ m : List α, l = m.map f
 | [], _ => ⟨[], rfl⟩
 | x :: l, h => by
   obtain ⟨y, rfl⟩ := h x (by simp)
   obtain ⟨m, rfl⟩ := list_of (l := l) fun z hz => h z (by simp [hz])
   exact ⟨y :: m, rfl⟩

theorem ints_of {sz : Nat} {k : IntKind} {A : AV} (h : (Sh.sl sz (.int k)).In A) : ∃ l : List Int, A = .sl sz (l.map (.int k)) .no := by
 simp only [Sh.In] at h
 obtain ⟨l, rfl, hl⟩ := h
 obtain ⟨m, rfl⟩ := list_of hl
 exact ⟨m, rfl⟩

abbrev shRat : Sh := .st [.bool, .sl 1 (.int .u32), .sl 1 (.int .u32)]
theorem Rat.of {A : AV} (h : shRat.In A) : ∃ r : Rat, A = r.av := by
 simp only [Sh.In, InL] at h
 obtain ⟨_, rfl, _, _, rfl, ⟨b, rfl⟩, _, _, rfl, h1, _, _, rfl, h2, rfl⟩ := h
 obtain ⟨n, rfl⟩ := ints_of (sz := 1) (k := .u32) (by simp only [Sh.In]; exact h1)
 obtain ⟨d, rfl⟩ := ints_of (sz := 1) (k := .u32) (by simp only [Sh.In]; exact h2)
 exact ⟨⟨b, n, d⟩, rfl⟩

theorem rats_of {A : AV} (h : (Sh.sl 3 shRat).In A) : ∃ l : List Rat, A = .sl 3 (l.map Rat.av) .no := by
 unfold Sh.In at h
 obtain ⟨l, rfl, hl⟩ := h
 obtain ⟨m, rfl⟩ := list_of fun x hx => Rat.of (hl x hx)
 exact ⟨m, rfl⟩

theorem int_of {k : IntKind} {A : AV} (h : (Sh.int k).In A) : ∃ n : Int, A = .int k n := by
 simpa only [Sh.In] using h

theorem str_of {A : AV} (h : Sh.str.In A) : ∃ s : List UInt8, A = .str s := by
 simpa only [Sh.In] using h

theorem sl_of {α : Type} {f : α → AV} {sh : Sh} {sz : Nat} {A : AV} (hf : ∀ x, sh.In x → ∃ y, x = f y) (h : (Sh.sl sz sh).In A) : ∃ l : List α, A = .sl sz (l.map f) .no := by
 unfold Sh.In at h
 obtain ⟨l, rfl, hl⟩ := h
 obtain ⟨m, rfl⟩ := list_of fun x hx => hf x (hl x hx)
 exact ⟨m, rfl⟩

abbrev shEv : Sh := .st [.str, shRat, shRat, shRat, .int .i64]
abbrev shHs : Sh := .st [.str, .bool]
abbrev shMg : Sh := .st [.str, .int .i64, .int .i64, .sl 1 .str, shRat]
abbrev shPg : Sh := .st [.str, .str, .sl 7 shMg]
abbrev shGr : Sh := .st [.str, .int .i64, .sl 1 .str, .sl 3 shRat]
abbrev shPv : Sh := .st [.str, shRat]
abbrev shPh : Sh := .st [.str, .str, .sl 4 shPv]
abbrev shMd : Sh := .st [.str, .str, .sl 11 shEv, .sl 2 shHs, .sl 7 shMg, .sl 3 shPg, .sl 4 shGr, .sl 3 shPh]

theorem strs_of {A : AV} (h : (Sh.sl 1 .str).In A) : ∃ l : List Str, A = sL l := sl_of (f := AV.str) (fun _ hx => str_of hx) h

theorem Ev.of {A : AV} (h : shEv.In A) : ∃ x : Ev, A = x.av := by
 unfold Sh.In at h
 simp only [InL] at h
 obtain ⟨_, rfl, _, _, rfl, h0, _, _, rfl, h1, _, _, rfl, h2, _, _, rfl, h3, _, _, rfl, h4, rfl⟩ := h
 obtain ⟨a, rfl⟩ := str_of h0
 obtain ⟨b, rfl⟩ := Rat.of h1
 obtain ⟨c, rfl⟩ := Rat.of h2
 obtain ⟨d, rfl⟩ := Rat.of h3
 obtain ⟨e, rfl⟩ := int_of h4
 exact ⟨⟨a, b, c, d, e⟩, rfl⟩

theorem Hs.of {A : AV} (h : shHs.In A) : ∃ x : Hs, A = x.av := by
 unfold Sh.In at h
 simp only [InL] at h
 obtain ⟨_, rfl, _, _, rfl, h0, _, _, rfl, h1, rfl⟩ := h
 obtain ⟨a, rfl⟩ := str_of h0
 simp only [Sh.In] at h1
 obtain ⟨b, rfl⟩ := h1
 exact ⟨⟨a, b⟩, rfl⟩

theorem Mg.of {A : AV} (h : shMg.In A) : ∃ x : Mg, A = x.av := by
 unfold Sh.In at h
 simp only [InL] at h
 obtain ⟨_, rfl, _, _, rfl, h0, _, _, rfl, h1, _, _, rfl, h2, _, _, rfl, h3, _, _, rfl, h4, rfl⟩ := h
 obtain ⟨a, rfl⟩ := str_of h0
 obtain ⟨b, rfl⟩ := int_of h1
 obtain ⟨c, rfl⟩ := int_of h2
 obtain ⟨d, rfl⟩ := strs_of h3
 obtain ⟨e, rfl⟩ := Rat.of h4
 exact ⟨⟨a, b, c, d, e⟩, rfl⟩

theorem Pg.of {A : AV} (h : shPg.In A) : ∃ x : Pg, A = x.av := by
 unfold Sh.In at h
 simp only [InL] at h
 obtain ⟨_, rfl, _, _, rfl, h0, _, _, rfl, h1, _, _, rfl, h2, rfl⟩ := h
 obtain ⟨a, rfl⟩ := str_of h0
 obtain ⟨b, rfl⟩ := str_of h1
 obtain ⟨c, rfl⟩ := sl_of (f := Mg.av) (fun _ hx => Mg.of hx) h2
 exact ⟨⟨a, b, c⟩, rfl⟩

theorem Gr.of {A : AV} (h : shGr.In A) : ∃ x : Gr, A = x.av := by
 unfold Sh.In at h
 simp only [InL] at h
 obtain ⟨_, rfl, _, _, rfl, h0, _, _, rfl, h1, _, _, rfl, h2, _, _, rfl, h3, rfl⟩ := h
 obtain ⟨a, rfl⟩ := str_of h0
 obtain ⟨b, rfl⟩ := int_of h1
 obtain ⟨c, rfl⟩ := strs_of h2
 obtain ⟨d, rfl⟩ := rats_of h3
 exact ⟨⟨a, b, c, d⟩, rfl⟩

theorem Pv.of {A : AV} (h : shPv.In A) : ∃ x : Pv, A = x.av := by
 unfold Sh.In at h
 simp only [InL] at h
 obtain ⟨_, rfl, _, _, rfl, h0, _, _, rfl, h1, rfl⟩ := h
 obtain ⟨a, rfl⟩ := str_of h0
 obtain ⟨b, rfl⟩ := Rat.of h1
 exact ⟨⟨a, b⟩, rfl⟩

theorem Ph.of {A : AV} (h : shPh.In A) : ∃ x : Ph, A = x.av := by
 unfold Sh.In at h
 simp only [InL] at h
 obtain ⟨_, rfl, _, _, rfl, h0, _, _, rfl, h1, _, _, rfl, h2, rfl⟩ := h
 obtain ⟨a, rfl⟩ := str_of h0
 obtain ⟨b, rfl⟩ := str_of h1
 obtain ⟨c, rfl⟩ := sl_of (f := Pv.av) (fun _ hx => Pv.of hx) h2
 exact ⟨⟨a, b, c⟩, rfl⟩

theorem Md.of {A : AV} (h : shMd.In A) : ∃ x : Md, A = x.av := by
 unfold Sh.In at h
 simp only [InL] at h
 obtain ⟨_, rfl, _, _, rfl, h0, _, _, rfl, h1, _, _, rfl, h2, _, _, rfl, h3, _, _, rfl, h4, _, _, rfl, h5, _, _, rfl, h6, _, _, rfl, h7, rfl⟩ := h
 obtain ⟨a, rfl⟩ := str_of h0
 obtain ⟨b, rfl⟩ := str_of h1
 obtain ⟨c, rfl⟩ := sl_of (f := Ev.av) (fun _ hx => Ev.of hx) h2
 obtain ⟨d, rfl⟩ := sl_of (f := Hs.av) (fun _ hx => Hs.of hx) h3
 obtain ⟨e, rfl⟩ := sl_of (f := Mg.av) (fun _ hx => Mg.of hx) h4
 obtain ⟨f, rfl⟩ := sl_of (f := Pg.av) (fun _ hx => Pg.of hx) h5
 obtain ⟨g, rfl⟩ := sl_of (f := Gr.av) (fun _ hx => Gr.of hx) h6
 obtain ⟨i, rfl⟩ := sl_of (f := Ph.av) (fun _ hx => Ph.of hx) h7
 exact ⟨⟨a, b, c, d, e, f, g, i⟩, rfl⟩

structure Ak where
 page : Int
 inp : Str
 old : Str
 new : Str

end S
