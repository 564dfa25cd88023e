/-
  Contracts of functions of the program, over the logic of the texts before. Nothing is assumed.
-/
import Derived.Test.YtjalgklpjjkjfaaGreatT5

open Go Go.AL Go.Proofs
namespace S
set_option maxRecDepth 100000

theorem mgE_7 {q : Md} {i : Nat} (hM : MOk q) (hi : i < q.pages.length) : (innerP q i = true → mgE q i = 7) ∧ (innerP q i = false → mgE q i ≠ 7) := by
 unfold mgE
 refine ⟨fun h => if_pos h, fun h => ?_⟩
 rw [if_neg (by rw [h]; simp)]
 split
 ·decide
 ·exact (mg_err hM hi h).1

def mdZ : Md := ⟨[], [], [], [], [], [], [], []⟩
def wantM (m : Md) : Md := if (inlP m.pages.length m).2 = 0 then (inlP m.pages.length m).1 else mdZ

theorem c_InlineW (m : Md) (hC : MdC m) (hB : MdB m) (hX : MdX m) (h0 : checkM m = 0) :
  ((inlP m.pages.length m).2 = 0 ∧ FnH Tryz.prog 29 [m.av] [] (.tup [(wantM m).av, .nilI]) []) ∨ ((inlP m.pages.length m).2 ≠ 0 ∧ FnH Tryz.prog 29 [m.av] [] (.tup [(wantM m).av, .ifc 90 (.int .i64 (inlP m.pages.length m).2)]) []) := by
 have ci := c_Inline m hC hB hX _ rfl
 rw [show inlineAV m = inlAV (inlP m.pages.length m) from if_neg (by rw [h0]; simp)] at ci
 unfold inlAV at ci
 unfold wantM
 by_cases h : (inlP m.pages.length m).2 = 0
 ·rw [if_pos h] at ci ⊢
  exact .inl ⟨h, ci⟩
 ·rw [if_neg h] at ci ⊢
  exact .inr ⟨h, ci.weak (by (repeat' first|exact rfl|exact trivial|apply aI))⟩

theorem c_Is77 : FnH Tryz.prog 40 [.ifc 90 (.int .i64 7), .int .i64 7] [] .tt [] := by
 have := (c_Is 7 7).weak (R' := .tt) (by show decide _ = true; decide)
 rwa [errAV_ne (by decide)] at this
theorem c_Is1414 : FnH Tryz.prog 40 [.ifc 90 (.int .i64 14), .int .i64 14] [] .tt [] := by
 have := (c_Is 14 14).weak (R' := .tt) (by show decide _ = true; decide)
 rwa [errAV_ne (by decide)] at this
theorem c_Is07 : FnH Tryz.prog 40 [.nilI, .int .i64 7] [] .ff [] := by
 have := (c_Is 0 7).weak (R' := .ff) (by show decide _ = false; decide)
 rwa [errAV_zero] at this

theorem c_PagesSteps (m : Md) : FnH Tryz.prog 10 [m.av] [] (.bool true) [] := by
 have c0 := c_awake25.weak (R' := .tt) rfl
 have cl := c_LightM m _ rfl
 cases hL : lightM m with
 | false =>
   rw [hL] at cl
   have cl := cl.weak (R' := .ff) rfl
   refine FnH.intro lay mixed Tryz.func10 (by kernel_rfl) rfl (by kernel_rfl) rfl fun hok => ?_
   (try dsimp only[argC,succC]);(try dsimp only[awp]);conv=>whnf
   refine .pure _ _ ?_ ⟨rfl, rfl⟩ c0 fun _ => ?_
   ·exact leL_refl _
   (try dsimp only[awp]);conv=>whnf
   refine .pure _ _ ?_ ⟨rfl, rfl⟩ cl fun _ => ?_
   ·exact leL_refl _
   (try dsimp only[awp]);conv=>whnf
   refine .pure _ _ ?_ ⟨rfl, rfl⟩ c0 fun _ => ?_
   ·exact leL_refl _
   (try dsimp only[awp]);conv=>whnf
   refine fM ?_;(conv=>whnf);refine ⟨?_,rfl⟩;conv=>whnf
   repeat' first|exact rfl|exact trivial|exact wR|exact lR _|apply aI
 | true =>
 rw [hL] at cl
 have cl := cl.weak (R' := .tt) rfl
 obtain ⟨hB, hC⟩ := lightM_B hL
 have hX := lightM_X hL
 have cc := c_mCheck m hC hB _ rfl
 by_cases hc : checkM m ≠ 0
 ·rw [errAV_ne hc] at cc
  refine FnH.intro lay mixed Tryz.func10 (by kernel_rfl) rfl (by kernel_rfl) rfl fun hok => ?_
  (try dsimp only[argC,succC]);(try dsimp only[awp]);conv=>whnf
  refine .pure _ _ ?_ ⟨rfl, rfl⟩ c0 fun _ => ?_
  ·exact leL_refl _
  (try dsimp only[awp]);conv=>whnf
  refine .pure _ _ ?_ ⟨rfl, rfl⟩ cl fun _ => ?_
  ·exact leL_refl _
  (try dsimp only[awp]);conv=>whnf
  refine .pure _ _ ?_ ⟨rfl, rfl⟩ cc fun _ => ?_
  ·exact leL_refl _
  (try dsimp only[awp]);conv=>whnf
  refine .pure _ _ ?_ ⟨rfl, rfl⟩ c0 fun _ => ?_
  ·exact leL_refl _
  (try dsimp only[awp]);conv=>whnf
  refine fM ?_;(conv=>whnf);refine ⟨?_,rfl⟩;conv=>whnf
  repeat' first|exact rfl|exact trivial|exact wR|exact lR _|apply aI
 have hc : checkM m = 0 := by simpa using hc
 rw [hc, errAV_zero] at cc
 have hM := checkM_ok hc
 have hm := pgB_of hB hX hM
 have hp8 : m.pages.length ≤ 8 := by
  have := hM.pages
  unfold pagesErr at this
  split at this
  ·cases this
  ·omega
 have hWm : (inlP m.pages.length m).2 = 0 → wantM m = (inlP m.pages.length m).1 := fun h => if_pos h
 have hcase := c_InlineW m hC hB hX hc
 generalize wantM m = W at *
 rcases hcase with ⟨he, cI⟩ | ⟨he, cI⟩
 all_goals
  refine FnH.intro lay mixed Tryz.func10 (by kernel_rfl) rfl (by kernel_rfl) rfl fun hok => ?_
  (try dsimp only[argC,succC]);(try dsimp only[awp]);conv=>whnf
  refine .pure _ _ ?_ ⟨rfl, rfl⟩ c0 fun _ => ?_
  ·exact leL_refl _
  (try dsimp only[awp]);conv=>whnf
  refine .pure _ _ ?_ ⟨rfl, rfl⟩ cl fun _ => ?_
  ·exact leL_refl _
  (try dsimp only[awp]);conv=>whnf
  refine .pure _ _ ?_ ⟨rfl, rfl⟩ cc fun _ => ?_
  ·exact leL_refl _
  (try dsimp only[awp]);conv=>whnf
  refine .pure _ _ ?_ ⟨rfl, rfl⟩ cI fun _ => ?_
  ·exact leL_refl _
  (try dsimp only[awp]);conv=>whnf
  refine LoopE.of <| LoopSpec.inv (.refl _ _) (fun (s : Nat × Md) => PgB s.2 ∧ MdC s.2 ∧ checkM s.2 = 0 ∧ inlP m.pages.length m = inlP s.2.pages.length s.2 ∧ s.2.pages.length + s.1 ≤ 8)
   (fun s => [(27, .int .i64 (s.1 : Nat))]) (fun s => [(1, .box W.av), (0, .box s.2.av)]) (fun s => 10 - s.1) (0, m) ?_ (fun _ => rfl) ?_ ?_
  ·exact ⟨hm, hC, hc, rfl, by simpa using hp8⟩
  ·refine ⟨?_, .mk ?_ (by simp [idsOk])⟩
   ·repeat' first|exact rfl|exact trivial|exact wR|exact lR _|apply aI
   ·repeat' first|exact rfl|exact trivial|exact wR|exact lR _|apply aI
  rintro ⟨k, q⟩ ⟨hq, hqC, hq0, hqI, hk8⟩ _
  dsimp only at hq hqC hq0 hqI hk8
  have hqM := checkM_ok hq0
  (try dsimp only[awp]);conv=>whnf
  refine And.intro (fun h => ?_) (fun h => by exfalso; apply h; show (k : Int) < 10; omega)
  (try dsimp only[awp]);conv=>whnf
  refine And.intro (fun h1 => ?_) (fun h1 => ?_)
  ·have hq1 : q.pages.length = 0 := by simp at h1; rw [h1]; rfl
   rw [inlP_end hq1] at hqI
   first
    | (exfalso; exact he (by rw [hqI]))
    | (obtain rfl : W = q := by rw [hWm he, hqI]
       have cs := c_Same1 W (fun p hp => by have := hq.B.vals p hp; omega)
       (try dsimp only[awp]);conv=>whnf
       refine .pure _ _ ?_ ⟨rfl, rfl⟩ cs fun _ => ?_
       ·exact leL_refl _
       (try dsimp only[awp]);conv=>whnf
       refine fM ?_;(conv=>whnf);refine ⟨?_,rfl⟩;conv=>whnf
       (repeat' first|exact rfl|exact trivial|exact wR|exact lR _|apply aI))
  have hq1 : q.pages.length ≠ 0 := by intro e; apply h1; simp [e]
  have hst := inlP_step hq1
  (try dsimp only[awp]);conv=>whnf
  refine LoopE.of <| LoopSpec.inv (.refl _ _) (fun (i : Nat) => i ≤ q.pages.length ∧ freeP q = freeP.idxN q i (q.pages.length - i)) (fun (i : Nat) => [(43, .int .i64 i), (5, .ff)]) (fun _ => _) (fun (i : Nat) => q.pages.length - i) 0 ?_ (fun _ => rfl) ?_ ?_
  ·exact ⟨Nat.zero_le _, rfl⟩
  ·repeat' first|exact rfl|exact trivial|exact wR|exact lR _|apply aI
  rintro i ⟨hi, hfr⟩ _
  (try dsimp only[awp]);conv=>whnf
  refine And.intro (fun h2 => ?_) (fun h2 => ?_)
  ·have hil : i < q.pages.length := by simpa using h2
   rw [idxN_step hil] at hfr
   have cm := c_Merge q (i : Int) hqC hq.B hq.X _ rfl
   rw [show mergeAV q (i : Int) = mgAV (mgN q i) (mgE q i) by unfold mergeAV; rw [if_neg (by rw [hq0]; simp), if_neg (by omega), Int.toNat_natCast]] at cm
   obtain ⟨hm7, hm0⟩ := mgE_7 hqM hil
   cases hin : innerP q i with
   | true =>
     rw [hin, if_pos rfl] at hfr
     rw [hm7 hin] at cm
     rw [show mgAV (mgN q i) 7 = .tup [zMd, .ifc 90 (.int .i64 7)] from if_neg (by decide)] at cm
     (try dsimp only[awp]);conv=>whnf
     refine .pure _ _ ?_ ⟨rfl, rfl⟩ cm fun _ => ?_
     ·exact leL_refl _
     (try dsimp only[awp]);conv=>whnf
     refine .pure _ _ ?_ ⟨rfl, rfl⟩ c_Is77 fun _ => ?_
     ·exact leL_refl _
     (try dsimp only[awp]);conv=>whnf
     refine zA ?_;conv=>whnf
     refine ⟨i + 1, ?_, ?_, ?_⟩
     ·exact ⟨hil, hfr⟩
     ·refine ⟨?_, .mk ?_ (by simp [idsOk])⟩
      ·repeat' first|exact rfl|exact trivial|exact wR|exact lR _|apply aI
      ·repeat' first|exact rfl|exact trivial|exact wR|exact lR _|apply aI
     ·omega
   | false =>
     rw [hin, if_neg (by simp)] at hfr
     have hm0 := hm0 hin
     rw [hfr, if_neg (by omega)] at hst
     by_cases h4 : mgE q i = 0
     ·rw [if_pos h4] at hst
      rw [show mgAV (mgN q i) (mgE q i) = .tup [(mgN q i).av, .nilI] from if_pos h4] at cm
      obtain ⟨_, _, h5⟩ := mgE_zero h4
      have hn := checkM_ok h5
      have nB := mg_B hil hq.B (total64 hq0)
      have nl := mg_pages hil
      (try dsimp only[awp]);conv=>whnf
      refine .pure _ _ ?_ ⟨rfl, rfl⟩ cm fun _ => ?_
      ·exact leL_refl _
      (try dsimp only[awp]);conv=>whnf
      refine .pure _ _ ?_ ⟨rfl, rfl⟩ c_Is07 fun _ => ?_
      ·exact leL_refl _
      (try dsimp only[awp]);conv=>whnf
      refine zA ?_;conv=>whnf
      refine ⟨(k + 1, mgN q i), ?_, ?_, ?_⟩
      ·exact ⟨pgB_of nB (mg_X hil hq.X) hn, mg_C hil hqC, h5, by rw [hqI, hst, nl], by show (mgN q i).pages.length + (k + 1) ≤ 8; omega⟩
      ·refine ⟨?_, .mk ?_ (by simp [idsOk])⟩
       ·repeat' first|exact rfl|exact trivial|exact wR|exact lR _|apply aI
       ·repeat' first|exact rfl|exact trivial|exact wR|exact lR _|apply aI
      ·show 10 - (k + 1) < 10 - k
       omega
     ·rw [if_neg h4] at hst
      rw [show mgAV (mgN q i) (mgE q i) = .tup [zMd, .ifc 90 (.int .i64 (mgE q i))] from if_neg h4] at cm
      have hE : (inlP m.pages.length m).2 = mgE q i := by rw [hqI, hst]
      have cs := (c_Is (mgE q i) 7).weak (R' := .ff) (by show decide _ = false; simp [hm0])
      rw [errAV_ne h4] at cs
      have cn := c_Num (mgE q i)
      rw [errAV_ne h4] at cn
      first
       | (exfalso; exact h4 (by rw [← hE]; exact he))
       | (rw [hE]
          (try dsimp only[awp]);conv=>whnf
          refine .pure _ _ ?_ ⟨rfl, rfl⟩ cm fun _ => ?_
          ·exact leL_refl _
          (try dsimp only[awp]);conv=>whnf
          refine .pure _ _ ?_ ⟨rfl, rfl⟩ cs fun _ => ?_
          ·exact leL_refl _
          (try dsimp only[awp]);conv=>whnf
          refine .pure _ _ ?_ ⟨rfl, rfl⟩ cn fun _ => ?_
          ·exact leL_refl _
          (try dsimp only[awp]);conv=>whnf
          refine .pure _ _ ?_ ⟨rfl, rfl⟩ cn fun _ => ?_
          ·exact leL_refl _
          (try dsimp only[awp]);conv=>whnf
          refine fM ?_;(conv=>whnf);refine ⟨?_,rfl⟩;conv=>whnf
          repeat' first|exact rfl|exact trivial|exact wR|exact lR _|apply aI
          all_goals simp)
  have hil : i = q.pages.length := by have : ¬ i < q.pages.length := by simpa using h2
                                      omega
  rw [idxN_end (by omega), hil] at hfr
  rw [if_pos hfr] at hst
  have hE : (inlP m.pages.length m).2 = 14 := by rw [hqI, hst]
  first
   | (exfalso; rw [hE] at he; cases he; done)
   | (rw [hE]
      (try dsimp only[awp]);conv=>whnf
      refine .pure _ _ ?_ ⟨rfl, rfl⟩ c_Is1414 fun _ => ?_
      ·exact leL_refl _
      (try dsimp only[awp]);conv=>whnf
      refine fM ?_;(conv=>whnf);refine ⟨?_,rfl⟩;conv=>whnf
      (repeat' first|exact rfl|exact trivial|exact wR|exact lR _|apply aI))

theorem list_of {α : Type} {f : α → AV} : ∀ {l : List AV}, (∀ x ∈ l, ∃ y, x = f y) → ∃ m : List α, l = m.map f
 | [], _ => ⟨[], rfl⟩
 | x :: l, h => by
   obtain ⟨y, rfl⟩ := h x (by simp)
   obtain ⟨m, rfl⟩ := list_of (l := l) fun z hz => h z (by simp [hz])
   exact ⟨y :: m, rfl⟩

theorem ints_of {sz : Nat} {k : IntKind} {A : AV} (h : (Sh.sl sz (.int k)).In A) : ∃ l : List Int, A = .sl sz (l.map (.int k)) .no := by
 simp only [Sh.In] at h
 obtain ⟨l, rfl, hl⟩ := h
 obtain ⟨m, rfl⟩ := list_of hl
 exact ⟨m, rfl⟩

abbrev shRat : Sh := .st [.bool, .sl 1 (.int .u32), .sl 1 (.int .u32)]
theorem Rat.of {A : AV} (h : shRat.In A) : ∃ r : Rat, A = r.av := by
 simp only [Sh.In, InL] at h
 obtain ⟨_, rfl, _, _, rfl, ⟨b, rfl⟩, _, _, rfl, h1, _, _, rfl, h2, rfl⟩ := h
 obtain ⟨n, rfl⟩ := ints_of (sz := 1) (k := .u32) (by simp only [Sh.In]; exact h1)
 obtain ⟨d, rfl⟩ := ints_of (sz := 1) (k := .u32) (by simp only [Sh.In]; exact h2)
 exact ⟨⟨b, n, d⟩, rfl⟩

theorem rats_of {A : AV} (h : (Sh.sl 3 shRat).In A) : ∃ l : List Rat, A = .sl 3 (l.map Rat.av) .no := by
 unfold Sh.In at h
 obtain ⟨l, rfl, hl⟩ := h
 obtain ⟨m, rfl⟩ := list_of fun x hx => Rat.of (hl x hx)
 exact ⟨m, rfl⟩

theorem int_of {k : IntKind} {A : AV} (h : (Sh.int k).In A) : ∃ n : Int, A = .int k n := by
 simpa only [Sh.In] using h

theorem str_of {A : AV} (h : Sh.str.In A) : ∃ s : List UInt8, A = .str s := by
 simpa only [Sh.In] using h

theorem sl_of {α : Type} {f : α → AV} {sh : Sh} {sz : Nat} {A : AV} (hf : ∀ x, sh.In x → ∃ y, x = f y) (h : (Sh.sl sz sh).In A) : ∃ l : List α, A = .sl sz (l.map f) .no := by
 unfold Sh.In at h
 obtain ⟨l, rfl, hl⟩ := h
 obtain ⟨m, rfl⟩ := list_of fun x hx => hf x (hl x hx)
 exact ⟨m, rfl⟩

abbrev shEv : Sh := .st [.str, shRat, shRat, shRat, .int .i64]
abbrev shHs : Sh := .st [.str, .bool]
abbrev shMg : Sh := .st [.str, .int .i64, .int .i64, .sl 1 .str, shRat]
abbrev shPg : Sh := .st [.str, .str, .sl 7 shMg]
abbrev shGr : Sh := .st [.str, .int .i64, .sl 1 .str, .sl 3 shRat]
abbrev shPv : Sh := .st [.str, shRat]
abbrev shPh : Sh := .st [.str, .str, .sl 4 shPv]
abbrev shMd : Sh := .st [.str, .str, .sl 11 shEv, .sl 2 shHs, .sl 7 shMg, .sl 3 shPg, .sl 4 shGr, .sl 3 shPh]

theorem strs_of {A : AV} (h : (Sh.sl 1 .str).In A) : ∃ l : List Str, A = sL l := sl_of (f := AV.str) (fun _ hx => str_of hx) h

theorem Ev.of {A : AV} (h : shEv.In A) : ∃ x : Ev, A = x.av := by
 unfold Sh.In at h
 simp only [InL] at h
 obtain ⟨_, rfl, _, _, rfl, h0, _, _, rfl, h1, _, _, rfl, h2, _, _, rfl, h3, _, _, rfl, h4, rfl⟩ := h
 obtain ⟨a, rfl⟩ := str_of h0
 obtain ⟨b, rfl⟩ := Rat.of h1
 obtain ⟨c, rfl⟩ := Rat.of h2
 obtain ⟨d, rfl⟩ := Rat.of h3
 obtain ⟨e, rfl⟩ := int_of h4
 exact ⟨⟨a, b, c, d, e⟩, rfl⟩

theorem Hs.of {A : AV} (h : shHs.In A) : ∃ x : Hs, A = x.av := by
 unfold Sh.In at h
 simp only [InL] at h
 obtain ⟨_, rfl, _, _, rfl, h0, _, _, rfl, h1, rfl⟩ := h
 obtain ⟨a, rfl⟩ := str_of h0
 simp only [Sh.In] at h1
 obtain ⟨b, rfl⟩ := h1
 exact ⟨⟨a, b⟩, rfl⟩

theorem Mg.of {A : AV} (h : shMg.In A) : ∃ x : Mg, A = x.av := by
 unfold Sh.In at h
 simp only [InL] at h
 obtain ⟨_, rfl, _, _, rfl, h0, _, _, rfl, h1, _, _, rfl, h2, _, _, rfl, h3, _, _, rfl, h4, rfl⟩ := h
 obtain ⟨a, rfl⟩ := str_of h0
 obtain ⟨b, rfl⟩ := int_of h1
 obtain ⟨c, rfl⟩ := int_of h2
 obtain ⟨d, rfl⟩ := strs_of h3
 obtain ⟨e, rfl⟩ := Rat.of h4
 exact ⟨⟨a, b, c, d, e⟩, rfl⟩

theorem Pg.of {A : AV} (h : shPg.In A) : ∃ x : Pg, A = x.av := by
 unfold Sh.In at h
 simp only [InL] at h
 obtain ⟨_, rfl, _, _, rfl, h0, _, _, rfl, h1, _, _, rfl, h2, rfl⟩ := h
 obtain ⟨a, rfl⟩ := str_of h0
 obtain ⟨b, rfl⟩ := str_of h1
 obtain ⟨c, rfl⟩ := sl_of (f := Mg.av) (fun _ hx => Mg.of hx) h2
 exact ⟨⟨a, b, c⟩, rfl⟩

theorem Gr.of {A : AV} (h : shGr.In A) : ∃ x : Gr, A = x.av := by
 unfold Sh.In at h
 simp only [InL] at h
 obtain ⟨_, rfl, _, _, rfl, h0, _, _, rfl, h1, _, _, rfl, h2, _, _, rfl, h3, rfl⟩ := h
 obtain ⟨a, rfl⟩ := str_of h0
 obtain ⟨b, rfl⟩ := int_of h1
 obtain ⟨c, rfl⟩ := strs_of h2
 obtain ⟨d, rfl⟩ := rats_of h3
 exact ⟨⟨a, b, c, d⟩, rfl⟩

theorem Pv.of {A : AV} (h : shPv.In A) : ∃ x : Pv, A = x.av := by
 unfold Sh.In at h
 simp only [InL] at h
 obtain ⟨_, rfl, _, _, rfl, h0, _, _, rfl, h1, rfl⟩ := h
 obtain ⟨a, rfl⟩ := str_of h0
 obtain ⟨b, rfl⟩ := Rat.of h1
 exact ⟨⟨a, b⟩, rfl⟩

theorem Ph.of {A : AV} (h : shPh.In A) : ∃ x : Ph, A = x.av := by
 unfold Sh.In at h
 simp only [InL] at h
 obtain ⟨_, rfl, _, _, rfl, h0, _, _, rfl, h1, _, _, rfl, h2, rfl⟩ := h
 obtain ⟨a, rfl⟩ := str_of h0
 obtain ⟨b, rfl⟩ := str_of h1
 obtain ⟨c, rfl⟩ := sl_of (f := Pv.av) (fun _ hx => Pv.of hx) h2
 exact ⟨⟨a, b, c⟩, rfl⟩

theorem Md.of {A : AV} (h : shMd.In A) : ∃ x : Md, A = x.av := by
 unfold Sh.In at h
 simp only [InL] at h
 obtain ⟨_, rfl, _, _, rfl, h0, _, _, rfl, h1, _, _, rfl, h2, _, _, rfl, h3, _, _, rfl, h4, _, _, rfl, h5, _, _, rfl, h6, _, _, rfl, h7, rfl⟩ := h
 obtain ⟨a, rfl⟩ := str_of h0
 obtain ⟨b, rfl⟩ := str_of h1
 obtain ⟨c, rfl⟩ := sl_of (f := Ev.av) (fun _ hx => Ev.of hx) h2
 obtain ⟨d, rfl⟩ := sl_of (f := Hs.av) (fun _ hx => Hs.of hx) h3
 obtain ⟨e, rfl⟩ := sl_of (f := Mg.av) (fun _ hx => Mg.of hx) h4
 obtain ⟨f, rfl⟩ := sl_of (f := Pg.av) (fun _ hx => Pg.of hx) h5
 obtain ⟨g, rfl⟩ := sl_of (f := Gr.av) (fun _ hx => Gr.of hx) h6
 obtain ⟨i, rfl⟩ := sl_of (f := Ph.av) (fun _ hx => Ph.of hx) h7
 exact ⟨⟨a, b, c, d, e, f, g, i⟩, rfl⟩

structure Ak where
 page : Int
 inp : Str
 old : Str
 new : Str

end S
