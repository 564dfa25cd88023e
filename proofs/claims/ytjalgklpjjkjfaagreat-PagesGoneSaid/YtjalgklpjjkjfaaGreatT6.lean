/-
  Contracts of functions of the program, over the logic of the texts before. Nothing is assumed.
-/
import Derived.Test.YtjalgklpjjkjfaaGreatT5

open Go Go.AL Go.Proofs
namespace S
set_option maxRecDepth 100000

section
variable {m : Md} {i : Nat}

theorem mg_root (h : Mrg m i) : resR (mgN m i) (-1) (mgN m i).top = phi m i (resR m (-1) m.top) := by
 have := mg_res h (a := -1) (.inl rfl) h.ok.top (.inl rfl)
 rw [atP_main] at this
 rw [← this]
 rfl

theorem mg_reach (h : Mrg m i) {r : Node} (hr : okN m r) : (∀ x, Reach m r x → Reach (mgN m i) (phi m i r) (phi m i x)) ∧ (∀ y, Reach (mgN m i) (phi m i r) y → ∃ x, Reach m r x ∧ y = phi m i x) := by
 have hc := h.ok.closed
 constructor
 ·intro x hx
  induction hx with
  | root => exact .root
  | step hx h2 hy ih =>
    rename_i x y
    have hm := (okN_kids hc (Reach.ok hc hr hx) h2).1
    refine .step ih (by rw [phi_kind]; exact h2) ?_
    rw [mg_kids h hm]
    exact List.mem_map.2 ⟨_, hy, rfl⟩
 ·intro y hy
  induction hy with
  | root => exact ⟨r, .root, rfl⟩
  | step hy h2 hz ih =>
    obtain ⟨x, hx, rfl⟩ := ih
    rw [phi_kind] at h2
    have hm := (okN_kids hc (Reach.ok hc hr hx) h2).1
    rw [mg_kids h hm] at hz
    obtain ⟨w, hw, rfl⟩ := List.mem_map.1 hz
    exact ⟨w, .step hx h2 hw, rfl⟩

theorem mg_same (h : Mrg m i) (hN : MOk (mgN m i)) : usedR (mgN m i) = usedR m ∧ dynR (mgN m i) = dynR m := by
 have hr := (h.ok.inOk (.inl rfl) h.ok.top).ok
 obtain ⟨r1, r2⟩ := mg_reach h hr
 have hv : ∀ y, y ∈ visitedM (mgN m i) ↔ ∃ x, x ∈ visitedM m ∧ y = phi m i x := by
  intro y
  rw [visited_reach hN, mg_root h]
  constructor
  ·intro hy
   obtain ⟨x, hx, e⟩ := r2 y hy
   exact ⟨x, (visited_reach h.ok x).2 hx, e⟩
  ·rintro ⟨x, hx, rfl⟩
   exact r1 x ((visited_reach h.ok x).1 hx)
 constructor
 ·refine Nat.eq_of_testBit_eq fun j => ?_
  rw [Bool.eq_iff_iff]
  unfold usedR
  rw [bitsV_bit, bitsV_bit]
  constructor
  ·rintro ⟨y, hy, h1, h2, h3⟩
   obtain ⟨x, hx, rfl⟩ := (hv y).1 hy
   have hk : x.1 ≠ 2 := by rw [phi_kind] at h1; omega
   rw [phi_of hk] at h1 h2 h3
   exact ⟨x, hx, h1, h2, h3⟩
  ·rintro ⟨x, hx, h1, h2, h3⟩
   have hk : x.1 ≠ 2 := by omega
   exact ⟨x, (hv x).2 ⟨x, hx, (phi_of hk).symm⟩, h1, h2, h3⟩
 ·unfold dynR dynV
  rw [Bool.eq_iff_iff, List.any_eq_true, List.any_eq_true]
  have hkind : ∀ x, x ∈ visitedM m → x.1 = 2 → (gateAt (mgN m i) (phi m i x)).kind = (gateAt m x).kind := by
   intro x hx h2
   have hm := (okN_kids h.ok.closed (Reach.ok h.ok.closed hr ((visited_reach h.ok x).1 hx)) h2).1
   obtain ⟨x1, a, k⟩ := x
   obtain ⟨g1, ha, hk⟩ := mem_all.1 hm
   dsimp only at g1 ha hk
   subst g1
   rw [(mg_len h.lt ha hk).2.2.2]
   rfl
  constructor
  ·rintro ⟨y, hy, h1⟩
   obtain ⟨x, hx, rfl⟩ := (hv y).1 hy
   simp only [Bool.and_eq_true, decide_eq_true_eq] at h1
   rw [phi_kind] at h1
   refine ⟨x, hx, ?_⟩
   simp only [Bool.and_eq_true, decide_eq_true_eq]
   rw [hkind x hx h1.1] at h1
   exact h1
  ·rintro ⟨x, hx, h1⟩
   simp only [Bool.and_eq_true, decide_eq_true_eq] at h1
   refine ⟨phi m i x, (hv _).2 ⟨x, hx, rfl⟩, ?_⟩
   simp only [Bool.and_eq_true, decide_eq_true_eq]
   rw [phi_kind, hkind x hx h1.1]
   exact h1
end

theorem mrg_of {m : Md} {i : Nat} (hM : MOk m) (hi : i < m.pages.length) (he : mgE m i = 0) : Mrg m i := by
 obtain ⟨h1, _, h3⟩ := mgE_zero he
 refine ⟨hM, hi, fun q hq e => ?_, (checkM_ok h3).gates⟩
 have := (innerP_iff hi).2 ⟨q, hq, e⟩
 rw [h1] at this; cases this

theorem inl_law : ∀ (n : Nat) (m : Md), m.pages.length = n → checkM m = 0 → (inlP m.pages.length m).2 = 0 →
  checkM (inlP m.pages.length m).1 = 0 ∧ (inlP m.pages.length m).1.pages.length = 0 ∧ (inlP m.pages.length m).1.gates.length = totalM m ∧ (inlP m.pages.length m).1.evs = m.evs ∧
  usedR (inlP m.pages.length m).1 = usedR m ∧ dynR (inlP m.pages.length m).1 = dynR m := by
 intro n
 induction n with
 | zero =>
   intro m hn h0 _
   rw [inlP_end hn]
   refine ⟨h0, hn, ?_, rfl, rfl, rfl⟩
   unfold totalM
   rw [List.eq_nil_of_length_eq_zero hn]; rfl
 | succ n ih =>
   intro m hn h0 hz
   have hM := checkM_ok h0
   rw [inlP_step (by omega)] at hz ⊢
   by_cases hf : freeP m = m.pages.length
   ·rw [if_pos hf] at hz; cases hz
   rw [if_neg hf] at hz ⊢
   by_cases he : mgE m (freeP m) = 0
   ·rw [if_pos he] at hz ⊢
    have hlt : freeP m < m.pages.length := by
     have : freeP m ≤ m.pages.length := freeP_le
     omega
    obtain ⟨_, _, h5⟩ := mgE_zero he
    have hl := mg_pages hlt
    have hmr := mrg_of hM hlt he
    obtain ⟨s1, s2⟩ := mg_same hmr (checkM_ok h5)
    have ht := mg_total hlt
    generalize freeP m = i at *
    obtain ⟨k1, k2, k3, k4, k5, k6⟩ := ih (mgN m i) (by omega) h5 (by rw [hl]; exact hz)
    rw [hl] at k1 k2 k3 k4 k5 k6
    exact ⟨k1, k2, k3.trans ht, k4, k5.trans s1, k6.trans s2⟩
   ·rw [if_neg he] at hz; exact absurd hz he

theorem inl_BC : ∀ (n : Nat) (m : Md), m.pages.length = n → checkM m = 0 → MdB m → MdC m → MdB (inlP m.pages.length m).1 ∧ MdC (inlP m.pages.length m).1 := by
 intro n
 induction n with
 | zero => intro m hn _ hB hC; rw [inlP_end hn]; exact ⟨hB, hC⟩
 | succ n ih =>
   intro m hn h0 hB hC
   rw [inlP_step (by omega)]
   by_cases hf : freeP m = m.pages.length
   ·rw [if_pos hf]; exact ⟨hB, hC⟩
   rw [if_neg hf]
   by_cases he : mgE m (freeP m) = 0
   ·rw [if_pos he]
    have hlt : freeP m < m.pages.length := by
     have : freeP m ≤ m.pages.length := freeP_le
     omega
    obtain ⟨_, _, h5⟩ := mgE_zero he
    have hl := mg_pages hlt
    have := ih (mgN m (freeP m)) (by omega) h5 (mg_B hlt hB (total64 h0)) (mg_C hlt hC)
    rwa [hl] at this
   ·rw [if_neg he]; exact ⟨hB, hC⟩

theorem noAt_in {n : Md} (hp : n.pages.length = 0) {a : Int} {s : Str} (h : isInR n a s = true) : atS s = false := by
 cases hat : atS s with
 | false => rfl
 | true =>
   unfold isInR at h
   rw [if_pos hat] at h
   have h : 0 ≤ i_page n.pages (s.drop 1) := of_decide_eq_true h
   have := idxP_lt (fun x : Pg => decide (x.name = s.drop 1)) n.pages
   unfold i_page at h
   omega

theorem noAt_64 {s : Str} (h0 : 0 < s.length) (h : atS s = false) : ¬ (((s.getD 0 0).toNat : Int) = 64) := by
 intro e
 unfold atS at h
 rw [decide_eq_true h0, decide_eq_true e] at h
 cases h

theorem c_PagesGone (m : Md) : FnH Tryz.prog 9 [m.av] [] (.bool true) [] := by
 have c0 := c_awake25.weak (R' := .tt) rfl
 have cl := c_LightM m _ rfl
 cases hL : lightM m with
 | false =>
   rw [hL] at cl
   have cl := cl.weak (R' := .ff) rfl
   refine FnH.intro lay mixed Tryz.func9 (by kernel_rfl) rfl (by kernel_rfl) rfl fun hok => ?_
   (try dsimp only[argC,succC]);(try dsimp only[awp]);conv=>whnf
   refine .pure _ _ ?_ ⟨rfl, rfl⟩ c0 fun _ => ?_
   ·exact leL_refl _
   (try dsimp only[awp]);conv=>whnf
   refine .pure _ _ ?_ ⟨rfl, rfl⟩ cl fun _ => ?_
   ·exact leL_refl _
   (try dsimp only[awp]);conv=>whnf
   refine .pure _ _ ?_ ⟨rfl, rfl⟩ c0 fun _ => ?_
   ·exact leL_refl _
   (try dsimp only[awp]);conv=>whnf
   refine fM ?_;(conv=>whnf);refine ⟨?_,rfl⟩;conv=>whnf
   repeat' first|exact rfl|exact trivial|exact wR|exact lR _|apply aI
 | true =>
 rw [hL] at cl
 have cl := cl.weak (R' := .tt) rfl
 obtain ⟨hB, hC⟩ := lightM_B hL
 have hX := lightM_X hL
 have cc := c_mCheck m hC hB _ rfl
 by_cases hc : checkM m ≠ 0
 ·rw [errAV_ne hc] at cc
  refine FnH.intro lay mixed Tryz.func9 (by kernel_rfl) rfl (by kernel_rfl) rfl fun hok => ?_
  (try dsimp only[argC,succC]);(try dsimp only[awp]);conv=>whnf
  refine .pure _ _ ?_ ⟨rfl, rfl⟩ c0 fun _ => ?_
  ·exact leL_refl _
  (try dsimp only[awp]);conv=>whnf
  refine .pure _ _ ?_ ⟨rfl, rfl⟩ cl fun _ => ?_
  ·exact leL_refl _
  (try dsimp only[awp]);conv=>whnf
  refine .pure _ _ ?_ ⟨rfl, rfl⟩ cc fun _ => ?_
  ·exact leL_refl _
  (try dsimp only[awp]);conv=>whnf
  refine .pure _ _ ?_ ⟨rfl, rfl⟩ c0 fun _ => ?_
  ·exact leL_refl _
  (try dsimp only[awp]);conv=>whnf
  refine fM ?_;(conv=>whnf);refine ⟨?_,rfl⟩;conv=>whnf
  repeat' first|exact rfl|exact trivial|exact wR|exact lR _|apply aI
 have hc0 := hc
 have hc : checkM m = 0 := by simpa using hc
 rw [hc, errAV_zero] at cc
 have cI := c_Inline m hC hB hX _ rfl
 rw [show inlineAV m = _ from if_neg hc0] at cI
 unfold inlAV at cI
 by_cases he : (inlP m.pages.length m).2 ≠ 0
 ·rw [if_neg he] at cI
  generalize (inlP m.pages.length m).2 = e at *
  refine FnH.intro lay mixed Tryz.func9 (by kernel_rfl) rfl (by kernel_rfl) rfl fun hok => ?_
  (try dsimp only[argC,succC]);(try dsimp only[awp]);conv=>whnf
  refine .pure _ _ ?_ ⟨rfl, rfl⟩ c0 fun _ => ?_
  ·exact leL_refl _
  (try dsimp only[awp]);conv=>whnf
  refine .pure _ _ ?_ ⟨rfl, rfl⟩ cl fun _ => ?_
  ·exact leL_refl _
  (try dsimp only[awp]);conv=>whnf
  refine .pure _ _ ?_ ⟨rfl, rfl⟩ cc fun _ => ?_
  ·exact leL_refl _
  (try dsimp only[awp]);conv=>whnf
  refine .pure _ _ ?_ ⟨rfl, rfl⟩ cI fun _ => ?_
  ·exact leL_refl _
  (try dsimp only[awp]);conv=>whnf
  refine .pure _ _ ?_ ⟨rfl, rfl⟩ c_Same0 fun _ => ?_
  ·exact leL_refl _
  (try dsimp only[awp]);conv=>whnf
  refine fM ?_;(conv=>whnf);refine ⟨?_,rfl⟩;conv=>whnf
  repeat' first|exact rfl|exact trivial|exact wR|exact lR _|apply aI
 have he : (inlP m.pages.length m).2 = 0 := by simpa using he
 rw [if_pos he] at cI
 obtain ⟨n0, n1, n2, n3, n4, n5⟩ := inl_law _ m rfl hc he
 obtain ⟨nB, nC⟩ := inl_BC _ m rfl hc hB hC
 generalize (inlP m.pages.length m).1 = n at *
 have hN := checkM_ok n0
 have cn := c_mCheck n nC nB _ rfl
 have u1 := c_Used m hC hB _ rfl
 have u2 := c_Used n nC nB _ rfl
 have d1 := c_Dynamic m hC hB _ rfl
 have d2 := c_Dynamic n nC nB _ rfl
 rw [if_pos hc] at u1 d1
 rw [if_pos n0] at u2 d2
 rw [n4] at u2
 rw [n5] at d2
 rw [n0, errAV_zero] at cn
 have htop := hN.inOk (.inl rfl) hN.top
 have hta := noAt_64 htop.pos (noAt_in n1 hN.top)
 have hins : ∀ g ∈ n.gates, ∀ s ∈ g.ins, 0 < s.length ∧ ¬ (((s.getD 0 0).toNat : Int) = 64) := by
  intro g hg s hs
  have hg' : g ∈ gatesM n (-1) := by rw [main_gates]; exact hg
  have hin := hN.ins_in (.inl rfl) hg' hs
  exact ⟨(hN.inOk (.inl rfl) hin).pos, noAt_64 (hN.inOk (.inl rfl) hin).pos (noAt_in n1 hin)⟩
 have hgl := hB.gates.1
 have hpl := hB.pages
 have hpg : ∀ k, ((m.pages.take k).map fun p => p.gates.length).sum ≤ 100 * k := by
  intro k
  have key : ∀ (l : List Pg), (∀ p ∈ l, p.gates.length ≤ 100) → (l.map fun p => p.gates.length).sum ≤ 100 * l.length := by
   intro l
   induction l with
   | nil => simp
   | cons p l ih =>
     intro h
     have h1 := ih fun q hq => h q (by simp [hq])
     have h2 := h p (by simp)
     simp only [List.map_cons, List.sum_cons, List.length_cons]
     omega
  have h1 := key (m.pages.take k) fun p hp => (hB.pgates p (List.mem_of_mem_take hp)).1
  have h2 : (m.pages.take k).length ≤ k := by simp; omega
  have : 100 * (m.pages.take k).length ≤ 100 * k := Nat.mul_le_mul_left _ h2
  omega
 generalize usedR m = u at *
 generalize dynR m = d at *
 refine FnH.intro lay mixed Tryz.func9 (by kernel_rfl) rfl (by kernel_rfl) rfl fun hok => ?_
 (try dsimp only[argC,succC]);(try dsimp only[awp]);conv=>whnf
 refine .pure _ _ ?_ ⟨rfl, rfl⟩ c0 fun _ => ?_
 ·exact leL_refl _
 (try dsimp only[awp]);conv=>whnf
 refine .pure _ _ ?_ ⟨rfl, rfl⟩ cl fun _ => ?_
 ·exact leL_refl _
 (try dsimp only[awp]);conv=>whnf
 refine .pure _ _ ?_ ⟨rfl, rfl⟩ cc fun _ => ?_
 ·exact leL_refl _
 (try dsimp only[awp]);conv=>whnf
 refine .pure _ _ ?_ ⟨rfl, rfl⟩ cI fun _ => ?_
 ·exact leL_refl _
 (try dsimp only[awp]);conv=>whnf
 refine LoopE.of <| LoopSpec.inv (.refl _ _) (fun (k : Nat) => k ≤ m.pages.length) (fun (k : Nat) => [(49, .int .i64 k), (5, .int .i64 ((m.gates.length + ((m.pages.take k).map fun p => p.gates.length).sum : Nat) : Int))]) (fun _ => _) (fun (k : Nat) => m.pages.length - k) 0 ?_ (fun _ => rfl) ?_ ?_
 ·exact Nat.zero_le _
 ·repeat' first|exact rfl|exact trivial|exact wR|exact lR _|apply aI
  all_goals first | (simp; done) | skip
 rintro k hk _
 (try dsimp only[awp]);conv=>whnf
 refine And.intro (fun h => ?_) (fun h => ?_)
 ·have hkl : k < m.pages.length := by simpa using h
  have ht := take_map (f := fun p : Pg => p.gates.length) hkl
  have hsum := hpg k
  have hpk := (hB.pgates _ (List.getElem_mem hkl)).1
  (try dsimp only[awp]);conv=>whnf
  refine aidx hkl ?_
  generalize m.pages[k] = x at *
  generalize hS : ((m.pages.take k).map fun p : Pg => p.gates.length) = S0 at *
  (try dsimp only[awp]);conv=>whnf
  refine ⟨inr64 (by simp; omega) (by simp; omega), ?_⟩
  (try dsimp only[awp]);conv=>whnf
  refine zA ?_;conv=>whnf
  refine ⟨k + 1, ?_, ?_, ?_⟩
  ·exact hkl
  ·rw [ht]
   refine ⟨?_, .mk ?_ (by simp [idsOk])⟩
   ·repeat' first|exact rfl|exact trivial|exact wR|exact lR _|apply aI
    all_goals (show (_ : Int) = _; simp; omega)
   ·repeat' first|exact rfl|exact trivial|exact wR|exact lR _|apply aI
  ·omega
 have hkl : k = m.pages.length := by have : ¬ k < m.pages.length := by simpa using h
                                     omega
 subst hkl
 rw [List.take_length]
 have htot : (m.gates.length + (m.pages.map fun p => p.gates.length).sum : Nat) = n.gates.length := by
  rw [n2]; unfold totalM; rw [tot_sum]
 rw [htot]
 clear h hpg htot
 (try dsimp only[awp]);conv=>whnf
 refine .pure _ _ ?_ ⟨rfl, rfl⟩ cn fun _ => ?_
 ·exact leL_refl _
 (try dsimp only[awp]);conv=>whnf
 refine And.intro (fun h => by exfalso; apply h; simp [n1]) (fun _ => ?_)
 (try dsimp only[awp]);conv=>whnf
 refine And.intro (fun h => by exfalso; apply h; simp) (fun _ => ?_)
 (try dsimp only[awp]);conv=>whnf
 refine And.intro (fun h => by exfalso; apply h; simp [n3]) (fun _ => ?_)
 (try dsimp only[awp]);conv=>whnf
 refine And.intro (fun h => by exfalso; have := htop.pos; rw [show n.top = [] from h] at this; simp at this) (fun _ => ?_)
 (try dsimp only[awp]);conv=>whnf
 refine sidx0 htop.pos ?_
 (try dsimp only[awp]);conv=>whnf
 refine And.intro (fun h => absurd h hta) (fun _ => ?_)
 (try dsimp only[awp]);conv=>whnf
 have hng := nB.gates
 refine LoopE.of <| LoopSpec.inv (.refl _ _) (fun (k : Nat) => k ≤ n.gates.length) (fun (k : Nat) => [(98, .int .i64 k)]) (fun _ => _) (fun (k : Nat) => n.gates.length - k) 0 ?_ (fun _ => rfl) ?_ ?_
 ·exact Nat.zero_le _
 ·repeat' first|exact rfl|exact trivial|exact wR|exact lR _|apply aI
 rintro k hk _
 (try dsimp only[awp]);conv=>whnf
 refine And.intro (fun h => ?_) (fun h => ?_)
 ·have hkl : k < n.gates.length := by simpa using h
  have hgi := hins _ (List.getElem_mem hkl)
  have hgl := hng.2 _ (List.getElem_mem hkl)
  (try dsimp only[awp]);conv=>whnf
  refine aidx hkl ?_
  generalize n.gates[k] = g at *
  (try dsimp only[awp]);conv=>whnf
  refine LoopE.of <| LoopSpec.inv (.refl _ _) (fun (j : Nat) => j ≤ g.ins.length) (fun (j : Nat) => [(105, .int .i64 j)]) (fun _ => _) (fun (j : Nat) => g.ins.length - j) 0 ?_ (fun _ => rfl) ?_ ?_
  ·exact Nat.zero_le _
  ·repeat' first|exact rfl|exact trivial|exact wR|exact lR _|apply aI
  rintro j hj _
  (try dsimp only[awp]);conv=>whnf
  refine And.intro (fun hh => ?_) (fun hh => ?_)
  ·have hjl : j < g.ins.length := by simpa using hh
   obtain ⟨s1, s2⟩ := hgi _ (List.getElem_mem hjl)
   (try dsimp only[awp]);conv=>whnf
   refine aidx hjl ?_
   generalize g.ins[j] = s at *
   (try dsimp only[awp]);conv=>whnf
   refine And.intro (fun h3 => by exfalso; rw [show s = [] from h3] at s1; simp at s1) (fun _ => ?_)
   (try dsimp only[awp]);conv=>whnf
   refine sidx0 s1 ?_
   (try dsimp only[awp]);conv=>whnf
   refine And.intro (fun h3 => absurd h3 s2) (fun _ => ?_)
   (try dsimp only[awp]);conv=>whnf
   refine zA ?_;conv=>whnf
   refine ⟨j + 1, ?_, ?_, ?_⟩
   ·exact hjl
   ·refine ⟨?_, .mk ?_ (by simp [idsOk])⟩
    ·repeat' first|exact rfl|exact trivial|exact wR|exact lR _|apply aI
    ·repeat' first|exact rfl|exact trivial|exact wR|exact lR _|apply aI
   ·omega
  ·(try dsimp only[awp]);conv=>whnf
   refine zA ?_;conv=>whnf
   refine ⟨k + 1, ?_, ?_, ?_⟩
   ·exact hkl
   ·refine ⟨?_, .mk ?_ (by simp [idsOk])⟩
    ·repeat' first|exact rfl|exact trivial|exact wR|exact lR _|apply aI
    ·repeat' first|exact rfl|exact trivial|exact wR|exact lR _|apply aI
   ·omega
 (try dsimp only[awp]);conv=>whnf
 refine .pure _ _ ?_ ⟨rfl, rfl⟩ u1 fun _ => ?_
 ·exact leL_refl _
 (try dsimp only[awp]);conv=>whnf
 refine .pure _ _ ?_ ⟨rfl, rfl⟩ u2 fun _ => ?_
 ·exact leL_refl _
 (try dsimp only[awp]);conv=>whnf
 refine .pure _ _ ?_ ⟨rfl, rfl⟩ d1 fun _ => ?_
 ·exact leL_refl _
 (try dsimp only[awp]);conv=>whnf
 refine .pure _ _ ?_ ⟨rfl, rfl⟩ d2 fun _ => ?_
 ·exact leL_refl _
 (try dsimp only[awp]);conv=>whnf
 refine And.intro (fun _ => ?_) (fun h => absurd rfl h)
 (try dsimp only[awp]);conv=>whnf
 refine fM ?_;(conv=>whnf);refine ⟨?_,rfl⟩;conv=>whnf
 repeat' first|exact rfl|exact trivial|exact wR|exact lR _|apply aI
 all_goals simp
end S
