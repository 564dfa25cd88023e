/-
  Contracts of functions of the program, over the logic of the texts before. Nothing is assumed.
-/
import Derived.Test.YtkhinhepefmdhaaGreatT5

open Go Go.AL Go.Proofs
namespace S
set_option maxRecDepth 100000

def gatesErrAll (m : Md) : Int := errL (fun _ a => errL (gateErrM m a) 0 (gatesM m a)) 0 (atsM m)

def insAll (m : Md) : List Int → List Str → Int
  | [], _ => 0
  | a :: l, sp => if (pageIns m a sp).1 ≠ 0 then (pageIns m a sp).1 else insAll m l (pageIns m a sp).2

def checkM (m : Md) : Int :=
  if nameR m.name = false then 5 else if eventsErr m ≠ 0 then eventsErr m else if pagesErr m ≠ 0 then pagesErr m
  else if gatesErrAll m ≠ 0 then gatesErrAll m else if insAll m (atsM m) [] ≠ 0 then insAll m (atsM m) []
  else if isInR m (-1) m.top = false then 5 else if groupsErr m ≠ 0 then groupsErr m else if phasesErr m ≠ 0 then phasesErr m
  else if cycR m = true then 14 else 0

theorem insErr_in {m : Md} {a : Int} {g : Mg} : ∀ {l : List Str} {k : Nat} {sp : List Str}, (insErr m a g k l sp).1 = 0 → ∀ s ∈ l, isInR m a s = true
  | [], _, _, _, s, hs => by simp at hs
  | x :: l, k, sp, h, s, hs => by
    simp only [insErr] at h
    split at h
    · cases h
    rename_i h1
    split at h
    · cases h
    have hx : isInR m a x = true := by simpa using h1
    rcases List.mem_cons.1 hs with rfl | hs
    · exact hx
    split at h
    · split at h
      · cases h
      · exact insErr_in h s hs
    · exact insErr_in h s hs

theorem gatesIns_in {m : Md} {a : Int} : ∀ {l : List Mg} {sp : List Str}, (gatesIns m a l sp).1 = 0 → ∀ g ∈ l, ∀ s ∈ g.ins, isInR m a s = true
  | [], _, _, g, hg => by simp at hg
  | x :: l, sp, h, g, hg => by
    simp only [gatesIns] at h
    split at h
    · rename_i h1; exact absurd h h1
    rename_i h1
    have h1 : (insErr m a x 0 x.ins sp).1 = 0 := by simpa using h1
    rcases List.mem_cons.1 hg with rfl | hg
    · exact insErr_in h1
    · exact gatesIns_in h g hg

theorem pageIns_in {m : Md} {a : Int} {sp : List Str} (h : (pageIns m a sp).1 = 0) : (∀ g ∈ gatesM m a, ∀ s ∈ g.ins, isInR m a s = true) ∧ (a ≠ -1 → 0 ≤ i_gate (gatesM m a) (pageTop m a) ∨ 0 ≤ i_event m.evs (pageTop m a)) := by
  unfold pageIns at h
  split at h
  · rename_i h1; exact absurd h h1
  rename_i h1
  have h1 : (gatesIns m a (gatesM m a) sp).1 = 0 := by simpa using h1
  split at h
  · cases h
  rename_i h2
  exact ⟨gatesIns_in h1, fun ha => by
    rcases Int.lt_or_le (i_gate (gatesM m a) (pageTop m a)) 0 with h3 | h3
    · rcases Int.lt_or_le (i_event m.evs (pageTop m a)) 0 with h4 | h4
      · exact absurd ⟨ha, h3, h4⟩ h2
      · exact .inr h4
    · exact .inl h3⟩

theorem insAll_in {m : Md} : ∀ {l : List Int} {sp : List Str}, insAll m l sp = 0 → ∀ a ∈ l, ∃ sp', (pageIns m a sp').1 = 0
  | [], _, _, a, ha => by simp at ha
  | x :: l, sp, h, a, ha => by
    simp only [insAll] at h
    split at h
    · rename_i h1; exact absurd h h1
    rename_i h1
    rcases List.mem_cons.1 ha with rfl | ha
    · exact ⟨sp, by simpa using h1⟩
    · exact insAll_in h a ha

theorem nameR_pos {s : Str} (h : nameR s = true) : 0 < s.length := by
  unfold nameR at h
  simp only [Bool.and_eq_true, decide_eq_true_eq] at h
  exact h.1.1.1

theorem idx_name {α : Type} {f : α → Str} {l : List α} {s : Str} (h : 0 ≤ idxP (fun x => decide (f x = s)) l) : ∃ (i : Nat) (hi : i < l.length), idxP (fun x => decide (f x = s)) l = i ∧ f l[i] = s := by
  rcases idxP_cases (fun x => decide (f x = s)) l with ⟨h1, _⟩ | ⟨i, hi, h1, h2, _⟩
  · omega
  · exact ⟨i, hi, h1, of_decide_eq_true h2⟩

theorem eventsErr_zero {m : Md} (h : eventsErr m = 0) : m.evs.length ≤ 24 ∧ m.hs.length ≤ 16 ∧ (∀ (k : Nat) (hk : k < m.evs.length), evErr m k m.evs[k] = 0) ∧ (∀ (k : Nat) (hk : k < m.hs.length), hsErr m k m.hs[k] = 0) := by
  unfold eventsErr at h
  split at h
  · cases h
  split at h
  · rename_i h1; exact absurd h h1
  rename_i h1
  split at h
  · cases h
  have h1 : errL (evErr m) 0 m.evs = 0 := by simpa using h1
  refine ⟨by omega, by omega, fun k hk => ?_, fun k hk => ?_⟩
  · have := errL_zero.1 h1 k hk; simpa using this
  · have := errL_zero.1 h k hk; simpa using this

theorem gatesErrAll_zero {m : Md} (h : gatesErrAll m = 0) {a : Int} (ha : a = -1 ∨ (0 ≤ a ∧ a < (m.pages.length : Int))) : ∀ (k : Nat) (hk : k < (gatesM m a).length), gateErrM m a k (gatesM m a)[k] = 0 := by
  intro k hk
  have hm := ats_mem.2 ha
  obtain ⟨j, hj, rfl⟩ := List.getElem_of_mem hm
  have := errL_zero.1 h j hj
  have := errL_zero.1 this k hk
  simpa using this

theorem ev_name {m : Md} (h : eventsErr m = 0) {s : Str} (hs : 0 ≤ i_event m.evs s) : 0 < s.length := by
  obtain ⟨i, hi, _, h2⟩ := idx_name hs
  have := (eventsErr_zero h).2.2.1 i hi
  unfold evErr at this
  split at this
  · cases this
  rename_i h3
  rw [← h2]
  exact nameR_pos (by simpa using h3)

theorem hs_name {m : Md} (h : eventsErr m = 0) {s : Str} (hs : 0 ≤ i_house m.hs s) : 0 < s.length := by
  obtain ⟨i, hi, _, h2⟩ := idx_name hs
  have := (eventsErr_zero h).2.2.2 i hi
  unfold hsErr at this
  split at this
  · cases this
  rename_i h3
  rw [← h2]
  exact nameR_pos (by simpa using h3)

theorem gate_name {m : Md} (h : gatesErrAll m = 0) {a : Int} (ha : a = -1 ∨ (0 ≤ a ∧ a < (m.pages.length : Int))) {s : Str} (hs : 0 ≤ i_gate (gatesM m a) s) : 0 < s.length := by
  obtain ⟨i, hi, _, h2⟩ := idx_name hs
  have := gatesErrAll_zero h ha i hi
  unfold gateErrM at this
  split at this
  · cases this
  rename_i h3
  rw [← h2]
  exact nameR_pos (by simpa using h3)

theorem resOn_ok {m : Md} {a : Int} {s : Str} (ha : a = -1 ∨ (0 ≤ a ∧ a < (m.pages.length : Int))) (h : 0 ≤ i_event m.evs s ∨ 0 ≤ i_house m.hs s ∨ 0 ≤ i_gate (gatesM m a) s) : okN m (resOn m a s) := by
  unfold resOn
  split
  · rename_i h1; exact .inl ⟨rfl, rfl, h1, idxP_lt _ _⟩
  split
  · rename_i h2; exact .inr (.inl ⟨rfl, rfl, h2, idxP_lt _ _⟩)
  · exact .inr (.inr (mem_all.2 ⟨rfl, ha, by show 0 ≤ i_gate _ _; omega, idxP_lt _ _⟩))

structure InOk (m : Md) (a : Int) (s : Str) : Prop where
  pos : 0 < s.length
  pg : atS s = true → 0 ≤ i_page m.pages (s.drop 1)
  ok : okN m (resR m a s)

theorem inOk {m : Md} (h1 : eventsErr m = 0) (h2 : gatesErrAll m = 0) (h3 : insAll m (atsM m) [] = 0) {a : Int} (ha : a = -1 ∨ (0 ≤ a ∧ a < (m.pages.length : Int))) {s : Str} (hs : isInR m a s = true) : InOk m a s := by
  unfold isInR at hs
  by_cases hat : atS s = true
  · rw [if_pos hat] at hs
    have hs : 0 ≤ i_page m.pages (s.drop 1) := of_decide_eq_true hs
    have hp : i_page m.pages (s.drop 1) < (m.pages.length : Int) := idxP_lt _ _
    refine ⟨?_, fun _ => hs, ?_⟩
    · unfold atS at hat
      simp only [Bool.and_eq_true, decide_eq_true_eq] at hat
      exact hat.1
    · unfold resR
      rw [if_pos hat]
      obtain ⟨sp, h4⟩ := insAll_in h3 _ (ats_mem.2 (.inr ⟨hs, hp⟩))
      refine resOn_ok (.inr ⟨hs, hp⟩) ?_
      rcases (pageIns_in h4).2 (by omega) with h5 | h5
      · exact .inr (.inr h5)
      · exact .inl h5
  · rw [if_neg hat] at hs
    have hs : 0 ≤ i_event m.evs s ∨ 0 ≤ i_house m.hs s ∨ 0 ≤ i_gate (gatesM m a) s := by
      simp only [Bool.or_eq_true, decide_eq_true_eq] at hs
      rcases hs with (h | h) | h
      · exact .inl h
      · exact .inr (.inl h)
      · exact .inr (.inr h)
    refine ⟨?_, fun h => absurd h hat, ?_⟩
    · rcases hs with h | h | h
      · exact ev_name h1 h
      · exact hs_name h1 h
      · exact gate_name h2 ha h
    · unfold resR
      rw [if_neg hat]
      exact resOn_ok ha hs

theorem closed_of {m : Md} (h1 : eventsErr m = 0) (h2 : gatesErrAll m = 0) (h3 : insAll m (atsM m) [] = 0) : ClosedM m := by
  intro x hx s hs
  obtain ⟨_, ha, hi⟩ := mem_all.1 hx
  obtain ⟨sp, h4⟩ := insAll_in h3 _ (ats_mem.2 ha)
  have hin := (pageIns_in h4).1 (gateAt m x) (getD_mem (by omega)) s hs
  have := inOk h1 h2 h3 ha hin
  exact ⟨this.pos, this.pg, this.ok⟩

theorem MdC.gatesM {m : Md} (hC : MdC m) {a : Int} (ha : a = -1 ∨ (0 ≤ a ∧ a < (m.pages.length : Int))) : mgC (gatesM m a) := by
  unfold S.gatesM
  split
  · exact hC.gates
  · exact hC.pages _ (getD_mem (by omega))

theorem gatesIns_len {m : Md} {a : Int} : ∀ {l : List Mg} {sp : List Str}, (∀ x ∈ l, x.ins.length ≤ 40) → (gatesIns m a l sp).2.length ≤ sp.length + 40 * l.length
  | [], sp, _ => by simp [gatesIns]
  | g :: l, sp, h => by
    have h1 := insErr_len (m := m) (a := a) (g := g) (l := g.ins) (k := 0) (sp := sp)
    have h2 := h g (by simp)
    simp only [gatesIns]
    split
    · simp only [List.length_cons]; omega
    · have := gatesIns_len (m := m) (a := a) (l := l) (sp := (insErr m a g 0 g.ins sp).2) fun x hx => h x (by simp [hx])
      simp only [List.length_cons]; omega

theorem pageIns_len {m : Md} (hB : MdB m) {a : Int} (ha : a = -1 ∨ (0 ≤ a ∧ a < (m.pages.length : Int))) {sp : List Str} : (pageIns m a sp).2.length ≤ sp.length + 4000 := by
  obtain ⟨h1, h2⟩ := hB.gatesM ha
  have := gatesIns_len (m := m) (a := a) (l := gatesM m a) (sp := sp) h2
  unfold pageIns
  split
  · omega
  split
  · simp
  · omega

theorem c_mCheck (m : Md) (hC : MdC m) (hB : MdB m) (R : AV) (hR : R = errAV (checkM m)) : FnH Tryz.prog 41 [m.av] [] R [] := by
  have hpl := hB.pages
  refine FnH.intro lay mixed Tryz.func41 (by kernel_rfl) rfl (by kernel_rfl) rfl fun hok => ?_
  ((try dsimp only [argC, succC]); (try dsimp only [awp]); (conv => whnf))
  refine .pure _ _ ?_ ⟨rfl, rfl⟩ (c_tokenName m.name) fun _ => ?_
  · exact leL_refl _
  ((try dsimp only [awp]); (conv => whnf))
  refine And.intro (fun g1 => ?_) (fun g1 => ?_)
  · have g1 : nameR m.name = false := by simpa using g1
    obtain rfl : R = .ifc 104 (.int .i64 5) := by rw [hR, show checkM m = 5 from by unfold checkM; rw [if_pos g1]]; rfl
    ((try dsimp only [awp]); (conv => whnf))
    (refine FinSpec.mono ?_; (conv => whnf); refine ⟨?_, rfl⟩; (conv => whnf))
    (repeat' first | exact rfl | exact trivial | exact HWk.refl rfl | exact leRL_refl _ | apply And.intro)
  have g1 : ¬ nameR m.name = false := by simpa using g1
  ((try dsimp only [awp]); (conv => whnf))
  have cE := c_checkEvents m hC _ rfl
  by_cases g2 : eventsErr m ≠ 0
  · obtain rfl : R = .ifc 104 (.int .i64 (eventsErr m)) := by rw [hR, show checkM m = eventsErr m from by unfold checkM; rw [if_neg g1]; rw [if_pos g2], errAV_ne g2]
    rw [errAV_ne g2] at cE
    refine .pure _ _ ?_ ⟨rfl, rfl⟩ cE fun _ => ?_
    · exact leL_refl _
    ((try dsimp only [awp]); (conv => whnf))
    (refine FinSpec.mono ?_; (conv => whnf); refine ⟨?_, rfl⟩; (conv => whnf))
    (repeat' first | exact rfl | exact trivial | exact HWk.refl rfl | exact leRL_refl _ | apply And.intro)
  rw [show eventsErr m = 0 from by simpa using g2, errAV_zero] at cE
  refine .pure _ _ ?_ ⟨rfl, rfl⟩ cE fun _ => ?_
  · exact leL_refl _
  ((try dsimp only [awp]); (conv => whnf))
  have cE := c_checkPages m hB _ rfl
  by_cases g3 : pagesErr m ≠ 0
  · obtain rfl : R = .ifc 104 (.int .i64 (pagesErr m)) := by rw [hR, show checkM m = pagesErr m from by unfold checkM; rw [if_neg g1, if_neg g2]; rw [if_pos g3], errAV_ne g3]
    rw [errAV_ne g3] at cE
    refine .pure _ _ ?_ ⟨rfl, rfl⟩ cE fun _ => ?_
    · exact leL_refl _
    ((try dsimp only [awp]); (conv => whnf))
    (refine FinSpec.mono ?_; (conv => whnf); refine ⟨?_, rfl⟩; (conv => whnf))
    (repeat' first | exact rfl | exact trivial | exact HWk.refl rfl | exact leRL_refl _ | apply And.intro)
  rw [show pagesErr m = 0 from by simpa using g3, errAV_zero] at cE
  refine .pure _ _ ?_ ⟨rfl, rfl⟩ cE fun _ => ?_
  · exact leL_refl _
  ((try dsimp only [awp]); (conv => whnf))
  refine LoopE.of <| LoopSpec.inv (.refl _ _) (fun (k : Nat) => k ≤ m.pages.length + 1 ∧ gatesErrAll m = errL (fun _ a => errL (gateErrM m a) 0 (gatesM m a)) k ((atsM m).drop k)) (fun (k : Nat) => [(5, .int .i64 ((k : Int) - 1))]) (fun _ => _) (fun (k : Nat) => m.pages.length + 1 - k) 0 ?_ (fun _ => rfl) ?_ ?_
  · exact ⟨Nat.zero_le _, rfl⟩
  · (repeat' first | exact rfl | exact trivial | exact HWk.refl rfl | exact leRL_refl _ | apply And.intro)
  rintro k ⟨hk, hn⟩ _
  ((try dsimp only [awp]); (conv => whnf))
  refine And.intro (fun h => ?_) (fun h => ?_)
  · have hkl : k < m.pages.length + 1 := by simp only [List.length_map] at h; omega
    have ha : (k : Int) - 1 = -1 ∨ (0 ≤ (k : Int) - 1 ∧ (k : Int) - 1 < (m.pages.length : Int)) := by omega
    rw [drop_of_get? (ats_get hkl)] at hn
    simp only [errL] at hn
    have cE := c_checkGates m _ ha (hC.gatesM ha) _ rfl
    by_cases g4 : errL (gateErrM m ((k : Int) - 1)) 0 (gatesM m ((k : Int) - 1)) ≠ 0
    · rw [if_pos g4] at hn
      rw [← hn] at cE g4
      obtain rfl : R = .ifc 104 (.int .i64 (gatesErrAll m)) := by rw [hR, show checkM m = gatesErrAll m from by unfold checkM; rw [if_neg g1, if_neg g2, if_neg g3, if_pos g4], errAV_ne g4]
      rw [errAV_ne g4] at cE
      ((try dsimp only [awp]); (conv => whnf))
      refine .pure _ _ ?_ ⟨rfl, rfl⟩ cE fun _ => ?_
      · exact leL_refl _
      ((try dsimp only [awp]); (conv => whnf))
      (refine FinSpec.mono ?_; (conv => whnf); refine ⟨?_, rfl⟩; (conv => whnf))
      (repeat' first | exact rfl | exact trivial | exact HWk.refl rfl | exact leRL_refl _ | apply And.intro)
    · rw [if_neg g4] at hn
      rw [show errL (gateErrM m ((k : Int) - 1)) 0 (gatesM m ((k : Int) - 1)) = 0 from by simpa using g4, errAV_zero] at cE
      ((try dsimp only [awp]); (conv => whnf))
      refine .pure _ _ ?_ ⟨rfl, rfl⟩ cE fun _ => ?_
      · exact leL_refl _
      ((try dsimp only [awp]); (conv => whnf))
      (refine ⟨inr64 (by omega) (by omega), ?_⟩; (conv => whnf))
      refine ⟨k + 1, ?_, ?_, ?_⟩
      · exact ⟨hkl, hn⟩
      · refine ⟨?_, .mk ?_ ⟨by simp, trivial⟩⟩
        · (repeat' first | exact rfl | exact trivial | exact HWk.refl rfl | exact leRL_refl _ | apply And.intro)
          all_goals (show _ = _; congr 1; omega)
        · (repeat' first | exact rfl | exact trivial | exact HWk.refl rfl | exact leRL_refl _ | apply And.intro)
      · omega
  have hkl : m.pages.length + 1 ≤ k := by simp only [List.length_map] at h; omega
  rw [List.drop_eq_nil_of_le (by rw [ats_len]; omega)] at hn
  simp only [errL] at hn
  have g4 : ¬ gatesErrAll m ≠ 0 := by rw [hn]; simp
  have z4 := hn
  clear h hn hk hkl
  ((try dsimp only [awp]); (conv => whnf))
  refine LoopE.of <| LoopSpec.inv (.grow 7 1 [] _ rfl (.inl ⟨rfl, rfl⟩) (.refl _ _)) (fun (q : Nat × List Str) => q.1 ≤ m.pages.length + 1 ∧ insAll m (atsM m) [] = insAll m ((atsM m).drop q.1) q.2 ∧ q.2.length ≤ 4000 * q.1)
    (fun q => [(8, .int .i64 ((q.1 : Int) - 1)), (7, .sl 1 (q.2.map .str) (.own 1))]) (fun q => [(1, .tok 1 q.2.length), (0, .box m.av)]) (fun q => m.pages.length + 1 - q.1) (0, []) ?_ (fun _ => rfl) ?_ ?_
  · exact ⟨Nat.zero_le _, rfl, by simp⟩
  · refine ⟨?_, .mk ?_ ⟨by simp, by simp, trivial⟩⟩
    · (repeat' first | exact rfl | exact trivial | exact HWk.refl rfl | exact leRL_refl _ | apply And.intro)
    · (repeat' first | exact rfl | exact trivial | exact HWk.refl rfl | exact leRL_refl _ | apply And.intro)
  rintro ⟨k, sp⟩ ⟨hk, hn, hsp⟩ _
  dsimp only at hk hn hsp
  ((try dsimp only [awp]); (conv => whnf))
  refine And.intro (fun h => ?_) (fun h => ?_)
  · have hkl : k < m.pages.length + 1 := by simp only [List.length_map] at h; omega
    have ha : (k : Int) - 1 = -1 ∨ (0 ≤ (k : Int) - 1 ∧ (k : Int) - 1 < (m.pages.length : Int)) := by omega
    rw [drop_of_get? (ats_get hkl)] at hn
    simp only [insAll] at hn
    have hc := fun R G => c_checkInputs m ((k : Int) - 1) sp ha (hB.gatesM ha) (by omega) R G
    have hpi := pageIns_len hB ha (sp := sp)
    generalize pageIns m ((k : Int) - 1) sp = pi at *
    obtain ⟨pe, ps⟩ := pi
    dsimp only at hn hc hpi
    ((try dsimp only [awp]); (conv => whnf))
    by_cases hE : pe = 0
    · rw [if_neg (by simp [hE])] at hn
      refine .gen _ _ (FnH.frame [1] (hc _ _ (by rw [if_pos hE]) (by rw [if_pos hE])) ⟨rfl, rfl, rfl, rfl⟩ ?_ ?_) fun _ => ?_
      · (repeat' first | exact rfl | exact trivial | exact HWk.refl rfl | exact leRL_refl _ | apply And.intro)
      · (repeat' first | exact rfl | exact trivial | exact HWk.refl rfl | exact leRL_refl _ | apply And.intro)
      ((try dsimp only [awp]); (conv => whnf))
      (refine ⟨inr64 (by omega) (by omega), ?_⟩; (conv => whnf))
      refine ⟨(k + 1, ps), ?_, ?_, ?_⟩
      · exact ⟨hkl, hn, by show ps.length ≤ 4000 * (k + 1); omega⟩
      · refine ⟨?_, .mk ?_ ⟨by simp, by simp, trivial⟩⟩
        · (repeat' first | exact rfl | exact trivial | exact HWk.refl rfl | exact leRL_refl _ | apply And.intro)
          all_goals (show _ = _; congr 1; omega)
        · (repeat' first | exact rfl | exact trivial | exact HWk.refl rfl | exact leRL_refl _ | apply And.intro)
      · show m.pages.length + 1 - (k + 1) < m.pages.length + 1 - k
        omega
    · rw [if_pos hE] at hn
      have g5 : insAll m (atsM m) [] ≠ 0 := by rw [hn]; exact hE
      obtain rfl : R = .ifc 104 (.int .i64 pe) := by rw [hR, show checkM m = pe from by unfold checkM; rw [if_neg g1, if_neg g2, if_neg g3, if_neg g4, if_pos g5, hn], errAV_ne hE]
      refine .gen _ _ (FnH.frame [1] (hc _ _ (by rw [if_neg hE]) (by rw [if_neg hE])) ⟨rfl, rfl, rfl, rfl⟩ ?_ ?_) fun _ => ?_
      · (repeat' first | exact rfl | exact trivial | exact HWk.refl rfl | exact leRL_refl _ | apply And.intro)
      · (repeat' first | exact rfl | exact trivial | exact HWk.refl rfl | exact leRL_refl _ | apply And.intro)
      ((try dsimp only [awp]); (conv => whnf))
      (refine FinSpec.mono ?_; (conv => whnf); refine ⟨?_, rfl⟩; (conv => whnf))
      (repeat' first | exact rfl | exact trivial | exact HWk.refl rfl | exact leRL_refl _ | apply And.intro)
  have hkl : m.pages.length + 1 ≤ k := by simp only [List.length_map] at h; omega
  rw [List.drop_eq_nil_of_le (by rw [ats_len]; omega)] at hn
  simp only [insAll] at hn
  have g5 : ¬ insAll m (atsM m) [] ≠ 0 := by rw [hn]; simp
  have z5 := hn
  clear h hn hk hkl hsp
  ((try dsimp only [awp]); (conv => whnf))
  refine .pure _ _ ?_ ⟨rfl, rfl⟩ (c_isInput m (-1) m.top (.inl rfl)) fun _ => ?_
  · exact leL_refl _
  ((try dsimp only [awp]); (conv => whnf))
  refine And.intro (fun g6 => ?_) (fun g6 => ?_)
  · have g6 : isInR m (-1) m.top = false := by simpa using g6
    obtain rfl : R = .ifc 104 (.int .i64 5) := by rw [hR, show checkM m = 5 from by unfold checkM; rw [if_neg g1, if_neg g2, if_neg g3, if_neg g4, if_neg g5, if_pos g6]]; rfl
    ((try dsimp only [awp]); (conv => whnf))
    (refine FinSpec.mono ?_; (conv => whnf); refine ⟨?_, rfl⟩; (conv => whnf))
    (repeat' first | exact rfl | exact trivial | exact HWk.refl rfl | exact leRL_refl _ | apply And.intro)
  have g6 : ¬ isInR m (-1) m.top = false := by simpa using g6
  ((try dsimp only [awp]); (conv => whnf))
  have cE := c_checkGroups m hC hB _ rfl
  by_cases g7 : groupsErr m ≠ 0
  · obtain rfl : R = .ifc 104 (.int .i64 (groupsErr m)) := by rw [hR, show checkM m = groupsErr m from by unfold checkM; rw [if_neg g1, if_neg g2, if_neg g3, if_neg g4, if_neg g5, if_neg g6]; rw [if_pos g7], errAV_ne g7]
    rw [errAV_ne g7] at cE
    refine .pure _ _ ?_ ⟨rfl, rfl⟩ cE fun _ => ?_
    · exact leL_refl _
    ((try dsimp only [awp]); (conv => whnf))
    (refine FinSpec.mono ?_; (conv => whnf); refine ⟨?_, rfl⟩; (conv => whnf))
    (repeat' first | exact rfl | exact trivial | exact HWk.refl rfl | exact leRL_refl _ | apply And.intro)
  rw [show groupsErr m = 0 from by simpa using g7, errAV_zero] at cE
  refine .pure _ _ ?_ ⟨rfl, rfl⟩ cE fun _ => ?_
  · exact leL_refl _
  ((try dsimp only [awp]); (conv => whnf))
  have cE := c_checkPhases m hC hB _ rfl
  by_cases g8 : phasesErr m ≠ 0
  · obtain rfl : R = .ifc 104 (.int .i64 (phasesErr m)) := by rw [hR, show checkM m = phasesErr m from by unfold checkM; rw [if_neg g1, if_neg g2, if_neg g3, if_neg g4, if_neg g5, if_neg g6, if_neg g7]; rw [if_pos g8], errAV_ne g8]
    rw [errAV_ne g8] at cE
    refine .pure _ _ ?_ ⟨rfl, rfl⟩ cE fun _ => ?_
    · exact leL_refl _
    ((try dsimp only [awp]); (conv => whnf))
    (refine FinSpec.mono ?_; (conv => whnf); refine ⟨?_, rfl⟩; (conv => whnf))
    (repeat' first | exact rfl | exact trivial | exact HWk.refl rfl | exact leRL_refl _ | apply And.intro)
  rw [show phasesErr m = 0 from by simpa using g8, errAV_zero] at cE
  refine .pure _ _ ?_ ⟨rfl, rfl⟩ cE fun _ => ?_
  · exact leL_refl _
  ((try dsimp only [awp]); (conv => whnf))
  have cy := c_cyclic m hB (closed_of (by simpa using g2) z4 z5)
  refine .pure _ _ ?_ ⟨rfl, rfl⟩ cy fun _ => ?_
  · exact leL_refl _
  ((try dsimp only [awp]); (conv => whnf))
  refine And.intro (fun g9 => ?_) (fun g9 => ?_)
  · obtain rfl : R = .ifc 104 (.int .i64 14) := by rw [hR, show checkM m = 14 from by unfold checkM; rw [if_neg g1, if_neg g2, if_neg g3, if_neg g4, if_neg g5, if_neg g6, if_neg g7, if_neg g8, if_pos g9]]; rfl
    ((try dsimp only [awp]); (conv => whnf))
    (refine FinSpec.mono ?_; (conv => whnf); refine ⟨?_, rfl⟩; (conv => whnf))
    (repeat' first | exact rfl | exact trivial | exact HWk.refl rfl | exact leRL_refl _ | apply And.intro)
  · obtain rfl : R = .nilI := by rw [hR, show checkM m = 0 from by unfold checkM; rw [if_neg g1, if_neg g2, if_neg g3, if_neg g4, if_neg g5, if_neg g6, if_neg g7, if_neg g8, if_neg (by rw [g9]; simp)]]; rfl
    ((try dsimp only [awp]); (conv => whnf))
    (refine FinSpec.mono ?_; (conv => whnf); refine ⟨?_, rfl⟩; (conv => whnf))
    (repeat' first | exact rfl | exact trivial | exact HWk.refl rfl | exact leRL_refl _ | apply And.intro)
end S

open Go Go.AL Go.Proofs
namespace S
set_option maxRecDepth 100000

structure MOk (m : Md) : Prop where
  name : nameR m.name = true
  evs : eventsErr m = 0
  pages : pagesErr m = 0
  gates : gatesErrAll m = 0
  ins : insAll m (atsM m) [] = 0
  top : isInR m (-1) m.top = true
  grs : groupsErr m = 0
  phs : phasesErr m = 0
  cyc : cycR m = false

theorem checkM_ok {m : Md} (h : checkM m = 0) : MOk m := by
  unfold checkM at h
  split at h
  · cases h
  rename_i h1
  split at h
  · rename_i h2; exact absurd h h2
  rename_i h2
  split at h
  · rename_i h2; exact absurd h h2
  rename_i h3
  split at h
  · rename_i h2; exact absurd h h2
  rename_i h4
  split at h
  · rename_i h2; exact absurd h h2
  rename_i h5
  split at h
  · cases h
  rename_i h6
  split at h
  · rename_i h2; exact absurd h h2
  rename_i h7
  split at h
  · rename_i h2; exact absurd h h2
  rename_i h8
  split at h
  · cases h
  rename_i h9
  exact ⟨by simpa using h1, by simpa using h2, by simpa using h3, by simpa using h4, by simpa using h5, by simpa using h6, by simpa using h7, by simpa using h8, by simpa using h9⟩

theorem MOk.closed {m : Md} (h : MOk m) : ClosedM m := closed_of h.evs h.gates h.ins
theorem MOk.inOk {m : Md} (h : MOk m) {a : Int} (ha : a = -1 ∨ (0 ≤ a ∧ a < (m.pages.length : Int))) {s : Str} (hs : isInR m a s = true) : InOk m a s := S.inOk h.evs h.gates h.ins ha hs
theorem MOk.lens {m : Md} (h : MOk m) : m.evs.length ≤ 24 ∧ m.hs.length ≤ 16 := ⟨(eventsErr_zero h.evs).1, (eventsErr_zero h.evs).2.1⟩

def inputR (m : Md) (a : Int) (s : Str) : Node × Int :=
  if checkM m ≠ 0 then ((0, 0, 0), checkM m) else if a < -1 then ((0, 0, 0), 10) else if (m.pages.length : Int) ≤ a then ((0, 0, 0), 10)
  else if isInR m a s = false then ((0, 0, 0), 5) else (resR m a s, 0)

theorem c_Input (m : Md) (a : Int) (s : Str) (hC : MdC m) (hB : MdB m) (R : AV) (hR : R = .tup [.int .i64 (inputR m a s).1.1, .int .i64 (inputR m a s).1.2.1, .int .i64 (inputR m a s).1.2.2, errAV (inputR m a s).2]) : FnH Tryz.prog 33 [m.av, .int .i64 a, .str s] [] R [] := by
  have cc := c_mCheck m hC hB _ rfl
  have hpl := hB.pages
  refine FnH.intro lay mixed Tryz.func33 (by kernel_rfl) rfl (by kernel_rfl) rfl fun hok => ?_
  ((try dsimp only [argC, succC]); (try dsimp only [awp]); (conv => whnf))
  refine .pure _ _ ?_ ⟨rfl, errAV_bnd _⟩ cc fun _ => ?_
  · exact leL_refl _
  by_cases g0 : checkM m ≠ 0
  · rw [errAV_ne g0]
    rw [show inputR m a s = ((0, 0, 0), checkM m) from by unfold inputR; rw [if_pos g0]] at hR
    rw [errAV_ne g0] at hR
    subst hR
    ((try dsimp only [awp]); (conv => whnf))
    (refine FinSpec.mono ?_; (conv => whnf); refine ⟨?_, rfl⟩; (conv => whnf))
    (repeat' first | exact rfl | exact trivial | exact HWk.refl rfl | exact leRL_refl _ | apply And.intro)
  have h0 : checkM m = 0 := by simpa using g0
  have hM := checkM_ok h0
  rw [h0, errAV_zero]
  ((try dsimp only [awp]); (conv => whnf))
  refine And.intro (fun g1 => ?_) (fun g1 => ?_)
  · rw [show inputR m a s = ((0, 0, 0), 10) from by unfold inputR; rw [if_neg g0, if_pos g1]] at hR
    rw [errAV_ne (by decide)] at hR
    subst hR
    ((try dsimp only [awp]); (conv => whnf))
    (refine FinSpec.mono ?_; (conv => whnf); refine ⟨?_, rfl⟩; (conv => whnf))
    (repeat' first | exact rfl | exact trivial | exact HWk.refl rfl | exact leRL_refl _ | apply And.intro)
  ((try dsimp only [awp]); (conv => whnf))
  refine And.intro (fun g2 => ?_) (fun g2 => ?_)
  · have g2 : (m.pages.length : Int) ≤ a := by simpa using g2
    rw [show inputR m a s = ((0, 0, 0), 10) from by unfold inputR; rw [if_neg g0, if_neg g1, if_pos g2]] at hR
    rw [errAV_ne (by decide)] at hR
    subst hR
    ((try dsimp only [awp]); (conv => whnf))
    (refine FinSpec.mono ?_; (conv => whnf); refine ⟨?_, rfl⟩; (conv => whnf))
    (repeat' first | exact rfl | exact trivial | exact HWk.refl rfl | exact leRL_refl _ | apply And.intro)
  have g2 : ¬ (m.pages.length : Int) ≤ a := by simpa using g2
  have ha : a = -1 ∨ (0 ≤ a ∧ a < (m.pages.length : Int)) := by omega
  ((try dsimp only [awp]); (conv => whnf))
  refine .pure _ _ ?_ ⟨rfl, rfl⟩ (c_isInput m a s ha) fun _ => ?_
  · exact leL_refl _
  ((try dsimp only [awp]); (conv => whnf))
  refine And.intro (fun g3 => ?_) (fun g3 => ?_)
  · have g3 : isInR m a s = false := by simpa using g3
    rw [show inputR m a s = ((0, 0, 0), 5) from by unfold inputR; rw [if_neg g0, if_neg g1, if_neg g2, if_pos g3]] at hR
    rw [errAV_ne (by decide)] at hR
    subst hR
    ((try dsimp only [awp]); (conv => whnf))
    (refine FinSpec.mono ?_; (conv => whnf); refine ⟨?_, rfl⟩; (conv => whnf))
    (repeat' first | exact rfl | exact trivial | exact HWk.refl rfl | exact leRL_refl _ | apply And.intro)
  have g3 : isInR m a s = true := by simpa using g3
  have hin := hM.inOk ha g3
  have cr := c_resolve m a s hin.pos ha hin.pg
  rw [show inputR m a s = (resR m a s, 0) from by unfold inputR; rw [if_neg g0, if_neg g1, if_neg g2, if_neg (by simp [g3])]] at hR
  rw [errAV_zero] at hR
  generalize resR m a s = r at *
  subst hR
  ((try dsimp only [awp]); (conv => whnf))
  refine .pure _ _ ?_ ⟨rfl, rfl⟩ cr fun _ => ?_
  · exact leL_refl _
  ((try dsimp only [awp]); (conv => whnf))
  (refine ADraw.auto (by kernel_rfl) ?_; (conv => whnf))
  (refine FinSpec.mono ?_; (conv => whnf); refine ⟨?_, rfl⟩; (conv => whnf))
  (repeat' first | exact rfl | exact trivial | exact HWk.refl rfl | exact leRL_refl _ | apply And.intro)

def bitsV (l : List Node) : Nat := l.foldl (fun b x => if x.1 = 0 ∧ x.2.2.toNat < 24 then b ||| 2 ^ x.2.2.toNat else b) 0

theorem bits_lt : ∀ (l : List Node) (b : Nat), b < 2 ^ 24 → l.foldl (fun b x => if x.1 = 0 ∧ x.2.2.toNat < 24 then b ||| 2 ^ x.2.2.toNat else b) b < 2 ^ 24
  | [], _, h => h
  | x :: l, b, h => by
    simp only [List.foldl_cons]
    refine bits_lt l _ ?_
    split
    · rename_i h1
      exact Nat.or_lt_two_pow h (Nat.pow_lt_pow_right (by omega) h1.2)
    · exact h

theorem bitsV_lt (l : List Node) : bitsV l < 2 ^ 24 := bits_lt l 0 (by decide)

theorem bitsV_snoc (l : List Node) (x : Node) : bitsV (l ++ [x]) = if x.1 = 0 ∧ x.2.2.toNat < 24 then bitsV l ||| 2 ^ x.2.2.toNat else bitsV l := by
  unfold bitsV
  rw [List.foldl_append]; rfl

def dynV (m : Md) (l : List Node) : Bool := l.any fun x => decide (x.1 = 2) && decide (6 ≤ (gateAt m x).kind)

abbrev walkV (m : Md) : Node → WS (List Node) → Bool × WS (List Node) := walkF (kidsM m) (fun st x => st ++ [x]) (fuelM m)

def visitedM (m : Md) : List Node := (walkV m (resR m (-1) m.top) ⟨[], []⟩).2.st

theorem c_Used1 (m : Md) (hM : MOk m) (l : List Node) (x : Node) (hx : okN m x) : FnH Tryz.prog 84 [nAV x, .ptr 0 [] 0] [(0, .box (.int .i64 (bitsV l)))] (.tup []) [(0, .box (.int .i64 (bitsV (l ++ [x]))))] := by
  have hb := bitsV_lt l
  have hs := bitsV_snoc l x
  have hl := hM.lens.1
  refine FnH.intro lay mixed Tryz.func84 (by kernel_rfl) rfl (by kernel_rfl) rfl fun hok => ?_
  ((try dsimp only [argC, succC]); (try dsimp only [awp]); (conv => whnf))
  refine And.intro (fun h => ?_) (fun h => ?_)
  · have h24 : 0 ≤ x.2.2 ∧ x.2.2.toNat < 24 := by
      rcases hx with h1 | h1 | h1
      · omega
      · omega
      · have := (mem_all.1 h1).1; omega
    rw [if_pos ⟨h, h24.2⟩] at hs
    rw [hs]
    obtain ⟨j, hj⟩ : ∃ j : Nat, x.2.2 = j := ⟨x.2.2.toNat, by omega⟩
    rw [hj] at h24
    have hpj : 2 ^ j < 2 ^ 24 := Nat.pow_lt_pow_right (by omega) (by omega)
    ((try dsimp only [awp]); (conv => whnf))
    (refine ADraw.auto (by kernel_rfl) ?_; (conv => whnf))
    refine ⟨by omega, ?_⟩
    rw [hj, shl_one (by omega)]
    (conv => whnf)
    rw [or_nat (by omega) (by omega)]
    refine ⟨⟨_, _, .refl _ _, ?_⟩⟩
    (conv => whnf)
    refine ⟨trivial, rfl, by simp [nextId], .mk ?_ ⟨by simp, trivial⟩⟩
    (repeat' first | exact rfl | exact trivial | exact HWk.refl rfl | exact leRL_refl _ | apply And.intro)
  · rw [if_neg (fun e => h e.1)] at hs
    rw [hs]
    ((try dsimp only [awp]); (conv => whnf))
    refine ⟨⟨_, _, .refl _ _, ?_⟩⟩
    (conv => whnf)
    refine ⟨trivial, rfl, by simp [nextId], .mk ?_ ⟨by simp, trivial⟩⟩
    (repeat' first | exact rfl | exact trivial | exact HWk.refl rfl | exact leRL_refl _ | apply And.intro)
end S

open Go Go.AL Go.Proofs
namespace S
set_option maxRecDepth 100000

theorem dynV_snoc (m : Md) (l : List Node) (x : Node) : dynV m (l ++ [x]) = (dynV m l || (decide (x.1 = 2) && decide (6 ≤ (gateAt m x).kind))) := by
  unfold dynV
  rw [List.any_append]; simp

theorem c_Dyn1 (m : Md) (l : List Node) (x : Node) (hx : okN m x) : FnH Tryz.prog 82 [nAV x, .ptr 1 [] 0, .ptr 0 [] 0] [(1, .box (.bool (dynV m l))), (0, .box m.av)] (.tup []) [(1, .box (.bool (dynV m (l ++ [x])))), (0, .box m.av)] := by
  have hs := dynV_snoc m l x
  have cG := fun h => c_gatesOf m x.2.1 h
  refine FnH.intro lay mixed Tryz.func82 (by kernel_rfl) rfl (by kernel_rfl) rfl fun hok => ?_
  ((try dsimp only [argC, succC]); (try dsimp only [awp]); (conv => whnf))
  refine ADraw.mk ⟨[false, true, true, false, true, true, false, true, false, true, true, false, true, true, false, true, true, true, false], by kernel_rfl, ?_⟩
  (conv => whnf)
  refine And.intro (fun h1 => ?_) (fun h1 => ?_)
  · rw [h1, Bool.true_or] at hs
    rw [hs]
    ((try dsimp only [awp]); (conv => whnf))
    refine ⟨⟨_, _, .refl _ _, ?_⟩⟩
    (conv => whnf)
    refine ⟨trivial, rfl, by simp [nextId], .mk ?_ ⟨by simp, by simp, trivial⟩⟩
    (repeat' first | exact rfl | exact trivial | exact HWk.refl rfl | exact leRL_refl _ | apply And.intro)
    all_goals rfl
  rw [h1, Bool.false_or] at hs
  ((try dsimp only [awp]); (conv => whnf))
  refine And.intro (fun h2 => ?_) (fun h2 => ?_)
  · have hm : x ∈ allNodes m := by
      rcases hx with h | h | h
      · omega
      · omega
      · exact h
    obtain ⟨_, hpg, hix⟩ := mem_all.1 hm
    rw [decide_eq_true h2, Bool.true_and] at hs
    rw [hs]
    ((try dsimp only [awp]); (conv => whnf))
    refine ACallP.pure _ _ ?_ ⟨rfl, rfl⟩ (cG hpg) ?_
    · (repeat' first | exact rfl | exact trivial | exact HWk.refl rfl | exact leRL_refl _ | apply And.intro)
    ((try dsimp only [awp]); (conv => whnf))
    refine aidxD default hix ?_
    rw [show (gatesM m x.2.1).getD x.2.2.toNat default = gateAt m x from rfl]
    ((try dsimp only [awp]); (conv => whnf))
    refine ⟨⟨_, _, .refl _ _, ?_⟩⟩
    (conv => whnf)
    refine ⟨trivial, rfl, by simp [nextId], .mk ?_ ⟨by simp, by simp, trivial⟩⟩
    (repeat' first | exact rfl | exact trivial | exact HWk.refl rfl | exact leRL_refl _ | apply And.intro)
    all_goals (first | (show _ ↔ _; simp; done) | (show (_ : Bool) = _; simp; done))
  · rw [decide_eq_false h2, Bool.false_and] at hs
    rw [hs]
    ((try dsimp only [awp]); (conv => whnf))
    refine ⟨⟨_, _, .refl _ _, ?_⟩⟩
    (conv => whnf)
    refine ⟨trivial, rfl, by simp [nextId], .mk ?_ ⟨by simp, by simp, trivial⟩⟩
    (repeat' first | exact rfl | exact trivial | exact HWk.refl rfl | exact leRL_refl _ | apply And.intro)
    all_goals rfl

def usedR (m : Md) : Nat := bitsV (visitedM m)
def dynR (m : Md) : Bool := dynV m (visitedM m)

theorem c_Used (m : Md) (hC : MdC m) (hB : MdB m) (R : AV) (hR : R = if checkM m = 0 then .tup [.int .i64 (usedR m), .nilI] else .tup [.int .i64 0, .ifc 104 (.int .i64 (checkM m))]) : FnH Tryz.prog 36 [m.av] [] R [] := by
  have cc := c_mCheck m hC hB _ rfl
  by_cases g0 : checkM m ≠ 0
  · rw [errAV_ne g0] at cc
    rw [if_neg g0] at hR
    subst hR
    refine FnH.intro lay mixed Tryz.func36 (by kernel_rfl) rfl (by kernel_rfl) rfl fun hok => ?_
    ((try dsimp only [argC, succC]); (try dsimp only [awp]); (conv => whnf))
    refine .pure _ _ ?_ ⟨rfl, rfl⟩ cc fun _ => ?_
    · exact leL_refl _
    ((try dsimp only [awp]); (conv => whnf))
    (refine FinSpec.mono ?_; (conv => whnf); refine ⟨?_, rfl⟩; (conv => whnf))
    (repeat' first | exact rfl | exact trivial | exact HWk.refl rfl | exact leRL_refl _ | apply And.intro)
  have h0 : checkM m = 0 := by simpa using g0
  have hM := checkM_ok h0
  rw [h0, errAV_zero] at cc
  rw [if_pos h0] at hR
  subst hR
  have hin := hM.inOk (.inl rfl) hM.top
  have cr := c_resolve m (-1) m.top hin.pos (.inl rfl) hin.pg
  have cw := c_walkA m 84 (fun st => .int .i64 (bitsV st)) (fun _ _ => rfl) (fun _ _ => rfl) (fun st x => st ++ [x]) (allNodes m) (okN m) (nodeOk hB hM.closed) (fun st x hx => c_Used1 m hM st x hx) (fuelM m) (resR m (-1) m.top) ⟨[], []⟩ hin.ok (free_fuel m _)
  have hv : visitedM m = (walkF (kidsM m) (fun st x => st ++ [x]) (fuelM m) (resR m (-1) m.top) ⟨[], []⟩).2.st := rfl
  generalize walkF (kidsM m) (fun st x => st ++ [x]) (fuelM m) (resR m (-1) m.top) ⟨[], []⟩ = r at *
  obtain ⟨rb, ⟨res, rst⟩⟩ := r
  dsimp only at hv
  unfold usedR
  rw [hv]
  generalize resR m (-1) m.top = x at *
  refine FnH.intro lay mixed Tryz.func36 (by kernel_rfl) rfl (by kernel_rfl) rfl fun hok => ?_
  ((try dsimp only [argC, succC]); (try dsimp only [awp]); (conv => whnf))
  refine .pure _ _ ?_ ⟨rfl, rfl⟩ cc fun _ => ?_
  · exact leL_refl _
  ((try dsimp only [awp]); (conv => whnf))
  refine ADraw.mk ⟨[false, false, true, false, true, false, true, false], by kernel_rfl, ?_⟩
  (conv => whnf)
  refine ACallP.pure _ _ ?_ ⟨rfl, rfl⟩ cr ?_
  · (repeat' first | exact rfl | exact trivial | exact HWk.refl rfl | exact leRL_refl _ | apply And.intro)
  ((try dsimp only [awp]); (conv => whnf))
  refine .gen _ _ (FnH.frame [1, 2] cw ⟨rfl, rfl, rfl, rfl⟩ ?_ ?_) fun _ => ?_
  · (repeat' first | exact rfl | exact trivial | exact HWk.refl rfl | exact leRL_refl _ | apply And.intro)
  · (repeat' first | exact rfl | exact trivial | exact HWk.refl rfl | exact leRL_refl _ | apply And.intro)
  ((try dsimp only [awp]); (conv => whnf))
  (refine FinSpec.mono ?_; (conv => whnf); refine ⟨?_, rfl⟩; (conv => whnf))
  (repeat' first | exact rfl | exact trivial | exact HWk.refl rfl | exact leRL_refl _ | apply And.intro)

theorem c_Dynamic (m : Md) (hC : MdC m) (hB : MdB m) (R : AV) (hR : R = if checkM m = 0 then .tup [.bool (dynR m), .nilI] else .tup [.bool false, .ifc 104 (.int .i64 (checkM m))]) : FnH Tryz.prog 35 [m.av] [] R [] := by
  have cc := c_mCheck m hC hB _ rfl
  by_cases g0 : checkM m ≠ 0
  · rw [errAV_ne g0] at cc
    rw [if_neg g0] at hR
    subst hR
    refine FnH.intro lay mixed Tryz.func35 (by kernel_rfl) rfl (by kernel_rfl) rfl fun hok => ?_
    ((try dsimp only [argC, succC]); (try dsimp only [awp]); (conv => whnf))
    refine .pure _ _ ?_ ⟨rfl, rfl⟩ cc fun _ => ?_
    · exact leL_refl _
    ((try dsimp only [awp]); (conv => whnf))
    (refine FinSpec.mono ?_; (conv => whnf); refine ⟨?_, rfl⟩; (conv => whnf))
    (repeat' first | exact rfl | exact trivial | exact HWk.refl rfl | exact leRL_refl _ | apply And.intro)
  have h0 : checkM m = 0 := by simpa using g0
  have hM := checkM_ok h0
  rw [h0, errAV_zero] at cc
  rw [if_pos h0] at hR
  subst hR
  have hin := hM.inOk (.inl rfl) hM.top
  have cr := c_resolve m (-1) m.top hin.pos (.inl rfl) hin.pg
  have cw := c_walkB m 82 (fun st => .bool (dynV m st)) (fun _ _ => rfl) (fun _ _ => rfl) (fun st x => st ++ [x]) (allNodes m) (okN m) (nodeOk hB hM.closed) (fun st x hx => c_Dyn1 m st x hx) (fuelM m) (resR m (-1) m.top) ⟨[], []⟩ hin.ok (free_fuel m _)
  have hv : visitedM m = (walkF (kidsM m) (fun st x => st ++ [x]) (fuelM m) (resR m (-1) m.top) ⟨[], []⟩).2.st := rfl
  generalize walkF (kidsM m) (fun st x => st ++ [x]) (fuelM m) (resR m (-1) m.top) ⟨[], []⟩ = r at *
  obtain ⟨rb, ⟨res, rst⟩⟩ := r
  dsimp only at hv
  unfold dynR
  rw [hv]
  generalize resR m (-1) m.top = x at *
  refine FnH.intro lay mixed Tryz.func35 (by kernel_rfl) rfl (by kernel_rfl) rfl fun hok => ?_
  ((try dsimp only [argC, succC]); (try dsimp only [awp]); (conv => whnf))
  refine .pure _ _ ?_ ⟨rfl, rfl⟩ cc fun _ => ?_
  · exact leL_refl _
  ((try dsimp only [awp]); (conv => whnf))
  refine ADraw.mk ⟨[false, false, true, false, true, false, true, false], by kernel_rfl, ?_⟩
  (conv => whnf)
  refine ACallP.pure _ _ ?_ ⟨rfl, rfl⟩ cr ?_
  · (repeat' first | exact rfl | exact trivial | exact HWk.refl rfl | exact leRL_refl _ | apply And.intro)
  ((try dsimp only [awp]); (conv => whnf))
  refine .gen _ _ (FnH.frame [0, 1, 2] cw ⟨rfl, rfl, rfl, rfl⟩ ?_ ?_) fun _ => ?_
  · (repeat' first | exact rfl | exact trivial | exact HWk.refl rfl | exact leRL_refl _ | apply And.intro)
  · (repeat' first | exact rfl | exact trivial | exact HWk.refl rfl | exact leRL_refl _ | apply And.intro)
  ((try dsimp only [awp]); (conv => whnf))
  (refine FinSpec.mono ?_; (conv => whnf); refine ⟨?_, rfl⟩; (conv => whnf))
  (repeat' first | exact rfl | exact trivial | exact HWk.refl rfl | exact leRL_refl _ | apply And.intro)
end S

open Go Go.AL Go.Proofs
namespace S
set_option maxRecDepth 100000

def fewG (x : Mg) : Bool := decide (x.ins.length ≤ 40) && shortR x.dorm
def fewR (l : List Mg) : Bool := l.all fewG && decide (l.length ≤ 100)
def evS (x : Ev) : Bool := shortR x.p && shortR x.fail && shortR x.repair
def grS (x : Gr) : Bool := decide (x.mem.length ≤ 60) && decide (x.fac.length ≤ 60) && x.fac.all shortR
def phS (x : Ph) : Bool := decide (x.vals.length ≤ 60) && x.vals.all fun v => shortR v.p

def lightM (m : Md) : Bool := decide (m.evs.length ≤ 60) && decide (m.hs.length ≤ 60) && decide (m.pages.length ≤ 30) && decide (m.grs.length ≤ 30) && decide (m.phs.length ≤ 30) && fewR m.gates &&
  m.evs.all evS && (m.pages.all fun p => fewR p.gates) && m.grs.all grS && m.phs.all phS

theorem c_few (l : List Mg) (R : AV) (hR : R = .bool (fewR l)) : FnH Tryz.prog 70 [gL l] [] R [] := by
  refine FnH.intro lay mixed Tryz.func70 (by kernel_rfl) rfl (by kernel_rfl) rfl fun hok => ?_
  have lg : l.length ≤ 9223372036854775807 := by have := hok.1.1; simpa [maxL] using this
  ((try dsimp only [argC, succC]); (try dsimp only [awp]); (conv => whnf))
  refine LoopE.of <| LoopSpec.inv (.refl _ _) (fun (i : Nat) => i ≤ l.length ∧ (l.take i).all fewG = true) (fun (i : Nat) => [(7, .int .i64 i)]) (fun _ => _) (fun (i : Nat) => l.length - i) 0 ?_ (fun _ => rfl) ?_ ?_
  · exact ⟨Nat.zero_le _, by simp⟩
  · (repeat' first | exact rfl | exact trivial | exact HWk.refl rfl | exact leRL_refl _ | apply And.intro)
  rintro i ⟨hi, hn⟩ _
  ((try dsimp only [awp]); (conv => whnf))
  refine And.intro (fun h => ?_) (fun h => ?_)
  · have hlt : i < l.length := by simpa using h
    have hall := all_take (p := fewG) hlt
    have hmem := List.getElem_mem hlt
    ((try dsimp only [awp]); (conv => whnf))
    refine aidx hlt ?_
    generalize l[i] = g at *
    have no : fewG g = false → R = .bool false := fun h => by rw [hR]; unfold fewR; rw [all_false hmem h]; rfl
    ((try dsimp only [awp]); (conv => whnf))
    refine And.intro (fun h1 => ?_) (fun h1 => ?_)
    · have h1 : ¬ g.ins.length ≤ 40 := by simp only [List.length_map] at h1; omega
      obtain rfl := no (by simp [fewG, h1])
      ((try dsimp only [awp]); (conv => whnf))
      (refine FinSpec.mono ?_; (conv => whnf); refine ⟨?_, rfl⟩; (conv => whnf))
      (repeat' first | exact rfl | exact trivial | exact HWk.refl rfl | exact leRL_refl _ | apply And.intro)
    have h1 : g.ins.length ≤ 40 := by simp only [List.length_map] at h1; omega
    ((try dsimp only [awp]); (conv => whnf))
    refine .pure _ _ ?_ ⟨rfl, rfl⟩ (c_Short g.dorm) fun _ => ?_
    · exact leL_refl _
    ((try dsimp only [awp]); (conv => whnf))
    refine And.intro (fun h2 => ?_) (fun h2 => ?_)
    · have h2 : shortR g.dorm = false := by simpa using h2
      obtain rfl := no (by simp [fewG, h2])
      ((try dsimp only [awp]); (conv => whnf))
      (refine FinSpec.mono ?_; (conv => whnf); refine ⟨?_, rfl⟩; (conv => whnf))
      (repeat' first | exact rfl | exact trivial | exact HWk.refl rfl | exact leRL_refl _ | apply And.intro)
    have h2 : shortR g.dorm = true := by simpa using h2
    ((try dsimp only [awp]); (conv => whnf))
    (refine ⟨inr64 (by omega) (by omega), ?_⟩; (conv => whnf))
    refine ⟨i + 1, ?_, ?_, ?_⟩
    · exact ⟨hlt, by rw [hall, hn]; simp [fewG, h1, h2]⟩
    · refine ⟨?_, .mk ?_ trivial⟩
      · (repeat' first | exact rfl | exact trivial | exact HWk.refl rfl | exact leRL_refl _ | apply And.intro)
      · (repeat' first | exact rfl | exact trivial | exact HWk.refl rfl | exact leRL_refl _ | apply And.intro)
    · omega
  have hil : i = l.length := by have : ¬ i < l.length := by simpa using h
                                omega
  subst hil
  rw [List.take_length] at hn
  subst hR
  ((try dsimp only [awp]); (conv => whnf))
  (refine FinSpec.mono ?_; (conv => whnf); refine ⟨?_, rfl⟩; (conv => whnf))
  show _ ↔ _
  simp [fewR, hn]
  omega

theorem c_LightM (m : Md) (R : AV) (hR : R = .bool (lightM m)) : FnH Tryz.prog 31 [m.av] [] R [] := by
  refine FnH.intro lay mixed Tryz.func31 (by kernel_rfl) rfl (by kernel_rfl) rfl fun hok => ?_
  ((try dsimp only [argC, succC]); (try dsimp only [awp]); (conv => whnf))
  refine And.intro (fun h1 => ?_) (fun h1 => ?_)
  · have h1 : ¬ m.evs.length ≤ 60 := by simp only [List.length_map] at h1; omega
    obtain rfl : R = .bool false := by rw [hR]; congr 1; unfold lightM; rw [decide_eq_false h1]; simp
    ((try dsimp only [awp]); (conv => whnf))
    (refine FinSpec.mono ?_; (conv => whnf); refine ⟨?_, rfl⟩; (conv => whnf))
    (repeat' first | exact rfl | exact trivial | exact HWk.refl rfl | exact leRL_refl _ | apply And.intro)
  have h1 : m.evs.length ≤ 60 := by simp only [List.length_map] at h1; omega
  ((try dsimp only [awp]); (conv => whnf))
  refine And.intro (fun h2 => ?_) (fun h2 => ?_)
  · have h2 : ¬ m.hs.length ≤ 60 := by simp only [List.length_map] at h2; omega
    obtain rfl : R = .bool false := by rw [hR]; congr 1; unfold lightM; rw [decide_eq_false h2]; simp
    ((try dsimp only [awp]); (conv => whnf))
    (refine FinSpec.mono ?_; (conv => whnf); refine ⟨?_, rfl⟩; (conv => whnf))
    (repeat' first | exact rfl | exact trivial | exact HWk.refl rfl | exact leRL_refl _ | apply And.intro)
  have h2 : m.hs.length ≤ 60 := by simp only [List.length_map] at h2; omega
  ((try dsimp only [awp]); (conv => whnf))
  refine And.intro (fun h3 => ?_) (fun h3 => ?_)
  · have h3 : ¬ m.pages.length ≤ 30 := by simp only [List.length_map] at h3; omega
    obtain rfl : R = .bool false := by rw [hR]; congr 1; unfold lightM; rw [decide_eq_false h3]; simp
    ((try dsimp only [awp]); (conv => whnf))
    (refine FinSpec.mono ?_; (conv => whnf); refine ⟨?_, rfl⟩; (conv => whnf))
    (repeat' first | exact rfl | exact trivial | exact HWk.refl rfl | exact leRL_refl _ | apply And.intro)
  have h3 : m.pages.length ≤ 30 := by simp only [List.length_map] at h3; omega
  ((try dsimp only [awp]); (conv => whnf))
  refine And.intro (fun h4 => ?_) (fun h4 => ?_)
  · have h4 : ¬ m.grs.length ≤ 30 := by simp only [List.length_map] at h4; omega
    obtain rfl : R = .bool false := by rw [hR]; congr 1; unfold lightM; rw [decide_eq_false h4]; simp
    ((try dsimp only [awp]); (conv => whnf))
    (refine FinSpec.mono ?_; (conv => whnf); refine ⟨?_, rfl⟩; (conv => whnf))
    (repeat' first | exact rfl | exact trivial | exact HWk.refl rfl | exact leRL_refl _ | apply And.intro)
  have h4 : m.grs.length ≤ 30 := by simp only [List.length_map] at h4; omega
  ((try dsimp only [awp]); (conv => whnf))
  refine And.intro (fun h5 => ?_) (fun h5 => ?_)
  · have h5 : ¬ m.phs.length ≤ 30 := by simp only [List.length_map] at h5; omega
    obtain rfl : R = .bool false := by rw [hR]; congr 1; unfold lightM; rw [decide_eq_false h5]; simp
    ((try dsimp only [awp]); (conv => whnf))
    (refine FinSpec.mono ?_; (conv => whnf); refine ⟨?_, rfl⟩; (conv => whnf))
    (repeat' first | exact rfl | exact trivial | exact HWk.refl rfl | exact leRL_refl _ | apply And.intro)
  have h5 : m.phs.length ≤ 30 := by simp only [List.length_map] at h5; omega
  ((try dsimp only [awp]); (conv => whnf))
  refine .pure _ _ ?_ ⟨rfl, rfl⟩ (c_few m.gates _ rfl) fun _ => ?_
  · exact leL_refl _
  ((try dsimp only [awp]); (conv => whnf))
  refine And.intro (fun h6 => ?_) (fun h6 => ?_)
  · have h6 : fewR m.gates = false := by simpa using h6
    obtain rfl : R = .bool false := by rw [hR]; congr 1; unfold lightM; rw [h6]; simp
    ((try dsimp only [awp]); (conv => whnf))
    (refine FinSpec.mono ?_; (conv => whnf); refine ⟨?_, rfl⟩; (conv => whnf))
    (repeat' first | exact rfl | exact trivial | exact HWk.refl rfl | exact leRL_refl _ | apply And.intro)
  have h6 : fewR m.gates = true := by simpa using h6
  ((try dsimp only [awp]); (conv => whnf))
  refine LoopE.of <| LoopSpec.inv (.refl _ _) (fun (i : Nat) => i ≤ m.evs.length ∧ (m.evs.take i).all evS = true) (fun (i : Nat) => [(52, .int .i64 i)]) (fun _ => _) (fun (i : Nat) => m.evs.length - i) 0 ?_ (fun _ => rfl) ?_ ?_
  · exact ⟨Nat.zero_le _, by simp⟩
  · (repeat' first | exact rfl | exact trivial | exact HWk.refl rfl | exact leRL_refl _ | apply And.intro)
  rintro i ⟨hi, hn⟩ _
  ((try dsimp only [awp]); (conv => whnf))
  refine And.intro (fun h => ?_) (fun h => ?_)
  · have hlt : i < m.evs.length := by simpa using h
    have hall := all_take (p := evS) hlt
    have hmem := List.getElem_mem hlt
    ((try dsimp only [awp]); (conv => whnf))
    refine aidx hlt ?_
    generalize m.evs[i] = g at *
    ((try dsimp only [awp]); (conv => whnf))
    refine .pure _ _ ?_ ⟨rfl, rfl⟩ (c_Short g.p) fun _ => ?_
    · exact leL_refl _
    ((try dsimp only [awp]); (conv => whnf))
    refine And.intro (fun q1 => ?_) (fun q1 => ?_)
    · have q1 : shortR g.p = false := by simpa using q1
      obtain rfl : R = .bool false := by rw [hR]; congr 1; unfold lightM; rw [all_false hmem (show evS g = false by simp [evS, q1])]; simp
      ((try dsimp only [awp]); (conv => whnf))
      (refine FinSpec.mono ?_; (conv => whnf); refine ⟨?_, rfl⟩; (conv => whnf))
      (repeat' first | exact rfl | exact trivial | exact HWk.refl rfl | exact leRL_refl _ | apply And.intro)
    have q1 : shortR g.p = true := by simpa using q1
    ((try dsimp only [awp]); (conv => whnf))
    refine .pure _ _ ?_ ⟨rfl, rfl⟩ (c_Short g.fail) fun _ => ?_
    · exact leL_refl _
    ((try dsimp only [awp]); (conv => whnf))
    refine And.intro (fun q2 => ?_) (fun q2 => ?_)
    · have q2 : shortR g.fail = false := by simpa using q2
      obtain rfl : R = .bool false := by rw [hR]; congr 1; unfold lightM; rw [all_false hmem (show evS g = false by simp [evS, q2])]; simp
      ((try dsimp only [awp]); (conv => whnf))
      (refine FinSpec.mono ?_; (conv => whnf); refine ⟨?_, rfl⟩; (conv => whnf))
      (repeat' first | exact rfl | exact trivial | exact HWk.refl rfl | exact leRL_refl _ | apply And.intro)
    have q2 : shortR g.fail = true := by simpa using q2
    ((try dsimp only [awp]); (conv => whnf))
    refine .pure _ _ ?_ ⟨rfl, rfl⟩ (c_Short g.repair) fun _ => ?_
    · exact leL_refl _
    ((try dsimp only [awp]); (conv => whnf))
    refine And.intro (fun q3 => ?_) (fun q3 => ?_)
    · have q3 : shortR g.repair = false := by simpa using q3
      obtain rfl : R = .bool false := by rw [hR]; congr 1; unfold lightM; rw [all_false hmem (show evS g = false by simp [evS, q3])]; simp
      ((try dsimp only [awp]); (conv => whnf))
      (refine FinSpec.mono ?_; (conv => whnf); refine ⟨?_, rfl⟩; (conv => whnf))
      (repeat' first | exact rfl | exact trivial | exact HWk.refl rfl | exact leRL_refl _ | apply And.intro)
    have q3 : shortR g.repair = true := by simpa using q3
    ((try dsimp only [awp]); (conv => whnf))
    (refine ⟨inr64 (by omega) (by omega), ?_⟩; (conv => whnf))
    refine ⟨i + 1, ?_, ?_, ?_⟩
    · exact ⟨hlt, by rw [hall, hn]; simp [evS, q1, q2, q3]⟩
    · refine ⟨?_, .mk ?_ ⟨by simp, trivial⟩⟩
      · (repeat' first | exact rfl | exact trivial | exact HWk.refl rfl | exact leRL_refl _ | apply And.intro)
      · (repeat' first | exact rfl | exact trivial | exact HWk.refl rfl | exact leRL_refl _ | apply And.intro)
    · omega
  have hil : i = m.evs.length := by have : ¬ i < m.evs.length := by simpa using h
                                    omega
  subst hil
  rw [List.take_length] at hn
  have a1 := hn
  clear h hi hn
  ((try dsimp only [awp]); (conv => whnf))
  refine LoopE.of <| LoopSpec.inv (.refl _ _) (fun (i : Nat) => i ≤ m.pages.length ∧ (m.pages.take i).all (fun p => fewR p.gates) = true) (fun (i : Nat) => [(76, .int .i64 i)]) (fun _ => _) (fun (i : Nat) => m.pages.length - i) 0 ?_ (fun _ => rfl) ?_ ?_
  · exact ⟨Nat.zero_le _, by simp⟩
  · (repeat' first | exact rfl | exact trivial | exact HWk.refl rfl | exact leRL_refl _ | apply And.intro)
  rintro i ⟨hi, hn⟩ _
  ((try dsimp only [awp]); (conv => whnf))
  refine And.intro (fun h => ?_) (fun h => ?_)
  · have hlt : i < m.pages.length := by simpa using h
    have hall := all_take (p := fun p : Pg => fewR p.gates) hlt
    have hmem := List.getElem_mem hlt
    ((try dsimp only [awp]); (conv => whnf))
    refine aidx hlt ?_
    generalize m.pages[i] = g at *
    ((try dsimp only [awp]); (conv => whnf))
    refine .pure _ _ ?_ ⟨rfl, rfl⟩ (c_few g.gates _ rfl) fun _ => ?_
    · exact leL_refl _
    ((try dsimp only [awp]); (conv => whnf))
    refine And.intro (fun q1 => ?_) (fun q1 => ?_)
    · have q1 : fewR g.gates = false := by simpa using q1
      obtain rfl : R = .bool false := by rw [hR]; congr 1; unfold lightM; rw [all_false (p := fun p : Pg => fewR p.gates) hmem q1]; simp
      ((try dsimp only [awp]); (conv => whnf))
      (refine FinSpec.mono ?_; (conv => whnf); refine ⟨?_, rfl⟩; (conv => whnf))
      (repeat' first | exact rfl | exact trivial | exact HWk.refl rfl | exact leRL_refl _ | apply And.intro)
    have q1 : fewR g.gates = true := by simpa using q1
    ((try dsimp only [awp]); (conv => whnf))
    (refine ⟨inr64 (by omega) (by omega), ?_⟩; (conv => whnf))
    refine ⟨i + 1, ?_, ?_, ?_⟩
    · exact ⟨hlt, by rw [hall, hn]; simp [q1]⟩
    · refine ⟨?_, .mk ?_ ⟨by simp, trivial⟩⟩
      · (repeat' first | exact rfl | exact trivial | exact HWk.refl rfl | exact leRL_refl _ | apply And.intro)
      · (repeat' first | exact rfl | exact trivial | exact HWk.refl rfl | exact leRL_refl _ | apply And.intro)
    · omega
  have hil : i = m.pages.length := by have : ¬ i < m.pages.length := by simpa using h
                                      omega
  subst hil
  rw [List.take_length] at hn
  have a2 := hn
  clear h hi hn
  ((try dsimp only [awp]); (conv => whnf))
  refine LoopE.of <| LoopSpec.inv (.refl _ _) (fun (i : Nat) => i ≤ m.grs.length ∧ (m.grs.take i).all grS = true) (fun (i : Nat) => [(88, .int .i64 i)]) (fun _ => _) (fun (i : Nat) => m.grs.length - i) 0 ?_ (fun _ => rfl) ?_ ?_
  · exact ⟨Nat.zero_le _, by simp⟩
  · (repeat' first | exact rfl | exact trivial | exact HWk.refl rfl | exact leRL_refl _ | apply And.intro)
  rintro i ⟨hi, hn⟩ _
  ((try dsimp only [awp]); (conv => whnf))
  refine And.intro (fun h => ?_) (fun h => ?_)
  · have hlt : i < m.grs.length := by simpa using h
    have hall := all_take (p := grS) hlt
    have hmem := List.getElem_mem hlt
    ((try dsimp only [awp]); (conv => whnf))
    refine aidx hlt ?_
    generalize m.grs[i] = g at *
    ((try dsimp only [awp]); (conv => whnf))
    refine And.intro (fun q1 => ?_) (fun q1 => ?_)
    · have q1 : ¬ g.mem.length ≤ 60 := by simp only [List.length_map] at q1; omega
      obtain rfl : R = .bool false := by rw [hR]; congr 1; unfold lightM; rw [all_false hmem (show grS g = false by simp [grS, q1])]; simp
      ((try dsimp only [awp]); (conv => whnf))
      (refine FinSpec.mono ?_; (conv => whnf); refine ⟨?_, rfl⟩; (conv => whnf))
      (repeat' first | exact rfl | exact trivial | exact HWk.refl rfl | exact leRL_refl _ | apply And.intro)
    have q1 : g.mem.length ≤ 60 := by simp only [List.length_map] at q1; omega
    ((try dsimp only [awp]); (conv => whnf))
    refine And.intro (fun q2 => ?_) (fun q2 => ?_)
    · have q2 : ¬ g.fac.length ≤ 60 := by simp only [List.length_map] at q2; omega
      obtain rfl : R = .bool false := by rw [hR]; congr 1; unfold lightM; rw [all_false hmem (show grS g = false by simp [grS, q2])]; simp
      ((try dsimp only [awp]); (conv => whnf))
      (refine FinSpec.mono ?_; (conv => whnf); refine ⟨?_, rfl⟩; (conv => whnf))
      (repeat' first | exact rfl | exact trivial | exact HWk.refl rfl | exact leRL_refl _ | apply And.intro)
    have q2 : g.fac.length ≤ 60 := by simp only [List.length_map] at q2; omega
    ((try dsimp only [awp]); (conv => whnf))
    refine LoopE.of <| LoopSpec.inv (.refl _ _) (fun (j : Nat) => j ≤ g.fac.length ∧ (g.fac.take j).all shortR = true) (fun (j : Nat) => [(105, .int .i64 j)]) (fun _ => _) (fun (j : Nat) => g.fac.length - j) 0 ?_ (fun _ => rfl) ?_ ?_
    · exact ⟨Nat.zero_le _, by simp⟩
    · (repeat' first | exact rfl | exact trivial | exact HWk.refl rfl | exact leRL_refl _ | apply And.intro)
    rintro j ⟨hj, hnj⟩ _
    ((try dsimp only [awp]); (conv => whnf))
    refine And.intro (fun hh => ?_) (fun hh => ?_)
    · have hjl : j < g.fac.length := by simpa using hh
      have hallj := all_take (p := shortR) hjl
      have hmj := List.getElem_mem hjl
      ((try dsimp only [awp]); (conv => whnf))
      refine aidx hjl ?_
      generalize g.fac[j] = r at *
      ((try dsimp only [awp]); (conv => whnf))
      refine .pure _ _ ?_ ⟨rfl, rfl⟩ (c_Short r) fun _ => ?_
      · exact leL_refl _
      ((try dsimp only [awp]); (conv => whnf))
      refine And.intro (fun q3 => ?_) (fun q3 => ?_)
      · have q3 : shortR r = false := by simpa using q3
        obtain rfl : R = .bool false := by rw [hR]; congr 1; unfold lightM; rw [all_false hmem (show grS g = false by simp [grS, all_false hmj q3])]; simp
        ((try dsimp only [awp]); (conv => whnf))
        (refine FinSpec.mono ?_; (conv => whnf); refine ⟨?_, rfl⟩; (conv => whnf))
        (repeat' first | exact rfl | exact trivial | exact HWk.refl rfl | exact leRL_refl _ | apply And.intro)
      have q3 : shortR r = true := by simpa using q3
      ((try dsimp only [awp]); (conv => whnf))
      (refine ⟨inr64 (by omega) (by omega), ?_⟩; (conv => whnf))
      refine ⟨j + 1, ?_, ?_, ?_⟩
      · exact ⟨hjl, by rw [hallj, hnj, q3]; rfl⟩
      · refine ⟨?_, .mk ?_ ⟨by simp, by simp, trivial⟩⟩
        · (repeat' first | exact rfl | exact trivial | exact HWk.refl rfl | exact leRL_refl _ | apply And.intro)
        · (repeat' first | exact rfl | exact trivial | exact HWk.refl rfl | exact leRL_refl _ | apply And.intro)
      · omega
    have hjl : j = g.fac.length := by have : ¬ j < g.fac.length := by simpa using hh
                                      omega
    subst hjl
    rw [List.take_length] at hnj
    ((try dsimp only [awp]); (conv => whnf))
    (refine ⟨inr64 (by omega) (by omega), ?_⟩; (conv => whnf))
    refine ⟨i + 1, ?_, ?_, ?_⟩
    · exact ⟨hlt, by rw [hall, hn]; simp [grS, q1, q2, hnj]⟩
    · refine ⟨?_, .mk ?_ ⟨by simp, trivial⟩⟩
      · (repeat' first | exact rfl | exact trivial | exact HWk.refl rfl | exact leRL_refl _ | apply And.intro)
      · (repeat' first | exact rfl | exact trivial | exact HWk.refl rfl | exact leRL_refl _ | apply And.intro)
    · omega
  have hil : i = m.grs.length := by have : ¬ i < m.grs.length := by simpa using h
                                    omega
  subst hil
  rw [List.take_length] at hn
  have a3 := hn
  clear h hi hn
  ((try dsimp only [awp]); (conv => whnf))
  refine LoopE.of <| LoopSpec.inv (.refl _ _) (fun (i : Nat) => i ≤ m.phs.length ∧ (m.phs.take i).all phS = true) (fun (i : Nat) => [(117, .int .i64 i)]) (fun _ => _) (fun (i : Nat) => m.phs.length - i) 0 ?_ (fun _ => rfl) ?_ ?_
  · exact ⟨Nat.zero_le _, by simp⟩
  · (repeat' first | exact rfl | exact trivial | exact HWk.refl rfl | exact leRL_refl _ | apply And.intro)
  rintro i ⟨hi, hn⟩ _
  ((try dsimp only [awp]); (conv => whnf))
  refine And.intro (fun h => ?_) (fun h => ?_)
  · have hlt : i < m.phs.length := by simpa using h
    have hall := all_take (p := phS) hlt
    have hmem := List.getElem_mem hlt
    ((try dsimp only [awp]); (conv => whnf))
    refine aidx hlt ?_
    generalize m.phs[i] = g at *
    ((try dsimp only [awp]); (conv => whnf))
    refine And.intro (fun q1 => ?_) (fun q1 => ?_)
    · have q1 : ¬ g.vals.length ≤ 60 := by simp only [List.length_map] at q1; omega
      obtain rfl : R = .bool false := by rw [hR]; congr 1; unfold lightM; rw [all_false hmem (show phS g = false by simp [phS, q1])]; simp
      ((try dsimp only [awp]); (conv => whnf))
      (refine FinSpec.mono ?_; (conv => whnf); refine ⟨?_, rfl⟩; (conv => whnf))
      (repeat' first | exact rfl | exact trivial | exact HWk.refl rfl | exact leRL_refl _ | apply And.intro)
    have q1 : g.vals.length ≤ 60 := by simp only [List.length_map] at q1; omega
    ((try dsimp only [awp]); (conv => whnf))
    refine LoopE.of <| LoopSpec.inv (.refl _ _) (fun (j : Nat) => j ≤ g.vals.length ∧ (g.vals.take j).all (fun v => shortR v.p) = true) (fun (j : Nat) => [(128, .int .i64 j)]) (fun _ => _) (fun (j : Nat) => g.vals.length - j) 0 ?_ (fun _ => rfl) ?_ ?_
    · exact ⟨Nat.zero_le _, by simp⟩
    · (repeat' first | exact rfl | exact trivial | exact HWk.refl rfl | exact leRL_refl _ | apply And.intro)
    rintro j ⟨hj, hnj⟩ _
    ((try dsimp only [awp]); (conv => whnf))
    refine And.intro (fun hh => ?_) (fun hh => ?_)
    · have hjl : j < g.vals.length := by simpa using hh
      have hallj := all_take (p := fun v : Pv => shortR v.p) hjl
      have hmj := List.getElem_mem hjl
      ((try dsimp only [awp]); (conv => whnf))
      refine aidx hjl ?_
      generalize g.vals[j] = r at *
      ((try dsimp only [awp]); (conv => whnf))
      refine .pure _ _ ?_ ⟨rfl, rfl⟩ (c_Short r.p) fun _ => ?_
      · exact leL_refl _
      ((try dsimp only [awp]); (conv => whnf))
      refine And.intro (fun q3 => ?_) (fun q3 => ?_)
      · have q3 : shortR r.p = false := by simpa using q3
        have q4 := all_false (p := fun v : Pv => shortR v.p) hmj q3
        obtain rfl : R = .bool false := by rw [hR]; congr 1; unfold lightM; rw [all_false hmem (show phS g = false by unfold phS; rw [q4]; simp)]; simp
        ((try dsimp only [awp]); (conv => whnf))
        (refine FinSpec.mono ?_; (conv => whnf); refine ⟨?_, rfl⟩; (conv => whnf))
        (repeat' first | exact rfl | exact trivial | exact HWk.refl rfl | exact leRL_refl _ | apply And.intro)
      have q3 : shortR r.p = true := by simpa using q3
      ((try dsimp only [awp]); (conv => whnf))
      (refine ⟨inr64 (by omega) (by omega), ?_⟩; (conv => whnf))
      refine ⟨j + 1, ?_, ?_, ?_⟩
      · exact ⟨hjl, by rw [hallj, hnj, q3]; rfl⟩
      · refine ⟨?_, .mk ?_ ⟨by simp, by simp, trivial⟩⟩
        · (repeat' first | exact rfl | exact trivial | exact HWk.refl rfl | exact leRL_refl _ | apply And.intro)
        · (repeat' first | exact rfl | exact trivial | exact HWk.refl rfl | exact leRL_refl _ | apply And.intro)
      · omega
    have hjl : j = g.vals.length := by have : ¬ j < g.vals.length := by simpa using hh
                                       omega
    subst hjl
    rw [List.take_length] at hnj
    ((try dsimp only [awp]); (conv => whnf))
    (refine ⟨inr64 (by omega) (by omega), ?_⟩; (conv => whnf))
    refine ⟨i + 1, ?_, ?_, ?_⟩
    · exact ⟨hlt, by rw [hall, hn]; unfold phS; rw [hnj]; simp [q1]⟩
    · refine ⟨?_, .mk ?_ ⟨by simp, trivial⟩⟩
      · (repeat' first | exact rfl | exact trivial | exact HWk.refl rfl | exact leRL_refl _ | apply And.intro)
      · (repeat' first | exact rfl | exact trivial | exact HWk.refl rfl | exact leRL_refl _ | apply And.intro)
    · omega
  have hil : i = m.phs.length := by have : ¬ i < m.phs.length := by simpa using h
                                    omega
  subst hil
  rw [List.take_length] at hn
  obtain rfl : R = .bool true := by rw [hR]; congr 1; unfold lightM; rw [a1, a2, a3, hn, h6]; simp [h1, h2, h3, h4, h5]
  ((try dsimp only [awp]); (conv => whnf))
  (refine FinSpec.mono ?_; (conv => whnf); refine ⟨?_, rfl⟩; (conv => whnf))
  (repeat' first | exact rfl | exact trivial | exact HWk.refl rfl | exact leRL_refl _ | apply And.intro)

theorem few_B {l : List Mg} (h : fewR l = true) : l.length ≤ 100 ∧ (∀ x ∈ l, x.ins.length ≤ 40) ∧ mgC l := by
  unfold fewR at h
  simp only [Bool.and_eq_true, decide_eq_true_eq] at h
  refine ⟨h.2, fun x hx => ?_, fun x hx => ?_⟩
  · have := List.all_eq_true.1 h.1 x hx
    simp only [fewG, Bool.and_eq_true, decide_eq_true_eq] at this
    exact this.1
  · have := List.all_eq_true.1 h.1 x hx
    simp only [fewG, Bool.and_eq_true, decide_eq_true_eq] at this
    exact shortR_C this.2

theorem lightM_B {m : Md} (h : lightM m = true) : MdB m ∧ MdC m := by
  unfold lightM at h
  simp only [Bool.and_eq_true, decide_eq_true_eq] at h
  obtain ⟨⟨⟨⟨⟨⟨⟨⟨⟨h1, h2⟩, h3⟩, h4⟩, h5⟩, h6⟩, h7⟩, h8⟩, h9⟩, h10⟩ := h
  have f6 := few_B h6
  refine ⟨⟨h1, h2, ⟨f6.1, f6.2.1⟩, h3, fun p hp => ?_, h4, fun g hg => ?_, h5, fun p hp => ?_⟩, ⟨fun x hx => ?_, f6.2.2, fun p hp => ?_, fun g hg f hf => ?_, fun p hp v hv => ?_⟩⟩
  · have := few_B (List.all_eq_true.1 h8 p hp)
    exact ⟨this.1, this.2.1⟩
  · have := List.all_eq_true.1 h9 g hg
    simp only [grS, Bool.and_eq_true, decide_eq_true_eq] at this
    exact this.1
  · have := List.all_eq_true.1 h10 p hp
    simp only [phS, Bool.and_eq_true, decide_eq_true_eq] at this
    exact this.1
  · have := List.all_eq_true.1 h7 x hx
    simp only [evS, Bool.and_eq_true] at this
    exact ⟨shortR_C this.1.1, shortR_C this.1.2, shortR_C this.2⟩
  · exact (few_B (List.all_eq_true.1 h8 p hp)).2.2
  · have := List.all_eq_true.1 h9 g hg
    simp only [grS, Bool.and_eq_true, decide_eq_true_eq] at this
    exact shortR_C (List.all_eq_true.1 this.2 f hf)
  · have := List.all_eq_true.1 h10 p hp
    simp only [phS, Bool.and_eq_true, decide_eq_true_eq] at this
    exact shortR_C (List.all_eq_true.1 this.2 v hv)
end S

open Go Go.AL Go.Proofs
namespace S
set_option maxRecDepth 100000

section
variable {σ : Type} (kids : Node → List Node) (step : σ → Node → σ) (V : σ → Node → Prop)

structure Inv (s : WS σ) : Prop where
  rank : ∃ rank : Node → Nat, ∀ x, look s.es x = 2 → ∀ y ∈ kids x, y.1 = 2 → look s.es y = 2 ∧ rank y < rank x
  met : ∀ x, look s.es x = 2 → V s.st x ∧ ∀ y ∈ kids x, y.1 ≠ 2 → V s.st y

structure On (s s' : WS σ) : Prop where
  one : ∀ y, look s'.es y = 1 ↔ look s.es y = 1
  two : ∀ y, look s.es y = 2 → look s'.es y = 2
  met : ∀ y, V s.st y → V s'.st y

theorem On.refl (s : WS σ) : On V s s := ⟨fun _ => Iff.rfl, fun _ h => h, fun _ h => h⟩
theorem On.trans {a b c : WS σ} (h : On V a b) (g : On V b c) : On V a c := ⟨fun y => (g.one y).trans (h.one y), fun y e => g.two y (h.two y e), fun y e => g.met y (h.met y e)⟩

structure After (x : Node) (s s' : WS σ) : Prop where
  inv : Inv kids V s'
  on : On V s s'
  done : x.1 = 2 → look s'.es x = 2
  leaf : x.1 ≠ 2 → V s'.st x

variable {kids step V}

theorem kids_after {f : Node → WS σ → Bool × WS σ} (ok : Node → Prop) (m : Nat) (fr : Marks → Nat) (hfr : ∀ y s, fr (f y s).2.es ≤ fr s.es)
    (hf : ∀ y s, ok y → fr s.es ≤ m → Inv kids V s → (f y s).1 = false → After kids V y s (f y s).2) :
    ∀ (l : List Node) (s : WS σ), (∀ y ∈ l, ok y) → fr s.es ≤ m → Inv kids V s → (kidsF f l s).1 = false →
      Inv kids V (kidsF f l s).2 ∧ On V s (kidsF f l s).2 ∧ ∀ y ∈ l, (y.1 = 2 → look (kidsF f l s).2.es y = 2) ∧ (y.1 ≠ 2 → V (kidsF f l s).2.st y)
  | [], s, _, _, hi, _ => ⟨hi, .refl V s, by simp⟩
  | y :: l, s, hl, hm, hi, h => by
    simp only [kidsF] at h ⊢
    by_cases hb : (f y s).1 = true
    · rw [if_pos hb] at h
      rw [hb] at h; cases h
    · rw [if_neg hb] at h ⊢
      have hy := hf y s (hl y (by simp)) hm hi (by simpa using hb)
      have hm2 := hfr y s
      obtain ⟨h1, h2, h3⟩ := kids_after ok m fr hfr hf l (f y s).2 (fun z hz => hl z (by simp [hz])) (by omega) hy.inv h
      refine ⟨h1, hy.on.trans V h2, fun z hz => ?_⟩
      rcases List.mem_cons.1 hz with rfl | hz
      · exact ⟨fun e => h2.two _ (hy.done e), fun e => h2.met _ (hy.leaf e)⟩
      · exact h3 z hz

theorem sum_ge {rank : Node → Nat} : ∀ {l : List Node} {y : Node}, y ∈ l → rank y ≤ (l.map rank).sum
  | [], _, h => by simp at h
  | x :: l, y, h => by
    simp only [List.map_cons, List.sum_cons]
    rcases List.mem_cons.1 h with rfl | h
    · omega
    · have := sum_ge (rank := rank) h; omega

theorem walk_after (all : List Node) (ok : Node → Prop) (hok : ∀ x, ok x → x.1 = 2 → x ∈ all ∧ ∀ y ∈ kids x, ok y) (hV1 : ∀ st x, V (step st x) x) (hV2 : ∀ st x y, V st y → V (step st x) y) :
    ∀ (n : Nat) (x : Node) (s : WS σ), ok x → free all s.es < n → Inv kids V s → (walkF kids step n x s).1 = false → After kids V x s (walkF kids step n x s).2
  | 0, _, _, _, h, _, _ => by omega
  | n + 1, x, s, hx, hf, hi, h => by
    simp only [walkF] at h ⊢
    by_cases h1 : x.1 ≠ 2
    · rw [if_pos h1]
      exact ⟨⟨hi.rank, fun y hy => ⟨hV2 _ _ _ (hi.met y hy).1, fun z hz e => hV2 _ _ _ ((hi.met y hy).2 z hz e)⟩⟩, ⟨fun _ => Iff.rfl, fun _ h => h, fun y => hV2 _ _ _⟩, fun e => absurd e h1, fun _ => hV1 _ _⟩
    rw [if_neg h1] at h ⊢
    by_cases h2 : look s.es x = 1
    · rw [if_pos h2] at h; cases h
    rw [if_neg h2] at h ⊢
    by_cases h3 : look s.es x = 2
    · rw [if_pos h3]
      exact ⟨hi, .refl V s, fun _ => h3, fun e => absurd e h1⟩
    rw [if_neg h3] at h ⊢
    obtain ⟨hm, hk⟩ := hok x hx (by omega)
    have hlt := free_lt (all := all) (v := 1) hm h2 h3 (.inl rfl)
    have hi1 : Inv kids V ⟨mark s.es x 1, step s.st x⟩ := by
      obtain ⟨rank, hr⟩ := hi.rank
      refine ⟨⟨rank, fun y hy z hz e => ?_⟩, fun y hy => ?_⟩
      · have hy : look (mark s.es x 1) y = 2 := hy
        rw [look_mark] at hy
        split at hy
        · cases hy
        have := hr y hy z hz e
        refine ⟨?_, this.2⟩
        show look (mark s.es x 1) z = 2
        rw [look_mark, if_neg (fun e => h3 (by rw [e]; exact this.1))]
        exact this.1
      · have hy : look (mark s.es x 1) y = 2 := hy
        rw [look_mark] at hy
        split at hy
        · cases hy
        exact ⟨hV2 _ _ _ (hi.met y hy).1, fun z hz e => hV2 _ _ _ ((hi.met y hy).2 z hz e)⟩
    by_cases hb : (kidsF (walkF kids step n) (kids x) ⟨mark s.es x 1, step s.st x⟩).1 = true
    · rw [if_pos hb] at h
      rw [hb] at h; cases h
    rw [if_neg hb]
    obtain ⟨k1, k2, k3⟩ := kids_after (kids := kids) (V := V) ok (n - 1) (free all) (fun y s => free_le (walkF_mle n y s)) (fun y s hy hs hi hb => walk_after all ok hok hV1 hV2 n y s hy (by omega) hi hb) (kids x) ⟨mark s.es x 1, step s.st x⟩ hk (by show free all (mark s.es x 1) ≤ n - 1; omega) hi1 (by simpa using hb)
    generalize kidsF (walkF kids step n) (kids x) ⟨mark s.es x 1, step s.st x⟩ = r at *
    obtain ⟨rb, rs⟩ := r
    dsimp only at k1 k2 k3 ⊢
    have hx1 : look rs.es x = 1 := (k2.one x).2 (by show look (mark s.es x 1) x = 1; rw [look_mark, if_pos rfl])
    refine ⟨⟨?_, fun y hy => ?_⟩, ⟨fun y => ?_, fun y hy => ?_, fun y hy => k2.met y (hV2 _ _ _ hy)⟩, fun _ => ?_, fun e => absurd e h1⟩
    · obtain ⟨rank, hr⟩ := k1.rank
      refine ⟨fun z => if z = x then ((kids x).map rank).sum + 1 else rank z, fun y hy z hz e => ?_⟩
      show look (mark rs.es x 2) z = 2 ∧ _
      by_cases hyx : y = x
      · subst hyx
        have hz2 := (k3 z hz).1 e
        have hzx : z ≠ y := fun e => by rw [e, hx1] at hz2; cases hz2
        rw [look_mark, if_neg (Ne.symm hzx)]
        refine ⟨hz2, ?_⟩
        simp only [if_neg hzx, if_true]
        have := sum_ge (rank := rank) hz
        omega
      · have hy : look (mark rs.es x 2) y = 2 := hy
        rw [look_mark, if_neg (Ne.symm hyx)] at hy
        have := hr y hy z hz e
        have hzx : z ≠ x := fun e => by rw [e, hx1] at this; cases this.1
        rw [look_mark, if_neg (Ne.symm hzx)]
        refine ⟨this.1, ?_⟩
        simp only [if_neg hzx, if_neg hyx]
        exact this.2
    · have hy : look (mark rs.es x 2) y = 2 := hy
      rw [look_mark] at hy
      split at hy
      · rename_i e
        subst e
        exact ⟨k2.met _ (hV1 _ _), fun z hz e => (k3 z hz).2 e⟩
      · exact k1.met y hy
    · show look (mark rs.es x 2) y = 1 ↔ look s.es y = 1
      rw [look_mark]
      by_cases hyx : x = y
      · subst hyx
        rw [if_pos rfl]
        exact ⟨fun e => absurd e (by decide), fun e => absurd e h2⟩
      · rw [if_neg hyx, k2.one y]
        show look (mark s.es x 1) y = 1 ↔ _
        rw [look_mark, if_neg hyx]
    · show look (mark rs.es x 2) y = 2
      rw [look_mark]
      split
      · rfl
      · rename_i hyx
        refine k2.two y ?_
        show look (mark s.es x 1) y = 2
        rw [look_mark, if_neg hyx]
        exact hy
    · show look (mark rs.es x 2) x = 2
      rw [look_mark, if_pos rfl]

theorem walk_false (ok : Node → Prop) (hok : ∀ x, ok x → x.1 = 2 → ∀ y ∈ kids x, ok y) (rank : Node → Nat) (hr : ∀ x, ok x → x.1 = 2 → ∀ y ∈ kids x, y.1 = 2 → rank y < rank x) :
    ∀ (n : Nat) (x : Node) (s : WS σ), ok x → (x.1 = 2 → ∀ z, look s.es z = 1 → rank x < rank z) → (walkF kids step n x s).1 = false ∧ ∀ y, look (walkF kids step n x s).2.es y = 1 → look s.es y = 1
  | 0, _, _, _, _ => ⟨rfl, fun _ h => h⟩
  | n + 1, x, s, hx, hz => by
    simp only [walkF]
    by_cases h1 : x.1 ≠ 2
    · rw [if_pos h1]; exact ⟨rfl, fun _ h => h⟩
    rw [if_neg h1]
    have h1 : x.1 = 2 := by omega
    by_cases h2 : look s.es x = 1
    · have := hz h1 x h2; omega
    rw [if_neg h2]
    by_cases h3 : look s.es x = 2
    · rw [if_pos h3]; exact ⟨rfl, fun _ h => h⟩
    rw [if_neg h3]
    have key : ∀ (l : List Node) (t : WS σ), (∀ y ∈ l, y ∈ kids x) → (∀ z, look t.es z = 1 → z = x ∨ look s.es z = 1) →
        (kidsF (walkF kids step n) l t).1 = false ∧ ∀ z, look (kidsF (walkF kids step n) l t).2.es z = 1 → z = x ∨ look s.es z = 1 := by
      intro l
      induction l with
      | nil => intro t _ ht; exact ⟨rfl, ht⟩
      | cons y l ih =>
        intro t hl ht
        have hy := hl y (by simp)
        obtain ⟨w1, w2⟩ := walk_false ok hok rank hr n y t (hok x hx h1 y hy) (fun e z hz1 => by
          have hyx := hr x hx h1 y hy e
          rcases ht z hz1 with rfl | hz2
          · exact hyx
          · have := hz h1 z hz2; omega)
        simp only [kidsF]
        rw [if_neg (by rw [w1]; simp)]
        exact ih _ (fun z hz => hl z (by simp [hz])) fun z hz1 => ht z (w2 z hz1)
    obtain ⟨k1, k2⟩ := key (kids x) ⟨mark s.es x 1, step s.st x⟩ (fun y hy => hy) (fun z hz1 => by
      have hz1 : look (mark s.es x 1) z = 1 := hz1
      rw [look_mark] at hz1
      split at hz1
      · rename_i e; exact .inl e.symm
      · exact .inr hz1)
    rw [if_neg (by rw [k1]; simp)]
    refine ⟨rfl, fun y hy => ?_⟩
    have hy : look (mark (kidsF (walkF kids step n) (kids x) ⟨mark s.es x 1, step s.st x⟩).2.es x 2) y = 1 := hy
    rw [look_mark] at hy
    split at hy
    · cases hy
    · rename_i hne
      rcases k2 y hy with e | e
      · exact absurd e.symm hne
      · exact e
end

theorem okN_kids {m : Md} (hc : ClosedM m) {x : Node} (hx : okN m x) (h2 : x.1 = 2) : x ∈ allNodes m ∧ ∀ y ∈ kidsM m x, okN m y := by
  have hm : x ∈ allNodes m := by
    rcases hx with h | h | h
    · have := h.1; omega
    · have := h.1; omega
    · exact h
  refine ⟨hm, fun y hy => ?_⟩
  unfold kidsM at hy
  obtain ⟨s, hs, rfl⟩ := List.mem_map.1 hy
  exact (hc x hm s hs).2.2

def RankM (m : Md) (rank : Node → Nat) : Prop := ∀ x, okN m x → x.1 = 2 → ∀ y ∈ kidsM m x, y.1 = 2 → rank y < rank x

theorem cyc_rank {m : Md} (hc : ClosedM m) (h : cycR m = false) : ∃ rank, RankM m rank := by
  have hi : Inv (kidsM m) (fun (_ : Unit) _ => True) ⟨[], ()⟩ := ⟨⟨fun _ => 0, fun x hx => by simp [look] at hx⟩, fun x hx => by simp [look] at hx⟩
  obtain ⟨k1, _, k3⟩ := kids_after (kids := kidsM m) (V := fun (_ : Unit) _ => True) (okN m) (allNodes m).length (free (allNodes m)) (f := walk0 m) (fun y s => free_le (walkF_mle _ y s))
    (fun y s hy hs hi hb => walk_after (allNodes m) (okN m) (fun x hx h2 => okN_kids hc hx h2) (fun _ _ => trivial) (fun _ _ _ _ => trivial) (fuelM m) y s hy (by unfold fuelM; omega) hi hb)
    (allNodes m) ⟨[], ()⟩ (fun y hy => .inr (.inr hy)) (by have := free_fuel m []; unfold fuelM at this; show free (allNodes m) [] ≤ _; omega) hi h
  obtain ⟨rank, hr⟩ := k1.rank
  refine ⟨rank, fun x hx h2 y hy e => (hr x ?_ y hy e).2⟩
  exact (k3 x (okN_kids hc hx h2).1).1 h2

theorem rank_walk {σ : Type} {m : Md} (hc : ClosedM m) {rank : Node → Nat} (hr : RankM m rank) (step : σ → Node → σ) (n : Nat) (x : Node) (st : σ) (hx : okN m x) : (walkF (kidsM m) step n x ⟨[], st⟩).1 = false :=
  (walk_false (okN m) (fun x hx h2 => (okN_kids hc hx h2).2) rank hr n x ⟨[], st⟩ hx (fun _ z hz => by simp [look] at hz)).1

theorem met_all {m : Md} (hc : ClosedM m) (h : cycR m = false) {x : Node} (hx : okN m x) :
    After (kidsM m) (fun (st : List Node) y => y ∈ st) x ⟨[], []⟩ (walkF (kidsM m) (fun st x => st ++ [x]) (fuelM m) x ⟨[], []⟩).2 := by
  obtain ⟨rank, hr⟩ := cyc_rank hc h
  exact walk_after (V := fun (st : List Node) y => y ∈ st) (allNodes m) (okN m) (fun x hx h2 => okN_kids hc hx h2) (fun _ _ => by simp) (fun _ _ _ h => by simp [h]) (fuelM m) x ⟨[], []⟩ hx (free_fuel m _)
    ⟨⟨fun _ => 0, fun x hx => by simp [look] at hx⟩, fun x hx => by simp [look] at hx⟩ (rank_walk hc hr _ _ x _ hx)
end S

open Go Go.AL Go.Proofs
namespace S
set_option maxRecDepth 100000

theorem walk_ok {σ : Type} {kids : Node → List Node} {step : σ → Node → σ} (ok : Node → Prop) (A : σ → Prop) (hok : ∀ x, ok x → x.1 = 2 → ∀ y ∈ kids x, ok y) (hA : ∀ st x, ok x → A st → A (step st x)) :
    ∀ (n : Nat) (x : Node) (s : WS σ), ok x → A s.st → A (walkF kids step n x s).2.st
  | 0, _, _, _, h => h
  | n + 1, x, s, hx, h => by
    simp only [walkF]
    split
    · exact hA _ _ hx h
    rename_i h1
    split
    · exact h
    split
    · exact h
    have key : ∀ (l : List Node) (t : WS σ), (∀ y ∈ l, ok y) → A t.st → A (kidsF (walkF kids step n) l t).2.st := by
      intro l
      induction l with
      | nil => intro t _ ht; exact ht
      | cons y l ih =>
        intro t hl ht
        have hy := walk_ok ok A hok hA n y t (hl y (by simp)) ht
        simp only [kidsF]
        split
        · exact hy
        · exact ih _ (fun z hz => hl z (by simp [hz])) hy
    have hk := key (kids x) ⟨mark s.es x 1, step s.st x⟩ (hok x hx (by omega)) (hA _ _ hx h)
    split
    · exact hk
    · exact hk

theorem bits_bit {i : Nat} : ∀ (l : List Node) (b : Nat), (l.foldl (fun b x => if x.1 = 0 ∧ x.2.2.toNat < 24 then b ||| 2 ^ x.2.2.toNat else b) b).testBit i = (b.testBit i || l.any fun x => decide (x.1 = 0 ∧ x.2.2.toNat < 24 ∧ x.2.2.toNat = i))
  | [], b => by simp
  | x :: l, b => by
    simp only [List.foldl_cons, List.any_cons]
    rw [bits_bit l]
    by_cases h : x.1 = 0 ∧ x.2.2.toNat < 24
    · rw [if_pos h, Nat.testBit_or, Nat.testBit_two_pow, Bool.or_assoc]
      congr 2
      simp [h]
    · rw [if_neg h]
      have : decide (x.1 = 0 ∧ x.2.2.toNat < 24 ∧ x.2.2.toNat = i) = false := decide_eq_false fun e => h ⟨e.1, e.2.1⟩
      rw [this, Bool.false_or]

theorem bitsV_bit (l : List Node) (i : Nat) : (bitsV l).testBit i = true ↔ ∃ x ∈ l, x.1 = 0 ∧ x.2.2.toNat < 24 ∧ x.2.2.toNat = i := by
  unfold bitsV
  rw [bits_bit]
  simp

structure GateOk (m : Md) (a : Int) (k : Nat) (x : Mg) : Prop where
  name : nameR x.name = true
  noEv : i_event m.evs x.name < 0
  noHs : i_house m.hs x.name < 0
  first : (k : Int) ≤ i_gate (gatesM m a) x.name
  own : mgErr x = 0

theorem MOk.gate {m : Md} (hM : MOk m) {a : Int} (ha : a = -1 ∨ (0 ≤ a ∧ a < (m.pages.length : Int))) {k : Nat} (hk : k < (gatesM m a).length) : GateOk m a k (gatesM m a)[k] := by
  have h := gatesErrAll_zero hM.gates ha k hk
  unfold gateErrM at h
  split at h
  · cases h
  rename_i h1
  split at h
  · cases h
  rename_i h2
  split at h
  · cases h
  rename_i h3
  split at h
  · cases h
  rename_i h4
  exact ⟨by simpa using h1, by omega, by omega, by omega, h⟩

theorem idxP_le {α : Type} {p : α → Bool} {l : List α} {k : Nat} (hk : k < l.length) (hp : p l[k] = true) : 0 ≤ idxP p l ∧ idxP p l ≤ k := by
  rcases idxP_cases p l with ⟨_, h2⟩ | ⟨i, hi, h1, _, h3⟩
  · have := h2 _ (List.getElem_mem hk)
    rw [hp] at this; cases this
  · refine ⟨by omega, ?_⟩
    rw [h1]
    rcases Nat.lt_or_ge k i with h | h
    · have := h3 k h
      rw [hp] at this; cases this
    · omega

theorem name_noAt {s : Str} (h : nameR s = true) : atS s = false := by
  unfold nameR at h
  simp only [Bool.and_eq_true, decide_eq_true_eq] at h
  unfold atS
  rw [Bool.and_eq_false_iff]
  right
  apply decide_eq_false
  intro e
  have := h.1.2
  rw [e] at this
  revert this
  decide

structure Local (m : Md) (a : Int) (s : Str) (r : Node) : Prop where
  idx : 0 ≤ r.2.2
  kind : r.1 = 0 ∨ r.1 = 1 ∨ r.1 = 2
  ev : r.1 = 0 → r.2.2 < (m.evs.length : Int) ∧ (atS s = false → (m.evs.getD r.2.2.toNat default).name = s)
  hs : r.1 = 1 → r.2.2 < (m.hs.length : Int) ∧ (m.hs.getD r.2.2.toNat default).name = s
  gate : r.1 = 2 → (r.2.1 = -1 ∨ (0 ≤ r.2.1 ∧ r.2.1 < (m.pages.length : Int))) ∧ r.2.2 < ((gatesM m r.2.1).length : Int) ∧
    (atS s = false → r.2.1 = a ∧ ((gatesM m r.2.1).getD r.2.2.toNat default).name = s) ∧
    (atS s = true → 0 ≤ r.2.1 ∧ (m.pages.getD r.2.1.toNat default).name = s.drop 1 ∧ (m.pages.getD r.2.1.toNat default).top = ((gatesM m r.2.1).getD r.2.2.toNat default).name)

end S

open Go Go.AL Go.Proofs
namespace S
set_option maxRecDepth 100000

end S

open Go Go.AL Go.Proofs
namespace S
set_option maxRecDepth 100000

theorem c_rParts (r : Rat) (l1 : r.num.length ≤ 300000) (l2 : r.den.length ≤ 300000) :
    FnH Tryz.prog 138 [r.av] [] (if valid r = true ∧ r.num ≠ [] then .tup [.bool r.neg, wL r.num, wL r.den] else .tup [.bool false, wL [], wL [1]]) [] := by
  have cv := c_rValid r l1 l2
  generalize hR : (if valid r = true ∧ r.num ≠ [] then AV.tup [.bool r.neg, wL r.num, wL r.den] else .tup [.bool false, wL [], wL [1]]) = R
  refine FnH.intro lay mixed Tryz.func138 (by kernel_rfl) rfl (by kernel_rfl) rfl fun hok => ?_
  have en : (((r.num.map (AV.int .u32)).length : Nat) : Int) = (r.num.length : Int) := by simp
  ((try dsimp only [argC, succC]); (try dsimp only [awp]); (conv => whnf))
  refine .pure _ _ ?_ ⟨rfl, rfl⟩ cv fun _ => ?_
  · exact leL_refl _
  ((try dsimp only [awp]); (conv => whnf))
  refine And.intro (fun p1 => ?_) (fun p1 => ?_)
  · have p1 : valid r = false := by simpa using p1
    rw [if_neg (by simp [p1])] at hR
    subst hR
    ((try dsimp only [awp]); (conv => whnf))
    (refine FinSpec.mono ?_; (conv => whnf); refine ⟨?_, rfl⟩; (conv => whnf))
    (repeat' first | exact rfl | exact trivial | exact HWk.refl rfl | exact leRL_refl _ | apply And.intro)
  · have p1 : valid r = true := by simpa using p1
    ((try dsimp only [awp]); (conv => whnf))
    refine And.intro (fun p2 => ?_) (fun p2 => ?_)
    · have p2 : r.num = [] := List.eq_nil_of_length_eq_zero (by rw [en] at p2; omega)
      rw [if_neg (by simp [p2])] at hR
      subst hR
      ((try dsimp only [awp]); (conv => whnf))
      (refine FinSpec.mono ?_; (conv => whnf); refine ⟨?_, rfl⟩; (conv => whnf))
      (repeat' first | exact rfl | exact trivial | exact HWk.refl rfl | exact leRL_refl _ | apply And.intro)
    · have p2 : ¬ r.num = [] := fun e => p2 (by rw [e]; rfl)
      rw [if_pos ⟨p1, p2⟩] at hR
      subst hR
      ((try dsimp only [awp]); (conv => whnf))
      (refine ADraw.auto (by kernel_rfl) ?_; (conv => whnf))
      (refine FinSpec.mono ?_; (conv => whnf); refine ⟨?_, rfl⟩; (conv => whnf))
      (repeat' first | exact rfl | exact trivial | exact HWk.refl rfl | exact leRL_refl _ | apply And.intro)

theorem c_rFrom (neg : Bool) (n d : Nat) (hn : (wd n).length ≤ 300000) (hd : (wd d).length ≤ 300000) (h0 : d ≠ 0) : FnH Tryz.prog 139 [.bool neg, wL (wd n), wL (wd d)] [] (.tup [(formR neg n d).av, .int .i64 0]) [] := by
  have cb := c_rBits (wd n) (by omega)
  have cd := c_rBits (wd d) (by omega)
  rw [val_wd] at cb cd
  have hbd : blen d ≠ 0 := fun h => h0 (blen_zero.1 h)
  by_cases hz : n = 0
  · have hb : blen n = 0 := blen_zero.2 hz
    rw [hb] at cb
    rw [show formR neg n d = ⟨false, [], []⟩ from if_pos hz]
    refine FnH.intro lay mixed Tryz.func139 (by kernel_rfl) rfl (by kernel_rfl) rfl fun hok => ?_
    ((try dsimp only [argC, succC]); (try dsimp only [awp]); (conv => whnf))
    refine .pure _ _ ?_ ⟨rfl, rfl⟩ cd fun _ => ?_
    · exact leL_refl _
    ((try dsimp only [awp]); (conv => whnf))
    refine And.intro (fun h => by exfalso; omega) (fun _ => ?_)
    ((try dsimp only [awp]); (conv => whnf))
    refine .pure _ _ ?_ ⟨rfl, rfl⟩ cb fun _ => ?_
    · exact leL_refl _
    ((try dsimp only [awp]); (conv => whnf))
    refine And.intro (fun _ => ?_) (fun h => absurd rfl h)
    ((try dsimp only [awp]); (conv => whnf))
    (refine FinSpec.mono ?_; (conv => whnf); refine ⟨?_, rfl⟩; (conv => whnf))
    (repeat' first | exact rfl | exact trivial | exact HWk.refl rfl | exact leRL_refl _ | apply And.intro)
  have hb : blen n ≠ 0 := fun h => hz (blen_zero.1 h)
  have hg0 : Nat.gcd n d ≠ 0 := by
    have := Nat.gcd_pos_of_pos_left d (show 0 < n by omega)
    omega
  have hgn : Nat.gcd n d ≤ n := Nat.gcd_le_left d (by omega)
  have hgl := wd_len_mono hgn
  have cg := c_rGcd (wd n) (wd d) (by omega) (by omega)
  rw [val_wd, val_wd] at cg
  have d1 := c_rDiv (wd n) (wd (Nat.gcd n d)) (by omega) (by omega) (by rw [val_wd]; exact hg0)
  have d2 := c_rDiv (wd d) (wd (Nat.gcd n d)) (by omega) (by omega) (by rw [val_wd]; exact hg0)
  rw [val_wd, val_wd] at d1 d2
  rw [show formR neg n d = ⟨neg, wd (n / Nat.gcd n d), wd (d / Nat.gcd n d)⟩ from if_neg hz]
  generalize Nat.gcd n d = g at *
  refine FnH.intro lay mixed Tryz.func139 (by kernel_rfl) rfl (by kernel_rfl) rfl fun hok => ?_
  ((try dsimp only [argC, succC]); (try dsimp only [awp]); (conv => whnf))
  refine .pure _ _ ?_ ⟨rfl, rfl⟩ cd fun _ => ?_
  · exact leL_refl _
  ((try dsimp only [awp]); (conv => whnf))
  refine And.intro (fun h => by exfalso; omega) (fun _ => ?_)
  ((try dsimp only [awp]); (conv => whnf))
  refine .pure _ _ ?_ ⟨rfl, rfl⟩ cb fun _ => ?_
  · exact leL_refl _
  ((try dsimp only [awp]); (conv => whnf))
  refine And.intro (fun h => by exfalso; omega) (fun _ => ?_)
  ((try dsimp only [awp]); (conv => whnf))
  refine .pure _ _ ?_ ⟨rfl, rfl⟩ cg fun _ => ?_
  · exact leL_refl _
  ((try dsimp only [awp]); (conv => whnf))
  refine .pure _ _ ?_ ⟨rfl, rfl⟩ d1 fun _ => ?_
  · exact leL_refl _
  ((try dsimp only [awp]); (conv => whnf))
  refine .pure _ _ ?_ ⟨rfl, rfl⟩ d2 fun _ => ?_
  · exact leL_refl _
  ((try dsimp only [awp]); (conv => whnf))
  (refine FinSpec.mono ?_; (conv => whnf); refine ⟨?_, rfl⟩; (conv => whnf))
  (repeat' first | exact rfl | exact trivial | exact HWk.refl rfl | exact leRL_refl _ | apply And.intro)

theorem partsLe {r : Rat} (w1 : Ws r.num) (w2 : Ws r.den) (l1 : r.num.length ≤ 100000) (l2 : r.den.length ≤ 100000) : (wd (partsR r).2.1).length ≤ 100000 ∧ (wd (partsR r).2.2).length ≤ 100000 := by
  by_cases h : valid r = true ∧ r.num ≠ []
  · have hp : partsR r = (r.neg, val r.num, val r.den) := if_pos h
    obtain ⟨h1, h2⟩ := h
    unfold valid at h1
    rw [if_neg (fun h => h2 h.1)] at h1
    simp only [Bool.and_eq_true] at h1
    obtain ⟨e1, _⟩ := plain_wd h1.1.1 w1
    obtain ⟨e2, n2⟩ := plain_wd h1.1.2 w2
    rw [hp, show wd (r.neg, val r.num, val r.den).2.1 = r.num from e1, show wd (r.neg, val r.num, val r.den).2.2 = r.den from e2]
    exact ⟨l1, l2⟩
  · have hp : partsR r = (false, 0, 1) := if_neg h
    have e1 : wd 1 = [1] := wd_small (by omega) (by omega)
    rw [hp, show wd ((false, 0, 1) : Bool × Nat × Nat).2.1 = [] from wd_zero, show wd ((false, 0, 1) : Bool × Nat × Nat).2.2 = [1] from e1]
    simp

end S

open Go Go.AL Go.Proofs
namespace S
set_option maxRecDepth 100000

end S

open Go Go.AL Go.Proofs
namespace S
set_option maxRecDepth 100000

def boundsR (k : Int) : Int × Int :=
  if k = 0 ∨ k = 1 ∨ k = 4 ∨ k = 2 then (1, 16) else if k = 3 then (1, 1) else if k = 5 then (2, 2) else if k = 6 ∨ k = 7 ∨ k = 8 then (2, 16) else (0, 0)

end S

open Go Go.AL Go.Proofs
namespace S
set_option maxRecDepth 100000

theorem radd_arith {p x y c s va vb D : Nat} (hD : x + y + c = D) (h : s + p * c = va + vb) : s + p * (D % 4294967296) + p * 4294967296 * (D / 4294967296) = va + p * x + (vb + p * y) := by
  have e : D = D % 4294967296 + 4294967296 * (D / 4294967296) := (Nat.mod_add_div _ _).symm
  have e2 : p * D = p * (D % 4294967296) + p * (4294967296 * (D / 4294967296)) := by rw [← Nat.mul_add, ← e]
  have e3 : p * D = p * x + p * y + p * c := by rw [← hD, Nat.mul_add, Nat.mul_add]
  rw [← Nat.mul_assoc] at e2
  omega

theorem radd_fin {B m la lb a b s c : Nat} (hB : 2 ≤ B) (ha : a < B ^ la) (hb : b < B ^ lb) (hla : la < m) (hlb : lb < m) (h : s + B ^ m * c = a + b) : s = a + b := by
  have h1 : B ^ la ≤ B ^ (m - 1) := Nat.pow_le_pow_right (by omega) (by omega)
  have h2 : B ^ lb ≤ B ^ (m - 1) := Nat.pow_le_pow_right (by omega) (by omega)
  have h3 : B ^ m = B ^ (m - 1) * B := by rw [← Nat.pow_succ]; congr 1; omega
  have h4 : B ^ (m - 1) * 2 ≤ B ^ (m - 1) * B := Nat.mul_le_mul_left _ hB
  cases c with
  | zero => simpa using h
  | succ c =>
    exfalso
    have h5 : B ^ m * 1 ≤ B ^ m * (c + 1) := Nat.mul_le_mul_left _ (by omega)
    rw [h3] at h5 h
    omega

theorem c_r1Add (a b : List Int) (ha : a.length ≤ 900000) (hb : b.length ≤ 900000) : FnH Tryz.prog 222 [wL a, wL b] [] (wL (wd (val a + val b))) [] := by
  refine FnH.intro lay mixed Tryz.func222 (by kernel_rfl) rfl (by kernel_rfl) rfl fun hok => ?_
  have wa : Ws a := Ws.ok hok.1.2
  have wb : Ws b := Ws.ok hok.2.1.2
  ((try dsimp only [argC, succC]); (try dsimp only [awp]); (conv => whnf))
  obtain ⟨m, hm⟩ : ∃ m, max a.length b.length + 1 = m := ⟨_, rfl⟩
  have em : max (((a.map (AV.int .u32)).length : Nat) : Int) (((b.map (AV.int .u32)).length : Nat) : Int) + 1 = (m : Int) := by simp only [List.length_map]; omega
  refine And.intro (by rw [em]; exact inr64 (by omega) (by omega)) ?_
  rw [em]
  (conv => whnf)
  refine LoopE.of <| LoopSpec.inv (.grow 5 1 [] _ rfl (.inl ⟨rfl, rfl⟩) (.refl _ _)) (fun x : Nat × Nat × List Int => x.1 ≤ m ∧ x.2.1 ≤ 1 ∧ Ws x.2.2 ∧ x.2.2.length = x.1 ∧ val x.2.2 + 4294967296 ^ x.1 * x.2.1 = val (a.take x.1) + val (b.take x.1))
    (fun | (i, c, s) => [(15, .int .i64 i), (6, .int .u64 c), (5, .sl 1 (s.map (.int .u32)) (.own 0))]) (fun | (_, _, s) => [(0, .tok 1 s.length)])
    (fun x => m - x.1) (0, 0, []) ?_ (fun _ => rfl) ?_ ?_
  · exact ⟨Nat.zero_le _, by simp, Ws.nil, rfl, by simp [val]⟩
  · refine ⟨?_, .mk ?_ ⟨by simp, trivial⟩⟩
    · (repeat' first | exact rfl | exact trivial | exact HWk.refl rfl | exact leRL_refl _ | apply And.intro)
    · (repeat' first | exact rfl | exact trivial | exact HWk.refl rfl | exact leRL_refl _ | apply And.intro)
  rintro ⟨i, c, s⟩ ⟨hi, hc, hws, hsl, hv⟩ _
  simp only at hi hc hws hsl hv
  ((try dsimp only [awp]); (conv => whnf))
  refine And.intro (fun h => ?_) (fun h => ?_)
  · have hlt : i < m := by omega
    have ca := c_rWord a i
    have cb := c_rWord b i
    have hva := val_take_getD (l := a) (i := i)
    have hvb := val_take_getD (l := b) (i := i)
    have hxa := wa.getD (i := i)
    have hxb := wb.getD (i := i)
    generalize a.getD i 0 = x0 at *
    generalize b.getD i 0 = y0 at *
    obtain ⟨x, rfl⟩ : ∃ x : Nat, x0 = x := ⟨x0.toNat, by omega⟩
    obtain ⟨w, rfl⟩ : ∃ x : Nat, y0 = x := ⟨y0.toNat, by omega⟩
    rw [Int.toNat_natCast] at hva hvb
    ((try dsimp only [awp]); (conv => whnf))
    refine .gen _ _ (FnH.ofPure ca (leL_refl _) ⟨rfl, rfl⟩) fun _ => ?_
    ((try dsimp only [awp]); (conv => whnf))
    refine .gen _ _ (FnH.ofPure cb (leL_refl _) ⟨rfl, rfl⟩) fun _ => ?_
    (conv => whnf)
    rw [show ((x : Int) + (w : Int)) = ((x + w : Nat) : Int) from (Int.natCast_add x w).symm, wrap_u64 (n := ((x + w : Nat) : Int)) (by omega) (by omega)]
    rw [show (((x + w : Nat) : Int) + (c : Int)) = ((x + w + c : Nat) : Int) from (Int.natCast_add (x + w) c).symm, wrap_u64 (n := ((x + w + c : Nat) : Int)) (by omega) (by omega)]
    obtain ⟨D, hD⟩ : ∃ D, x + w + c = D := ⟨_, rfl⟩
    rw [hD]
    (conv => whnf)
    rw [wrapu32_mod (a := D)]
    refine ⟨by rw [List.length_map], ?_⟩
    refine ⟨by simp [maxL]; omega, by simp; omega, ?_⟩
    (conv => whnf)
    refine ⟨by decide, ?_⟩
    rw [shr_word rfl]
    (conv => whnf)
    (refine ⟨inr64 (by omega) (by omega), ?_⟩; (conv => whnf))
    refine ⟨(i + 1, D / 4294967296, s ++ [((D % 4294967296 : Nat) : Int)]), ?_, ?_, ?_⟩
    · refine ⟨hlt, (by omega : D / 4294967296 ≤ 1), hws.append (Ws.cons (by omega) Ws.nil), by simp [hsl], ?_⟩
      show val (s ++ [((D % 4294967296 : Nat) : Int)]) + 4294967296 ^ (i + 1) * (D / 4294967296) = val (a.take (i + 1)) + val (b.take (i + 1))
      have e1 : val (s ++ [((D % 4294967296 : Nat) : Int)]) = val s + 4294967296 ^ i * (D % 4294967296) := by
        rw [val_append, hsl]
        show _ + _ * ((((D % 4294967296 : Nat) : Int)).toNat + 4294967296 * 0) = _
        rw [Int.toNat_natCast]; rfl
      rw [hva, hvb, e1, Nat.pow_succ]
      exact radd_arith hD hv
    · refine ⟨?_, .mk ?_ ⟨by simp, trivial⟩⟩
      · (repeat' first | exact rfl | exact trivial | exact HWk.refl rfl | exact leRL_refl _ | apply And.intro)
        all_goals first | (refine leRL_of ?_; simp [strip]; done) | simp
      · (repeat' first | exact rfl | exact trivial | exact HWk.refl rfl | exact leRL_refl _ | apply And.intro)
        all_goals simp
    · show m - (i + 1) < m - i
      omega
  · have hil : i = m := by omega
    subst hil
    rw [List.take_of_length_le (by omega), List.take_of_length_le (by omega)] at hv
    have hfin : val s = val a + val b := radd_fin (by omega) (val_lt wa) (val_lt wb) (by omega) (by omega) hv
    have ct := c_rTrim s (by omega)
    rw [hfin] at ct
    ((try dsimp only [awp]); (conv => whnf))
    refine .pure _ _ ?_ ⟨rfl, rfl⟩ ct fun _ => ?_
    · (repeat' first | exact rfl | exact trivial | exact HWk.refl rfl | exact leRL_refl _ | apply And.intro)
    ((try dsimp only [awp]); (conv => whnf))
    (refine FinSpec.mono ?_; (conv => whnf); refine ⟨?_, rfl⟩; (conv => whnf))
    (repeat' first | exact rfl | exact trivial | exact HWk.refl rfl | exact leRL_refl _ | apply And.intro)

def negR (a : Rat) : Rat := formR (!(partsR a).1) (partsR a).2.1 (partsR a).2.2

def sumR (s t : Bool) (x y d : Nat) : Rat := if s = t then formR s (x + y) d else if x < y then formR t (y - x) d else formR s (x - y) d

def addR (a b : Rat) : Rat := sumR (partsR a).1 (partsR b).1 ((partsR a).2.1 * (partsR b).2.2) ((partsR b).2.1 * (partsR a).2.2) ((partsR a).2.2 * (partsR b).2.2)

theorem c_rNeg (a : Rat) (a1 : a.num.length ≤ 100000) (a2 : a.den.length ≤ 100000) : FnH Tryz.prog 221 [a.av] [] (negR a).av [] := by
  have ca := c_rParts a (by omega) (by omega)
  refine FnH.intro lay mixed Tryz.func221 (by kernel_rfl) rfl (by kernel_rfl) rfl fun hok => ?_
  have pa := partsOk (ratWs hok).1 (ratWs hok).2 (by omega) (by omega)
  have qa := partsLe (ratWs hok).1 (ratWs hok).2 a1 a2
  rw [pa.eq] at ca
  have cf := c_rFrom (!(partsR a).1) (partsR a).2.1 (partsR a).2.2 (by omega) (by omega) pa.den
  have hm : negR a = formR (!(partsR a).1) (partsR a).2.1 (partsR a).2.2 := rfl
  rw [← hm] at cf
  generalize negR a = R at *
  ((try dsimp only [argC, succC]); (try dsimp only [awp]); (conv => whnf))
  refine .pure _ _ ?_ ⟨rfl, rfl⟩ ca fun _ => ?_
  · exact leL_refl _
  ((try dsimp only [awp]); (conv => whnf))
  refine .pure _ _ ?_ ⟨rfl, rfl⟩ cf fun _ => ?_
  · (repeat' first | exact rfl | exact trivial | exact HWk.refl rfl | exact leRL_refl _ | apply And.intro)
  ((try dsimp only [awp]); (conv => whnf))
  (refine FinSpec.mono ?_; (conv => whnf); refine ⟨?_, rfl⟩; (conv => whnf))
  (repeat' first | exact rfl | exact trivial | exact HWk.refl rfl | exact leRL_refl _ | apply And.intro)
end S

open Go Go.AL Go.Proofs
namespace S
set_option maxRecDepth 100000

theorem wd_eq_nil {x : Nat} : wd x = [] ↔ x = 0 := by
  constructor
  · intro h
    apply Classical.byContradiction
    intro h0
    rw [wd_pos h0] at h; cases h
  · rintro rfl; exact wd_zero

theorem wd_len_add {x y k : Nat} (hx : (wd x).length ≤ k) (hy : (wd y).length ≤ k) : (wd (x + y)).length ≤ k + 1 := by
  refine wd_len_lt ?_
  have h1 := val_lt (wd_Ws x)
  have h2 := val_lt (wd_Ws y)
  rw [val_wd] at h1 h2
  have h3 : 4294967296 ^ (wd x).length ≤ 4294967296 ^ k := Nat.pow_le_pow_right (by omega) hx
  have h4 : 4294967296 ^ (wd y).length ≤ 4294967296 ^ k := Nat.pow_le_pow_right (by omega) hy
  rw [Nat.pow_succ]
  generalize 4294967296 ^ k = p at *
  generalize 4294967296 ^ (wd x).length = q at *
  generalize 4294967296 ^ (wd y).length = r at *
  omega

theorem c_rAdd (a b : Rat) (a1 : a.num.length ≤ 100000) (a2 : a.den.length ≤ 100000) (b1 : b.num.length ≤ 100000) (b2 : b.den.length ≤ 100000) : FnH Tryz.prog 220 [a.av, b.av] [] (addR a b).av [] := by
  have ca := c_rParts a (by omega) (by omega)
  have cb := c_rParts b (by omega) (by omega)
  refine FnH.intro lay mixed Tryz.func220 (by kernel_rfl) rfl (by kernel_rfl) rfl fun hok => ?_
  have pa := partsOk (ratWs hok).1 (ratWs hok).2 (by omega) (by omega)
  have pb := partsOk (ratWs hok.2).1 (ratWs hok.2).2 (by omega) (by omega)
  have qa := partsLe (ratWs hok).1 (ratWs hok).2 a1 a2
  have qb := partsLe (ratWs hok.2).1 (ratWs hok.2).2 b1 b2
  rw [pa.eq] at ca
  rw [pb.eq] at cb
  have hR : addR a b = sumR (partsR a).1 (partsR b).1 ((partsR a).2.1 * (partsR b).2.2) ((partsR b).2.1 * (partsR a).2.2) ((partsR a).2.2 * (partsR b).2.2) := rfl
  have m1 := c_rMul (wd (partsR a).2.1) (wd (partsR b).2.2) pa.ln pb.ld
  have m2 := c_rMul (wd (partsR b).2.1) (wd (partsR a).2.2) pb.ln pa.ld
  have m3 := c_rMul (wd (partsR a).2.2) (wd (partsR b).2.2) pa.ld pb.ld
  rw [val_wd, val_wd] at m1 m2 m3
  have l1 := wd_len_mul qa.1 qb.2
  have l2 := wd_len_mul qb.1 qa.2
  have l3 := wd_len_mul qa.2 qb.2
  have hne : (partsR a).2.2 * (partsR b).2.2 ≠ 0 := Nat.mul_ne_zero pa.den pb.den
  generalize addR a b = R at *
  generalize (partsR a).2.1 * (partsR b).2.2 = x at *
  generalize (partsR b).2.1 * (partsR a).2.2 = y at *
  generalize (partsR a).2.2 * (partsR b).2.2 = d at *
  have l4 := wd_len_add l1 l2
  have l5 := wd_len_mono (Nat.sub_le x y)
  have l6 := wd_len_mono (Nat.sub_le y x)
  have cA := c_r1Add (wd x) (wd y) (by omega) (by omega)
  have cC := c_rCmp (wd x) (wd y) (by omega) (by omega)
  have cS := c_rSub (wd x) (wd y) (by omega) (by omega) _ rfl
  have cS2 := c_rSub (wd y) (wd x) (by omega) (by omega) _ rfl
  rw [val_wd, val_wd] at cA cC cS cS2
  have cf1 := c_rFrom (partsR a).1 (x + y) d (by omega) (by omega) hne
  have cf2 := c_rFrom (partsR a).1 (x - y) d (by omega) (by omega) hne
  have cf3 := c_rFrom (partsR b).1 (y - x) d (by omega) (by omega) hne
  unfold sumR at hR
  generalize (partsR a).1 = s at *
  generalize (partsR b).1 = t at *
  ((try dsimp only [argC, succC]); (try dsimp only [awp]); (conv => whnf))
  refine .pure _ _ ?_ ⟨rfl, rfl⟩ ca fun _ => ?_
  · exact leL_refl _
  ((try dsimp only [awp]); (conv => whnf))
  refine .pure _ _ ?_ ⟨rfl, rfl⟩ cb fun _ => ?_
  · exact leL_refl _
  ((try dsimp only [awp]); (conv => whnf))
  refine .pure _ _ ?_ ⟨rfl, rfl⟩ m1 fun _ => ?_
  · exact leL_refl _
  ((try dsimp only [awp]); (conv => whnf))
  refine .pure _ _ ?_ ⟨rfl, rfl⟩ m2 fun _ => ?_
  · exact leL_refl _
  ((try dsimp only [awp]); (conv => whnf))
  refine .pure _ _ ?_ ⟨rfl, rfl⟩ m3 fun _ => ?_
  · exact leL_refl _
  ((try dsimp only [awp]); (conv => whnf))
  refine And.intro (fun hst => ?_) (fun hst => ?_)
  · have hst : s = t := by simpa using hst
    rw [if_pos hst] at hR
    subst hR
    ((try dsimp only [awp]); (conv => whnf))
    refine .pure _ _ ?_ ⟨rfl, rfl⟩ cA fun _ => ?_
    · exact leL_refl _
    ((try dsimp only [awp]); (conv => whnf))
    refine .pure _ _ ?_ ⟨rfl, rfl⟩ cf1 fun _ => ?_
    · exact leL_refl _
    ((try dsimp only [awp]); (conv => whnf))
    (refine FinSpec.mono ?_; (conv => whnf); refine ⟨?_, rfl⟩; (conv => whnf))
    (repeat' first | exact rfl | exact trivial | exact HWk.refl rfl | exact leRL_refl _ | apply And.intro)
  have hst : ¬ s = t := by simpa using hst
  rw [if_neg hst] at hR
  ((try dsimp only [awp]); (conv => whnf))
  refine .pure _ _ ?_ ⟨rfl, rfl⟩ cC fun _ => ?_
  · exact leL_refl _
  ((try dsimp only [awp]); (conv => whnf))
  refine And.intro (fun hxy => ?_) (fun hxy => ?_)
  · have hlt : x < y := by
      unfold cmpN at hxy
      split at hxy
      · assumption
      · split at hxy <;> omega
    rw [if_pos hlt] at hR
    subst hR
    rw [if_neg (by omega)] at cS2
    ((try dsimp only [awp]); (conv => whnf))
    refine .pure _ _ ?_ ⟨rfl, rfl⟩ cS2 fun _ => ?_
    · exact leL_refl _
    ((try dsimp only [awp]); (conv => whnf))
    refine .pure _ _ ?_ ⟨rfl, rfl⟩ cf3 fun _ => ?_
    · exact leL_refl _
    ((try dsimp only [awp]); (conv => whnf))
    (refine FinSpec.mono ?_; (conv => whnf); refine ⟨?_, rfl⟩; (conv => whnf))
    (repeat' first | exact rfl | exact trivial | exact HWk.refl rfl | exact leRL_refl _ | apply And.intro)
  · have hlt : ¬ x < y := by
      intro hlt
      unfold cmpN at hxy
      rw [if_pos hlt] at hxy
      omega
    rw [if_neg hlt] at hR
    subst hR
    rw [if_neg hlt] at cS
    ((try dsimp only [awp]); (conv => whnf))
    refine .pure _ _ ?_ ⟨rfl, rfl⟩ cS fun _ => ?_
    · exact leL_refl _
    ((try dsimp only [awp]); (conv => whnf))
    refine .pure _ _ ?_ ⟨rfl, rfl⟩ cf2 fun _ => ?_
    · exact leL_refl _
    ((try dsimp only [awp]); (conv => whnf))
    (refine FinSpec.mono ?_; (conv => whnf); refine ⟨?_, rfl⟩; (conv => whnf))
    (repeat' first | exact rfl | exact trivial | exact HWk.refl rfl | exact leRL_refl _ | apply And.intro)

def signR (r : Rat) : Int := if (partsR r).2.1 = 0 then 0 else if (partsR r).1 = true then -1 else 1

theorem c_rSign (a : Rat) (a1 : a.num.length ≤ 300000) (a2 : a.den.length ≤ 300000) : FnH Tryz.prog 125 [a.av] [] (.int .i64 (signR a)) [] := by
  have ca := c_rParts a (by omega) (by omega)
  have hR : signR a = if (partsR a).2.1 = 0 then 0 else if (partsR a).1 = true then -1 else 1 := rfl
  refine FnH.intro lay mixed Tryz.func125 (by kernel_rfl) rfl (by kernel_rfl) rfl fun hok => ?_
  have pa := partsOk (ratWs hok).1 (ratWs hok).2 (by omega) (by omega)
  rw [pa.eq] at ca
  have hz := wd_eq_nil (x := (partsR a).2.1)
  generalize signR a = R at *
  generalize (partsR a).2.1 = x at *
  generalize (partsR a).1 = s at *
  ((try dsimp only [argC, succC]); (try dsimp only [awp]); (conv => whnf))
  refine .pure _ _ ?_ ⟨rfl, rfl⟩ ca fun _ => ?_
  · exact leL_refl _
  ((try dsimp only [awp]); (conv => whnf))
  refine And.intro (fun h => ?_) (fun h => ?_)
  · have h0 : x = 0 := hz.1 (List.eq_nil_of_length_eq_zero (by simpa using h))
    rw [if_pos h0] at hR
    subst hR
    ((try dsimp only [awp]); (conv => whnf))
    (refine FinSpec.mono ?_; (conv => whnf); refine ⟨?_, rfl⟩; (conv => whnf))
    (repeat' first | exact rfl | exact trivial | exact HWk.refl rfl | exact leRL_refl _ | apply And.intro)
  have h0 : ¬ x = 0 := by
    intro h0
    apply h
    rw [hz.2 h0]; rfl
  rw [if_neg h0] at hR
  ((try dsimp only [awp]); (conv => whnf))
  refine And.intro (fun hs => ?_) (fun hs => ?_)
  · rw [if_pos hs] at hR
    subst hR
    ((try dsimp only [awp]); (conv => whnf))
    (refine FinSpec.mono ?_; (conv => whnf); refine ⟨?_, rfl⟩; (conv => whnf))
    (repeat' first | exact rfl | exact trivial | exact HWk.refl rfl | exact leRL_refl _ | apply And.intro)
  · rw [if_neg (by simp [hs])] at hR
    subst hR
    ((try dsimp only [awp]); (conv => whnf))
    (refine FinSpec.mono ?_; (conv => whnf); refine ⟨?_, rfl⟩; (conv => whnf))
    (repeat' first | exact rfl | exact trivial | exact HWk.refl rfl | exact leRL_refl _ | apply And.intro)

end S

open Go Go.AL Go.Proofs
namespace S
set_option maxRecDepth 100000

theorem plain_of_wd {x : Nat} (h : x ≠ 0) : plainR (wd x) = true := by
  have h1 : wd x ≠ [] := fun e => h (wd_eq_nil.1 e)
  have h2 : (wd x).getLastD 0 ≠ 0 := by
    rcases wd_Pl x with h2 | h2
    · exact absurd h2 h1
    · exact h2
  simp only [plainR, Bool.and_eq_true, decide_eq_true_eq]
  exact ⟨h1, h2⟩

theorem parts_form {neg : Bool} {x d : Nat} (hx : x ≠ 0) (hd : d ≠ 0) : partsR (formR neg x d) = (neg, x / Nat.gcd x d, d / Nat.gcd x d) ∧ x / Nat.gcd x d ≠ 0 := by
  have hg : 0 < Nat.gcd x d := Nat.gcd_pos_of_pos_left d (by omega)
  have h1 : x / Nat.gcd x d ≠ 0 := by
    have := Nat.div_pos (Nat.gcd_le_left d (by omega : 0 < x)) hg
    omega
  have h2 : d / Nat.gcd x d ≠ 0 := by
    have := Nat.div_pos (Nat.gcd_le_right x (by omega : 0 < d)) hg
    omega
  have hc : Nat.gcd (x / Nat.gcd x d) (d / Nat.gcd x d) = 1 := Nat.gcd_div_gcd_div_gcd_of_pos_left (by omega)
  unfold formR
  rw [if_neg hx]
  generalize x / Nat.gcd x d = a at *
  generalize d / Nat.gcd x d = b at *
  refine ⟨?_, h1⟩
  have hn : wd a ≠ [] := fun e => h1 (wd_eq_nil.1 e)
  have hv : valid ⟨neg, wd a, wd b⟩ = true := by
    unfold valid
    rw [if_neg (fun h => hn h.1)]
    show (plainR (wd a) && plainR (wd b) && decide (Nat.gcd (val (wd a)) (val (wd b)) = 1)) = true
    rw [plain_of_wd h1, plain_of_wd h2, val_wd, val_wd]
    simpa using hc
  unfold partsR
  rw [if_pos ⟨hv, hn⟩]
  show (neg, val (wd a), val (wd b)) = _
  rw [val_wd, val_wd]

theorem sign_form {neg : Bool} {x d : Nat} (hd : d ≠ 0) : signR (formR neg x d) = if x = 0 then 0 else if neg = true then -1 else 1 := by
  by_cases hx : x = 0
  · rw [if_pos hx]
    unfold formR
    rw [if_pos hx]
    have e : partsR ⟨false, [], []⟩ = (false, 0, 1) := if_neg (fun h => h.2 rfl)
    unfold signR
    rw [e]
    rfl
  · rw [if_neg hx]
    obtain ⟨h1, h2⟩ := parts_form (neg := neg) hx hd
    unfold signR
    rw [h1, if_neg h2]

theorem signR_eq {r : Rat} (w1 : Ws r.num) : signR r = sign r := by
  unfold signR sign partsR
  by_cases h : valid r = true ∧ r.num ≠ []
  · rw [if_pos h, if_pos h]
    obtain ⟨h1, h2⟩ := h
    unfold valid at h1
    rw [if_neg (fun h => h2 h.1)] at h1
    simp only [Bool.and_eq_true] at h1
    rw [if_neg (plain_wd h1.1.1 w1).2]
  · rw [if_neg h, if_neg h]; rfl

abbrev oneR : Rat := ⟨false, [1], [1]⟩

theorem wd_one : wd 1 = [1] := wd_small (by omega) (by omega)

theorem parts_one (neg : Bool) : partsR ⟨neg, [1], [1]⟩ = (neg, 1, 1) := by
  have h := (parts_form (neg := neg) (x := 1) (d := 1) (by omega) (by omega)).1
  have e : formR neg 1 1 = ⟨neg, [1], [1]⟩ := by
    unfold formR
    rw [if_neg (by omega)]
    simp [wd_one]
  rw [e] at h
  simpa using h

theorem neg_one : negR oneR = ⟨true, [1], [1]⟩ := by
  unfold negR
  rw [parts_one]
  unfold formR
  rw [if_neg (by simp)]
  simp [wd_one]

theorem prob_law {r : Rat} (w1 : Ws r.num) (w2 : Ws r.den) : (valid r && decide (0 ≤ sign r) && decide (signR (addR r (negR oneR)) ≤ 0)) = prob r := by
  unfold prob
  cases hv : valid r with
  | false => simp
  | true =>
    rw [neg_one]
    unfold addR
    rw [parts_one]
    have hp : partsR r = if r.num ≠ [] then (r.neg, val r.num, val r.den) else (false, 0, 1) := by
      unfold partsR; simp [hv]
    have hs : sign r = if r.num ≠ [] then (if r.neg then -1 else 1) else 0 := by
      unfold sign; simp [hv]
    have hv' := hv
    unfold valid at hv'
    by_cases hn : r.num = []
    · rw [hp, hs, if_neg (by simp [hn]), if_neg (by simp [hn])]
      have hdn : r.den = [] := by
        apply Classical.byContradiction
        intro hd
        rw [if_neg (fun h => hd h.2), hn] at hv'
        simp [plainR] at hv'
      rw [if_pos ⟨hn, hdn⟩] at hv'
      have hneg : r.neg = false := by simpa using hv'
      have e : sumR false true (0 * 1) (1 * 1) (1 * 1) = formR true 1 1 := rfl
      show (true && decide ((0 : Int) ≤ 0) && decide (signR (sumR false true (0 * 1) (1 * 1) (1 * 1)) ≤ 0)) = _
      rw [e, sign_form (by omega), hn, hdn, hneg]
      decide
    · rw [hp, hs, if_pos hn, if_pos hn]
      rw [if_neg (fun h => hn h.1)] at hv'
      simp only [Bool.and_eq_true] at hv'
      obtain ⟨e1, n1⟩ := plain_wd hv'.1.1 w1
      obtain ⟨e2, n2⟩ := plain_wd hv'.1.2 w2
      cases hneg : r.neg with
      | true => simp
      | false =>
        show (true && decide ((0 : Int) ≤ 1) && decide (signR (sumR false true (val r.num * 1) (1 * val r.den) (val r.den * 1)) ≤ 0)) = (true && !false && decide (val r.num ≤ val r.den))
        rw [Nat.mul_one, Nat.one_mul, Nat.mul_one]
        unfold sumR
        rw [if_neg (by decide)]
        by_cases hlt : val r.num < val r.den
        · rw [if_pos hlt, sign_form n2, if_neg (by omega)]
          simp; omega
        · rw [if_neg hlt, sign_form n2]
          by_cases h0 : val r.num - val r.den = 0
          · rw [if_pos h0]; simp; omega
          · rw [if_neg h0]; simp; omega
end S

open Go Go.AL Go.Proofs
namespace S
set_option maxRecDepth 100000

theorem c_rSub1 (a : Rat) (a1 : a.num.length ≤ 90000) (a2 : a.den.length ≤ 90000) : FnH Tryz.prog 213 [a.av, oneR.av] [] (addR a (negR oneR)).av [] := by
  have c1 := c_rNeg oneR (by simp) (by simp)
  have n1 : (negR oneR).num.length ≤ 90000 := by rw [neg_one]; simp
  have n2 : (negR oneR).den.length ≤ 90000 := by rw [neg_one]; simp
  have c2 := c_rAdd a (negR oneR) (by omega) (by omega) (by omega) (by omega)
  generalize addR a (negR oneR) = R at *
  generalize negR oneR = N at *
  refine FnH.intro lay mixed Tryz.func213 (by kernel_rfl) rfl (by kernel_rfl) rfl fun hok => ?_
  ((try dsimp only [argC, succC]); (try dsimp only [awp]); (conv => whnf))
  (refine ADraw.auto (by kernel_rfl) ?_; (conv => whnf))
  refine ACallP.pure _ _ ?_ ⟨rfl, rfl⟩ c1 ?_
  · exact leL_refl _
  ((try dsimp only [awp]); (conv => whnf))
  refine ACallP.pure _ _ ?_ ⟨rfl, rfl⟩ c2 ?_
  · exact leL_refl _
  ((try dsimp only [awp]); (conv => whnf))
  (refine FinSpec.mono ?_; (conv => whnf); refine ⟨?_, rfl⟩; (conv => whnf))
  (repeat' first | exact rfl | exact trivial | exact HWk.refl rfl | exact leRL_refl _ | apply And.intro)

theorem form_len {neg : Bool} {x d k : Nat} (hx : (wd x).length ≤ k) (hd : (wd d).length ≤ k) : (formR neg x d).num.length ≤ k ∧ (formR neg x d).den.length ≤ k := by
  unfold formR
  split
  · simp
  · have h1 := wd_len_mono (Nat.div_le_self x (Nat.gcd x d))
    have h2 := wd_len_mono (Nat.div_le_self d (Nat.gcd x d))
    exact ⟨by show (wd _).length ≤ k; omega, by show (wd _).length ≤ k; omega⟩

theorem add_len {a b : Rat} (wa : Ws a.num ∧ Ws a.den) (wb : Ws b.num ∧ Ws b.den) (a1 : a.num.length ≤ 100000) (a2 : a.den.length ≤ 100000) (b1 : b.num.length ≤ 100000) (b2 : b.den.length ≤ 100000) :
    (addR a b).num.length ≤ 200001 ∧ (addR a b).den.length ≤ 200001 := by
  have qa := partsLe wa.1 wa.2 a1 a2
  have qb := partsLe wb.1 wb.2 b1 b2
  have l1 := wd_len_mul qa.1 qb.2
  have l2 := wd_len_mul qb.1 qa.2
  have l3 := wd_len_mul qa.2 qb.2
  unfold addR sumR
  generalize (partsR a).2.1 * (partsR b).2.2 = x at *
  generalize (partsR b).2.1 * (partsR a).2.2 = y at *
  generalize (partsR a).2.2 * (partsR b).2.2 = d at *
  have l4 := wd_len_add l1 l2
  have l5 := wd_len_mono (Nat.sub_le x y)
  have l6 := wd_len_mono (Nat.sub_le y x)
  split
  · exact form_len (by omega) (by omega)
  · split
    · exact form_len (by omega) (by omega)
    · exact form_len (by omega) (by omega)

theorem c_rCmp1 (a : Rat) (a1 : a.num.length ≤ 90000) (a2 : a.den.length ≤ 90000) : FnH Tryz.prog 188 [a.av, oneR.av] [] (.int .i64 (signR (addR a (negR oneR)))) [] := by
  have c1 := c_rSub1 a a1 a2
  refine FnH.intro lay mixed Tryz.func188 (by kernel_rfl) rfl (by kernel_rfl) rfl fun hok => ?_
  have w := ratWs hok
  have hl := add_len w (b := negR oneR) (by rw [neg_one]; exact ⟨Ws.cons (by omega) Ws.nil, Ws.cons (by omega) Ws.nil⟩) (by omega) (by omega) (by rw [neg_one]; simp) (by rw [neg_one]; simp)
  have c2 := c_rSign (addR a (negR oneR)) (by omega) (by omega)
  generalize addR a (negR oneR) = R at *
  ((try dsimp only [argC, succC]); (try dsimp only [awp]); (conv => whnf))
  refine .pure _ _ ?_ ⟨rfl, rfl⟩ c1 fun _ => ?_
  · exact leL_refl _
  ((try dsimp only [awp]); (conv => whnf))
  refine .pure _ _ ?_ ⟨rfl, rfl⟩ c2 fun _ => ?_
  · exact leL_refl _
  ((try dsimp only [awp]); (conv => whnf))
  (refine FinSpec.mono ?_; (conv => whnf); refine ⟨?_, rfl⟩; (conv => whnf))
  (repeat' first | exact rfl | exact trivial | exact HWk.refl rfl | exact leRL_refl _ | apply And.intro)

theorem c_rProb (h1 : OneC) (a : Rat) (a1 : a.num.length ≤ 90000) (a2 : a.den.length ≤ 90000) : FnH Tryz.prog 128 [a.av] [] (.bool (prob a)) [] := by
  have cv := c_rValid a (by omega) (by omega)
  have cs := c_rSign a (by omega) (by omega)
  have cc := c_rCmp1 a a1 a2
  refine FnH.intro lay mixed Tryz.func128 (by kernel_rfl) rfl (by kernel_rfl) rfl fun hok => ?_
  have w := ratWs hok
  have hl := prob_law w.1 w.2
  rw [signR_eq w.1] at cs
  generalize signR (addR a (negR oneR)) = z at *
  rw [← hl]
  ((try dsimp only [argC, succC]); (try dsimp only [awp]); (conv => whnf))
  (refine ADraw.auto (by kernel_rfl) ?_; (conv => whnf))
  refine ACallP.pure _ _ ?_ ⟨rfl, rfl⟩ cv ?_
  · exact leL_refl _
  ((try dsimp only [awp]); (conv => whnf))
  refine And.intro (fun p1 => ?_) (fun p1 => ?_)
  · ((try dsimp only [awp]); (conv => whnf))
    refine ACallP.pure _ _ ?_ ⟨rfl, rfl⟩ cs ?_
    · exact leL_refl _
    ((try dsimp only [awp]); (conv => whnf))
    refine And.intro (fun p2 => ?_) (fun p2 => ?_)
    · ((try dsimp only [awp]); (conv => whnf))
      refine ACallP.pure _ _ ?_ ⟨rfl, rfl⟩ h1 ?_
      · exact leL_refl _
      ((try dsimp only [awp]); (conv => whnf))
      refine ACallP.pure _ _ ?_ ⟨rfl, rfl⟩ cc ?_
      · exact leL_refl _
      ((try dsimp only [awp]); (conv => whnf))
      (refine FinSpec.mono ?_; (conv => whnf); refine ⟨?_, rfl⟩; (conv => whnf))
      show _ ↔ _
      simp [p1, p2]
    · ((try dsimp only [awp]); (conv => whnf))
      (refine FinSpec.mono ?_; (conv => whnf); refine ⟨?_, rfl⟩; (conv => whnf))
      simp [p1, p2]
  · ((try dsimp only [awp]); (conv => whnf))
    (refine FinSpec.mono ?_; (conv => whnf); refine ⟨?_, rfl⟩; (conv => whnf))
    simp [p1]
end S

open Go Go.AL Go.Proofs
namespace S
set_option maxRecDepth 100000

theorem c_revent (m : Md) (s : Str) : FnH Tryz.prog 93 [m.av, .str s] [] (.int .i64 (i_event m.evs s)) [] := by
  refine FnH.intro lay mixed Tryz.func93 (by kernel_rfl) rfl (by kernel_rfl) rfl fun hok => ?_
  have hl : m.evs.length ≤ 9223372036854775807 := by
    have := hok.1
    simp only [Ok, OkL] at this
    have : (m.evs.map Ev.av).length ≤ maxL := by simp only [this]
    simpa [maxL] using this
  ((try dsimp only [argC, succC]); (try dsimp only [awp]); (conv => whnf))
  refine LoopE.of <| LoopSpec.inv (.refl _ _) (fun (i : Nat) => i ≤ m.evs.length ∧ ∀ (j : Nat) (hj : j < m.evs.length), j < i → decide ((m.evs)[j].name = s) = false) (fun (i : Nat) => [(10, .int .i64 i)]) (fun _ => _) (fun (i : Nat) => m.evs.length - i) 0 ?_ (fun _ => rfl) ?_ ?_
  · exact ⟨Nat.zero_le _, by omega⟩
  · (repeat' first | exact rfl | exact trivial | exact HWk.refl rfl | exact leRL_refl _ | apply And.intro)
  rintro i ⟨hi, hn⟩ _
  ((try dsimp only [awp]); (conv => whnf))
  refine And.intro (fun h => ?_) (fun h => ?_)
  · have hlt : i < m.evs.length := by simpa using h
    have hyes : (m.evs)[i].name = s → i_event m.evs s = i := fun e => (by unfold i_event; exact idxP_some (p := fun x => decide (x.name = s)) hlt (by simpa using e) fun j hj => hn j (by omega) hj)
    have hno : (m.evs)[i].name ≠ s → ∀ (j : Nat) (hj : j < m.evs.length), j < i + 1 → decide ((m.evs)[j].name = s) = false := by
      intro e j hj hji
      by_cases e2 : j = i
      · subst e2; exact decide_eq_false e
      · exact hn j hj (by omega)
    ((try dsimp only [awp]); (conv => whnf))
    refine aidx hlt ?_
    generalize (m.evs)[i] = x at *
    ((try dsimp only [awp]); (conv => whnf))
    refine And.intro (fun h1 => ?_) (fun h1 => ?_)
    · rw [hyes h1]
      ((try dsimp only [awp]); (conv => whnf))
      (refine FinSpec.mono ?_; (conv => whnf); refine ⟨?_, rfl⟩; (conv => whnf))
      (repeat' first | exact rfl | exact trivial | exact HWk.refl rfl | exact leRL_refl _ | apply And.intro)
    · ((try dsimp only [awp]); (conv => whnf))
      (refine ⟨inr64 (by omega) (by omega), ?_⟩; (conv => whnf))
      refine ⟨i + 1, ?_, ?_, ?_⟩
      · exact ⟨hlt, hno h1⟩
      · refine ⟨?_, .mk ?_ ⟨by simp, trivial⟩⟩
        · (repeat' first | exact rfl | exact trivial | exact HWk.refl rfl | exact leRL_refl _ | apply And.intro)
        · (repeat' first | exact rfl | exact trivial | exact HWk.refl rfl | exact leRL_refl _ | apply And.intro)
      · omega
  · have hlt : ¬ i < m.evs.length := by simpa using h
    rw [show i_event m.evs s = -1 from by unfold i_event; exact idxP_none (p := fun x => decide (x.name = s)) fun j hj => hn j hj (by omega)]
    ((try dsimp only [awp]); (conv => whnf))
    (refine FinSpec.mono ?_; (conv => whnf); refine ⟨?_, rfl⟩; (conv => whnf))
    (repeat' first | exact rfl | exact trivial | exact HWk.refl rfl | exact leRL_refl _ | apply And.intro)
theorem c_rhouse (m : Md) (s : Str) : FnH Tryz.prog 143 [m.av, .str s] [] (.int .i64 (i_house m.hs s)) [] := by
  refine FnH.intro lay mixed Tryz.func143 (by kernel_rfl) rfl (by kernel_rfl) rfl fun hok => ?_
  have hl : m.hs.length ≤ 9223372036854775807 := by
    have := hok.1
    simp only [Ok, OkL] at this
    have : (m.hs.map Hs.av).length ≤ maxL := by simp only [this]
    simpa [maxL] using this
  ((try dsimp only [argC, succC]); (try dsimp only [awp]); (conv => whnf))
  refine LoopE.of <| LoopSpec.inv (.refl _ _) (fun (i : Nat) => i ≤ m.hs.length ∧ ∀ (j : Nat) (hj : j < m.hs.length), j < i → decide ((m.hs)[j].name = s) = false) (fun (i : Nat) => [(10, .int .i64 i)]) (fun _ => _) (fun (i : Nat) => m.hs.length - i) 0 ?_ (fun _ => rfl) ?_ ?_
  · exact ⟨Nat.zero_le _, by omega⟩
  · (repeat' first | exact rfl | exact trivial | exact HWk.refl rfl | exact leRL_refl _ | apply And.intro)
  rintro i ⟨hi, hn⟩ _
  ((try dsimp only [awp]); (conv => whnf))
  refine And.intro (fun h => ?_) (fun h => ?_)
  · have hlt : i < m.hs.length := by simpa using h
    have hyes : (m.hs)[i].name = s → i_house m.hs s = i := fun e => (by unfold i_house; exact idxP_some (p := fun x => decide (x.name = s)) hlt (by simpa using e) fun j hj => hn j (by omega) hj)
    have hno : (m.hs)[i].name ≠ s → ∀ (j : Nat) (hj : j < m.hs.length), j < i + 1 → decide ((m.hs)[j].name = s) = false := by
      intro e j hj hji
      by_cases e2 : j = i
      · subst e2; exact decide_eq_false e
      · exact hn j hj (by omega)
    ((try dsimp only [awp]); (conv => whnf))
    refine aidx hlt ?_
    generalize (m.hs)[i] = x at *
    ((try dsimp only [awp]); (conv => whnf))
    refine And.intro (fun h1 => ?_) (fun h1 => ?_)
    · rw [hyes h1]
      ((try dsimp only [awp]); (conv => whnf))
      (refine FinSpec.mono ?_; (conv => whnf); refine ⟨?_, rfl⟩; (conv => whnf))
      (repeat' first | exact rfl | exact trivial | exact HWk.refl rfl | exact leRL_refl _ | apply And.intro)
    · ((try dsimp only [awp]); (conv => whnf))
      (refine ⟨inr64 (by omega) (by omega), ?_⟩; (conv => whnf))
      refine ⟨i + 1, ?_, ?_, ?_⟩
      · exact ⟨hlt, hno h1⟩
      · refine ⟨?_, .mk ?_ ⟨by simp, trivial⟩⟩
        · (repeat' first | exact rfl | exact trivial | exact HWk.refl rfl | exact leRL_refl _ | apply And.intro)
        · (repeat' first | exact rfl | exact trivial | exact HWk.refl rfl | exact leRL_refl _ | apply And.intro)
      · omega
  · have hlt : ¬ i < m.hs.length := by simpa using h
    rw [show i_house m.hs s = -1 from by unfold i_house; exact idxP_none (p := fun x => decide (x.name = s)) fun j hj => hn j hj (by omega)]
    ((try dsimp only [awp]); (conv => whnf))
    (refine FinSpec.mono ?_; (conv => whnf); refine ⟨?_, rfl⟩; (conv => whnf))
    (repeat' first | exact rfl | exact trivial | exact HWk.refl rfl | exact leRL_refl _ | apply And.intro)
theorem c_rpage (m : Md) (s : Str) : FnH Tryz.prog 144 [m.av, .str s] [] (.int .i64 (i_page m.pages s)) [] := by
  refine FnH.intro lay mixed Tryz.func144 (by kernel_rfl) rfl (by kernel_rfl) rfl fun hok => ?_
  have hl : m.pages.length ≤ 9223372036854775807 := by
    have := hok.1
    simp only [Ok, OkL] at this
    have : (m.pages.map Pg.av).length ≤ maxL := by simp only [this]
    simpa [maxL] using this
  ((try dsimp only [argC, succC]); (try dsimp only [awp]); (conv => whnf))
  refine LoopE.of <| LoopSpec.inv (.refl _ _) (fun (i : Nat) => i ≤ m.pages.length ∧ ∀ (j : Nat) (hj : j < m.pages.length), j < i → decide ((m.pages)[j].name = s) = false) (fun (i : Nat) => [(10, .int .i64 i)]) (fun _ => _) (fun (i : Nat) => m.pages.length - i) 0 ?_ (fun _ => rfl) ?_ ?_
  · exact ⟨Nat.zero_le _, by omega⟩
  · (repeat' first | exact rfl | exact trivial | exact HWk.refl rfl | exact leRL_refl _ | apply And.intro)
  rintro i ⟨hi, hn⟩ _
  ((try dsimp only [awp]); (conv => whnf))
  refine And.intro (fun h => ?_) (fun h => ?_)
  · have hlt : i < m.pages.length := by simpa using h
    have hyes : (m.pages)[i].name = s → i_page m.pages s = i := fun e => (by unfold i_page; exact idxP_some (p := fun x => decide (x.name = s)) hlt (by simpa using e) fun j hj => hn j (by omega) hj)
    have hno : (m.pages)[i].name ≠ s → ∀ (j : Nat) (hj : j < m.pages.length), j < i + 1 → decide ((m.pages)[j].name = s) = false := by
      intro e j hj hji
      by_cases e2 : j = i
      · subst e2; exact decide_eq_false e
      · exact hn j hj (by omega)
    ((try dsimp only [awp]); (conv => whnf))
    refine aidx hlt ?_
    generalize (m.pages)[i] = x at *
    ((try dsimp only [awp]); (conv => whnf))
    refine And.intro (fun h1 => ?_) (fun h1 => ?_)
    · rw [hyes h1]
      ((try dsimp only [awp]); (conv => whnf))
      (refine FinSpec.mono ?_; (conv => whnf); refine ⟨?_, rfl⟩; (conv => whnf))
      (repeat' first | exact rfl | exact trivial | exact HWk.refl rfl | exact leRL_refl _ | apply And.intro)
    · ((try dsimp only [awp]); (conv => whnf))
      (refine ⟨inr64 (by omega) (by omega), ?_⟩; (conv => whnf))
      refine ⟨i + 1, ?_, ?_, ?_⟩
      · exact ⟨hlt, hno h1⟩
      · refine ⟨?_, .mk ?_ ⟨by simp, trivial⟩⟩
        · (repeat' first | exact rfl | exact trivial | exact HWk.refl rfl | exact leRL_refl _ | apply And.intro)
        · (repeat' first | exact rfl | exact trivial | exact HWk.refl rfl | exact leRL_refl _ | apply And.intro)
      · omega
  · have hlt : ¬ i < m.pages.length := by simpa using h
    rw [show i_page m.pages s = -1 from by unfold i_page; exact idxP_none (p := fun x => decide (x.name = s)) fun j hj => hn j hj (by omega)]
    ((try dsimp only [awp]); (conv => whnf))
    (refine FinSpec.mono ?_; (conv => whnf); refine ⟨?_, rfl⟩; (conv => whnf))
    (repeat' first | exact rfl | exact trivial | exact HWk.refl rfl | exact leRL_refl _ | apply And.intro)

theorem c_rgate (l : List Mg) (s : Str) : FnH Tryz.prog 146 [gL l, .str s] [] (.int .i64 (i_gate l s)) [] := by
  refine FnH.intro lay mixed Tryz.func146 (by kernel_rfl) rfl (by kernel_rfl) rfl fun hok => ?_
  have hl : l.length ≤ 9223372036854775807 := by have := hok.1.1; simpa [maxL] using this
  ((try dsimp only [argC, succC]); (try dsimp only [awp]); (conv => whnf))
  refine LoopE.of <| LoopSpec.inv (.refl _ _) (fun (i : Nat) => i ≤ l.length ∧ ∀ (j : Nat) (hj : j < l.length), j < i → decide (l[j].name = s) = false) (fun (i : Nat) => [(9, .int .i64 i)]) (fun _ => _) (fun (i : Nat) => l.length - i) 0 ?_ (fun _ => rfl) ?_ ?_
  · exact ⟨Nat.zero_le _, by omega⟩
  · (repeat' first | exact rfl | exact trivial | exact HWk.refl rfl | exact leRL_refl _ | apply And.intro)
  rintro i ⟨hi, hn⟩ _
  ((try dsimp only [awp]); (conv => whnf))
  refine And.intro (fun h => ?_) (fun h => ?_)
  · have hlt : i < l.length := by simpa using h
    have hyes : l[i].name = s → i_gate l s = i := fun e => (by unfold i_gate; exact idxP_some (p := fun x => decide (x.name = s)) hlt (by simpa using e) fun j hj => hn j (by omega) hj)
    have hno : l[i].name ≠ s → ∀ (j : Nat) (hj : j < l.length), j < i + 1 → decide (l[j].name = s) = false := by
      intro e j hj hji
      by_cases e2 : j = i
      · subst e2; exact decide_eq_false e
      · exact hn j hj (by omega)
    ((try dsimp only [awp]); (conv => whnf))
    refine aidx hlt ?_
    generalize l[i] = x at *
    ((try dsimp only [awp]); (conv => whnf))
    refine And.intro (fun h1 => ?_) (fun h1 => ?_)
    · rw [hyes h1]
      ((try dsimp only [awp]); (conv => whnf))
      (refine FinSpec.mono ?_; (conv => whnf); refine ⟨?_, rfl⟩; (conv => whnf))
      (repeat' first | exact rfl | exact trivial | exact HWk.refl rfl | exact leRL_refl _ | apply And.intro)
    · ((try dsimp only [awp]); (conv => whnf))
      (refine ⟨inr64 (by omega) (by omega), ?_⟩; (conv => whnf))
      refine ⟨i + 1, ?_, ?_, ?_⟩
      · exact ⟨hlt, hno h1⟩
      · refine ⟨?_, .mk ?_ trivial⟩
        · (repeat' first | exact rfl | exact trivial | exact HWk.refl rfl | exact leRL_refl _ | apply And.intro)
        · (repeat' first | exact rfl | exact trivial | exact HWk.refl rfl | exact leRL_refl _ | apply And.intro)
      · omega
  · have hlt : ¬ i < l.length := by simpa using h
    rw [show i_gate l s = -1 from by unfold i_gate; exact idxP_none (p := fun x => decide (x.name = s)) fun j hj => hn j hj (by omega)]
    ((try dsimp only [awp]); (conv => whnf))
    (refine FinSpec.mono ?_; (conv => whnf); refine ⟨?_, rfl⟩; (conv => whnf))
    (repeat' first | exact rfl | exact trivial | exact HWk.refl rfl | exact leRL_refl _ | apply And.intro)

theorem c_letter21 (n : Int) : FnH Tryz.prog 192 [.int .u8 n] [] (.bool (letterN n)) [] := by
  refine FnH.intro lay mixed Tryz.func192 (by kernel_rfl) rfl (by kernel_rfl) rfl fun hok => ?_
  ((try dsimp only [argC, succC]); (try dsimp only [awp]); (conv => whnf))
  repeat' (first | (refine And.intro (fun _ => ?_) (fun _ => ?_) <;> ((try dsimp only [awp]); (conv => whnf))))
  all_goals
    (refine FinSpec.mono ?_; (conv => whnf); refine ⟨?_, rfl⟩; (conv => whnf))
    try simp_all [letterN]
  all_goals omega

theorem c_digit21 (n : Int) : FnH Tryz.prog 218 [.int .u8 n] [] (.bool (digitN n)) [] := by
  refine FnH.intro lay mixed Tryz.func218 (by kernel_rfl) rfl (by kernel_rfl) rfl fun hok => ?_
  ((try dsimp only [argC, succC]); (try dsimp only [awp]); (conv => whnf))
  repeat' (first | (refine And.intro (fun _ => ?_) (fun _ => ?_) <;> ((try dsimp only [awp]); (conv => whnf))))
  all_goals
    (refine FinSpec.mono ?_; (conv => whnf); refine ⟨?_, rfl⟩; (conv => whnf))
    try simp_all [digitN]
  all_goals omega

theorem c_inside (n : Int) : FnH Tryz.prog 193 [.int .u8 n] [] (.bool (inN n)) [] := by
  refine FnH.intro lay mixed Tryz.func193 (by kernel_rfl) rfl (by kernel_rfl) rfl fun hok => ?_
  ((try dsimp only [argC, succC]); (try dsimp only [awp]); (conv => whnf))
  refine .pure _ _ ?_ ⟨rfl, rfl⟩ (c_letter21 n) fun _ => ?_
  · exact leL_refl _
  ((try dsimp only [awp]); (conv => whnf))
  refine And.intro (fun h1 => ?_) (fun h1 => ?_)
  · ((try dsimp only [awp]); (conv => whnf))
    (refine FinSpec.mono ?_; (conv => whnf); refine ⟨?_, rfl⟩; (conv => whnf))
    simp [inN, h1]
  ((try dsimp only [awp]); (conv => whnf))
  refine .pure _ _ ?_ ⟨rfl, rfl⟩ (c_digit21 n) fun _ => ?_
  · exact leL_refl _
  ((try dsimp only [awp]); (conv => whnf))
  refine And.intro (fun h2 => ?_) (fun h2 => ?_)
  · ((try dsimp only [awp]); (conv => whnf))
    (refine FinSpec.mono ?_; (conv => whnf); refine ⟨?_, rfl⟩; (conv => whnf))
    simp [inN, h2]
  ((try dsimp only [awp]); (conv => whnf))
  refine And.intro (fun h3 => ?_) (fun h3 => ?_)
  · ((try dsimp only [awp]); (conv => whnf))
    (refine FinSpec.mono ?_; (conv => whnf); refine ⟨?_, rfl⟩; (conv => whnf))
    simp [inN, h3]
  ((try dsimp only [awp]); (conv => whnf))
  (refine FinSpec.mono ?_; (conv => whnf); refine ⟨?_, rfl⟩; (conv => whnf))
  simp [inN, h1, h2, h3]

theorem c_Name21 (s : Str) : FnH Tryz.prog 141 [.str s] [] (.bool (nameR s)) [] := by
  have cl := c_letter21 (s.getD 0 0).toNat
  obtain ⟨R, hR⟩ : ∃ R, AV.bool (nameR s) = R := ⟨_, rfl⟩
  rw [hR]
  refine FnH.intro lay mixed Tryz.func141 (by kernel_rfl) rfl (by kernel_rfl) rfl fun hok => ?_
  have hl : s.length ≤ 9223372036854775807 := by have := hok.1; simpa [maxL, Ok] using this
  ((try dsimp only [argC, succC]); (try dsimp only [awp]); (conv => whnf))
  refine And.intro (fun h1 => ?_) (fun h1 => ?_)
  · obtain rfl : R = .bool false := by rw [← hR]; congr 1; unfold nameR; rw [decide_eq_false (show ¬ 0 < s.length by omega)]; rfl
    ((try dsimp only [awp]); (conv => whnf))
    (refine FinSpec.mono ?_; (conv => whnf); refine ⟨?_, rfl⟩; (conv => whnf))
    (repeat' first | exact rfl | exact trivial | exact HWk.refl rfl | exact leRL_refl _ | apply And.intro)
  have h1 : 0 < s.length := by omega
  ((try dsimp only [awp]); (conv => whnf))
  refine And.intro (fun h2 => ?_) (fun h2 => ?_)
  · obtain rfl : R = .bool false := by rw [← hR]; congr 1; unfold nameR; rw [decide_eq_false (show ¬ s.length ≤ 24 by omega)]; simp
    ((try dsimp only [awp]); (conv => whnf))
    (refine FinSpec.mono ?_; (conv => whnf); refine ⟨?_, rfl⟩; (conv => whnf))
    (repeat' first | exact rfl | exact trivial | exact HWk.refl rfl | exact leRL_refl _ | apply And.intro)
  have h2 : s.length ≤ 24 := by omega
  ((try dsimp only [awp]); (conv => whnf))
  refine sidx0 h1 ?_
  ((try dsimp only [awp]); (conv => whnf))
  refine .pure _ _ ?_ ⟨rfl, rfl⟩ cl fun _ => ?_
  · exact leL_refl _
  ((try dsimp only [awp]); (conv => whnf))
  refine And.intro (fun h3 => ?_) (fun h3 => ?_)
  · have h3 : letterN (s.getD 0 0).toNat = false := by simpa using h3
    obtain rfl : R = .bool false := by rw [← hR]; congr 1; unfold nameR; rw [h3]; simp
    ((try dsimp only [awp]); (conv => whnf))
    (refine FinSpec.mono ?_; (conv => whnf); refine ⟨?_, rfl⟩; (conv => whnf))
    (repeat' first | exact rfl | exact trivial | exact HWk.refl rfl | exact leRL_refl _ | apply And.intro)
  have h3 : letterN (s.getD 0 0).toNat = true := by simpa using h3
  have hna : nameR s = s.all fun c => inN c.toNat := by unfold nameR; rw [decide_eq_true h1, decide_eq_true h2, h3]; rfl
  ((try dsimp only [awp]); (conv => whnf))
  refine LoopE.of <| LoopSpec.inv (.refl _ _) (fun (i : Nat) => i ≤ s.length ∧ (s.take i).all (fun c => inN c.toNat) = true) (fun (i : Nat) => [(20, .int .i64 i)]) (fun _ => _) (fun (i : Nat) => s.length - i) 0 ?_ (fun _ => rfl) ?_ ?_
  · exact ⟨Nat.zero_le _, by simp⟩
  · (repeat' first | exact rfl | exact trivial | exact HWk.refl rfl | exact leRL_refl _ | apply And.intro)
  rintro i ⟨hi, hn⟩ _
  ((try dsimp only [awp]); (conv => whnf))
  refine And.intro (fun h => ?_) (fun h => ?_)
  · have hlt : i < s.length := by omega
    have hall := all_take (p := fun c : UInt8 => inN c.toNat) hlt
    have hmem := List.getElem_mem hlt
    have cin := c_inside s[i].toNat
    ((try dsimp only [awp]); (conv => whnf))
    refine sidx hlt ?_
    ((try dsimp only [awp]); (conv => whnf))
    refine .pure _ _ ?_ ⟨rfl, rfl⟩ cin fun _ => ?_
    · exact leL_refl _
    ((try dsimp only [awp]); (conv => whnf))
    refine And.intro (fun h4 => ?_) (fun h4 => ?_)
    · have h4 : inN s[i].toNat = false := by simpa using h4
      obtain rfl : R = .bool false := by rw [← hR, hna, all_false (p := fun c : UInt8 => inN c.toNat) hmem h4]
      ((try dsimp only [awp]); (conv => whnf))
      (refine FinSpec.mono ?_; (conv => whnf); refine ⟨?_, rfl⟩; (conv => whnf))
      (repeat' first | exact rfl | exact trivial | exact HWk.refl rfl | exact leRL_refl _ | apply And.intro)
    · have h4 : inN s[i].toNat = true := by simpa using h4
      ((try dsimp only [awp]); (conv => whnf))
      (refine ⟨inr64 (by omega) (by omega), ?_⟩; (conv => whnf))
      refine ⟨i + 1, ?_, ?_, ?_⟩
      · exact ⟨hlt, by rw [hall, hn, h4]; rfl⟩
      · (repeat' first | exact rfl | exact trivial | exact HWk.refl rfl | exact leRL_refl _ | apply And.intro)
      · omega
  · have hil : i = s.length := by omega
    rw [hil, List.take_length] at hn
    obtain rfl : R = .bool true := by rw [← hR, hna, hn]
    ((try dsimp only [awp]); (conv => whnf))
    (refine FinSpec.mono ?_; (conv => whnf); refine ⟨?_, rfl⟩; (conv => whnf))
    (repeat' first | exact rfl | exact trivial | exact HWk.refl rfl | exact leRL_refl _ | apply And.intro)

def shortX (x : Rat) : Prop := x.num.length ≤ 40 ∧ x.den.length ≤ 40

theorem c_rrate (x : Rat) (hx : shortX x) : FnH Tryz.prog 142 [x.av] [] (.bool (rateB x)) [] := by
  have cv := c_rValid x (by have := hx.1; omega) (by have := hx.2; omega)
  have cs := c_rSign x (by have := hx.1; omega) (by have := hx.2; omega)
  refine FnH.intro lay mixed Tryz.func142 (by kernel_rfl) rfl (by kernel_rfl) rfl fun hok => ?_
  have w := ratWs hok
  rw [signR_eq w.1] at cs
  ((try dsimp only [argC, succC]); (try dsimp only [awp]); (conv => whnf))
  refine .pure _ _ ?_ ⟨rfl, rfl⟩ cv fun _ => ?_
  · exact leL_refl _
  ((try dsimp only [awp]); (conv => whnf))
  refine And.intro (fun h1 => ?_) (fun h1 => ?_)
  · ((try dsimp only [awp]); (conv => whnf))
    refine .pure _ _ ?_ ⟨rfl, rfl⟩ cs fun _ => ?_
    · exact leL_refl _
    ((try dsimp only [awp]); (conv => whnf))
    (refine FinSpec.mono ?_; (conv => whnf); refine ⟨?_, rfl⟩; (conv => whnf))
    simp [rateB, h1]
  · ((try dsimp only [awp]); (conv => whnf))
    (refine FinSpec.mono ?_; (conv => whnf); refine ⟨?_, rfl⟩; (conv => whnf))
    simp [rateB, h1]

theorem c_rzero (r : Rat) : FnH Tryz.prog 147 [r.av] [] (.bool (zeroR r)) [] := by
  refine FnH.intro lay mixed Tryz.func147 (by kernel_rfl) rfl (by kernel_rfl) rfl fun hok => ?_
  ((try dsimp only [argC, succC]); (try dsimp only [awp]); (conv => whnf))
  refine And.intro (fun h => ?_) (fun h => ?_)
  all_goals
    ((try dsimp only [awp]); (conv => whnf))
    (repeat' (first | (refine And.intro (fun _ => ?_) (fun _ => ?_) <;> (conv => whnf)) | (refine ADraw.auto (by kernel_rfl) ?_; (conv => whnf)) | (refine FinSpec.mono ?_; (conv => whnf); refine ⟨?_, rfl⟩; (conv => whnf)) | (refine And.intro (inr64 (by omega) (by omega)) ?_; (conv => whnf)) | (refine And.intro (by decide) ?_; (conv => whnf))))
  all_goals (simp_all [zeroR]; done)

end S

open Go Go.AL Go.Proofs
namespace S
set_option maxRecDepth 100000

structure MdX (m : Md) : Prop where
  evs : ∀ x ∈ m.evs, shortX x.p ∧ shortX x.fail ∧ shortX x.repair
  gates : ∀ x ∈ m.gates, shortX x.dorm
  pages : ∀ p ∈ m.pages, ∀ x ∈ p.gates, shortX x.dorm
  grs : ∀ x ∈ m.grs, ∀ f ∈ x.fac, shortX f
  phs : ∀ x ∈ m.phs, ∀ v ∈ x.vals, shortX v.p

theorem shortX_of {x : Rat} (h : shortR x = true) : shortX x := by
  simpa [shortR, shortX] using h

theorem few_X {l : List Mg} (h : fewR l = true) : ∀ x ∈ l, shortX x.dorm := by
  intro x hx
  unfold fewR at h
  simp only [Bool.and_eq_true] at h
  have := List.all_eq_true.1 h.1 x hx
  simp only [fewG, Bool.and_eq_true] at this
  exact shortX_of this.2

theorem lightM_X {m : Md} (h : lightM m = true) : MdX m := by
  unfold lightM at h
  simp only [Bool.and_eq_true, decide_eq_true_eq] at h
  obtain ⟨⟨⟨⟨⟨⟨⟨⟨⟨h1, h2⟩, h3⟩, h4⟩, h5⟩, h6⟩, h7⟩, h8⟩, h9⟩, h10⟩ := h
  refine ⟨fun x hx => ?_, few_X h6, fun p hp => few_X (List.all_eq_true.1 h8 p hp), fun g hg f hf => ?_, fun p hp v hv => ?_⟩
  · have := List.all_eq_true.1 h7 x hx
    simp only [evS, Bool.and_eq_true] at this
    exact ⟨shortX_of this.1.1, shortX_of this.1.2, shortX_of this.2⟩
  · have := List.all_eq_true.1 h9 g hg
    simp only [grS, Bool.and_eq_true] at this
    exact shortX_of (List.all_eq_true.1 this.2 f hf)
  · have := List.all_eq_true.1 h10 p hp
    simp only [phS, Bool.and_eq_true] at this
    exact shortX_of (List.all_eq_true.1 this.2 v hv)

theorem c_rProbX (h1 : OneC) (x : Rat) (hx : shortX x) : FnH Tryz.prog 128 [x.av] [] (.bool (prob x)) [] := c_rProb h1 x (by have := hx.1; omega) (by have := hx.2; omega)

def firstR (m : Md) : Int := if nameR m.name = false then 5 else if eventsErr m ≠ 0 then eventsErr m else pagesErr m

theorem c_first (h1 : OneC) (m : Md) (hX : MdX m) (hB : MdB m) (R : AV) (hR : R = .int .i64 (firstR m)) : FnH Tryz.prog 71 [m.av] [] R [] := by
  have ce := fun s => c_revent m s
  have ch := fun s => c_rhouse m s
  have cp := fun s => c_rpage m s
  have hpl := hB.pages
  have hgl := hB.gates.1
  refine FnH.intro lay mixed Tryz.func71 (by kernel_rfl) rfl (by kernel_rfl) rfl fun hok => ?_
  ((try dsimp only [argC, succC]); (try dsimp only [awp]); (conv => whnf))
  refine .pure _ _ ?_ ⟨rfl, rfl⟩ (c_Name21 m.name) fun _ => ?_
  · exact leL_refl _
  ((try dsimp only [awp]); (conv => whnf))
  refine And.intro (fun g0 => ?_) (fun g0 => ?_)
  · have g0 : nameR m.name = false := by simpa using g0
    obtain rfl : R = .int .i64 5 := by rw [hR, show firstR m = 5 from by unfold firstR; rw [if_pos g0]]
    ((try dsimp only [awp]); (conv => whnf))
    (refine FinSpec.mono ?_; (conv => whnf); refine ⟨?_, rfl⟩; (conv => whnf))
    (repeat' first | exact rfl | exact trivial | exact HWk.refl rfl | exact leRL_refl _ | apply And.intro)
  have g0 : ¬ nameR m.name = false := by simpa using g0
  have ofE : ∀ e : Int, e ≠ 0 → eventsErr m = e → firstR m = e := fun e he h => by unfold firstR; rw [if_neg g0, h, if_pos he]
  ((try dsimp only [awp]); (conv => whnf))
  refine And.intro (fun n1 => ?_) (fun n1 => ?_)
  · have n1 : 24 < m.evs.length := by simp only [List.length_map] at n1; omega
    obtain rfl : R = .int .i64 4 := by rw [hR, show firstR m = 4 from by exact ofE 4 (by decide) (by unfold eventsErr; rw [if_pos n1])]
    ((try dsimp only [awp]); (conv => whnf))
    (refine FinSpec.mono ?_; (conv => whnf); refine ⟨?_, rfl⟩; (conv => whnf))
    (repeat' first | exact rfl | exact trivial | exact HWk.refl rfl | exact leRL_refl _ | apply And.intro)
  have n1 : ¬ 24 < m.evs.length := by simp only [List.length_map] at n1; omega
  ((try dsimp only [awp]); (conv => whnf))
  refine LoopE.of <| LoopSpec.inv (.refl _ _) (fun (i : Nat) => i ≤ m.evs.length ∧ errL (evErr m) 0 m.evs = errL (evErr m) i (m.evs.drop i)) (fun (i : Nat) => [(23, .int .i64 i)]) (fun _ => _) (fun (i : Nat) => m.evs.length - i) 0 ?_ (fun _ => rfl) ?_ ?_
  · exact ⟨Nat.zero_le _, rfl⟩
  · (repeat' first | exact rfl | exact trivial | exact HWk.refl rfl | exact leRL_refl _ | apply And.intro)
  rintro i ⟨hi, hn⟩ _
  ((try dsimp only [awp]); (conv => whnf))
  refine And.intro (fun h => ?_) (fun h => ?_)
  · have hlt : i < m.evs.length := by simpa using h
    obtain ⟨rp, rf, rr⟩ := hX.evs _ (List.getElem_mem hlt)
    rw [errL_step hlt] at hn
    have cpr := c_rProbX h1 _ rp
    have cf := c_rrate _ rf
    have cr := c_rrate _ rr
    have bad : ∀ e : Int, e ≠ 0 → evErr m i m.evs[i] = e → firstR m = e := by
      intro e he h
      refine ofE e he ?_
      unfold eventsErr
      rw [h, if_pos he] at hn
      rw [if_neg n1, hn, if_pos he]
    ((try dsimp only [awp]); (conv => whnf))
    refine aidx hlt ?_
    generalize m.evs[i] = x at *
    ((try dsimp only [awp]); (conv => whnf))
    refine .pure _ _ ?_ ⟨rfl, rfl⟩ (c_Name21 x.name) fun _ => ?_
    · exact leL_refl _
    ((try dsimp only [awp]); (conv => whnf))
    refine And.intro (fun g1 => ?_) (fun g1 => ?_)
    · have g1 : nameR x.name = false := by simpa using g1
      obtain rfl : R = .int .i64 5 := by rw [hR, show firstR m = 5 from by exact bad 5 (by decide) (by unfold evErr; rw [if_pos g1])]
      ((try dsimp only [awp]); (conv => whnf))
      (refine FinSpec.mono ?_; (conv => whnf); refine ⟨?_, rfl⟩; (conv => whnf))
      (repeat' first | exact rfl | exact trivial | exact HWk.refl rfl | exact leRL_refl _ | apply And.intro)
    have g1 : ¬ nameR x.name = false := by simpa using g1
    ((try dsimp only [awp]); (conv => whnf))
    refine .pure _ _ ?_ ⟨rfl, rfl⟩ (ce x.name) fun _ => ?_
    · exact leL_refl _
    ((try dsimp only [awp]); (conv => whnf))
    refine And.intro (fun g2 => ?_) (fun g2 => ?_)
    · obtain rfl : R = .int .i64 6 := by rw [hR, show firstR m = 6 from by exact bad 6 (by decide) (by unfold evErr; rw [if_neg g1, if_pos g2])]
      ((try dsimp only [awp]); (conv => whnf))
      (refine FinSpec.mono ?_; (conv => whnf); refine ⟨?_, rfl⟩; (conv => whnf))
      (repeat' first | exact rfl | exact trivial | exact HWk.refl rfl | exact leRL_refl _ | apply And.intro)
    ((try dsimp only [awp]); (conv => whnf))
    refine .pure _ _ ?_ ⟨rfl, rfl⟩ cpr fun _ => ?_
    · exact leL_refl _
    ((try dsimp only [awp]); (conv => whnf))
    refine And.intro (fun g3 => ?_) (fun g3 => ?_)
    · have g3 : prob x.p = false := by simpa using g3
      ((try dsimp only [awp]); (conv => whnf))
      refine And.intro (fun _ => ?_) (fun h => by exfalso; simp [g3] at h)
      obtain rfl : R = .int .i64 3 := by rw [hR, show firstR m = 3 from by exact bad 3 (by decide) (by unfold evErr; rw [if_neg g1, if_neg g2, if_pos g3])]
      ((try dsimp only [awp]); (conv => whnf))
      (refine FinSpec.mono ?_; (conv => whnf); refine ⟨?_, rfl⟩; (conv => whnf))
      (repeat' first | exact rfl | exact trivial | exact HWk.refl rfl | exact leRL_refl _ | apply And.intro)
    have g3 : ¬ prob x.p = false := by simpa using g3
    ((try dsimp only [awp]); (conv => whnf))
    refine .pure _ _ ?_ ⟨rfl, rfl⟩ cf fun _ => ?_
    · exact leL_refl _
    ((try dsimp only [awp]); (conv => whnf))
    refine And.intro (fun g4 => ?_) (fun g4 => ?_)
    · have g4 : rateB x.fail = false := by simpa using g4
      ((try dsimp only [awp]); (conv => whnf))
      refine And.intro (fun _ => ?_) (fun h => by exfalso; simp [g4] at h)
      obtain rfl : R = .int .i64 3 := by rw [hR, show firstR m = 3 from by exact bad 3 (by decide) (by unfold evErr; rw [if_neg g1, if_neg g2, if_neg g3, if_pos g4])]
      ((try dsimp only [awp]); (conv => whnf))
      (refine FinSpec.mono ?_; (conv => whnf); refine ⟨?_, rfl⟩; (conv => whnf))
      (repeat' first | exact rfl | exact trivial | exact HWk.refl rfl | exact leRL_refl _ | apply And.intro)
    have g4 : ¬ rateB x.fail = false := by simpa using g4
    ((try dsimp only [awp]); (conv => whnf))
    refine .pure _ _ ?_ ⟨rfl, rfl⟩ cr fun _ => ?_
    · exact leL_refl _
    ((try dsimp only [awp]); (conv => whnf))
    refine And.intro (fun g5 => ?_) (fun g5 => ?_)
    · have g5 : rateB x.repair = false := by simpa using g5
      ((try dsimp only [awp]); (conv => whnf))
      refine And.intro (fun _ => ?_) (fun h => by exfalso; simp [g5] at h)
      obtain rfl : R = .int .i64 3 := by rw [hR, show firstR m = 3 from by exact bad 3 (by decide) (by unfold evErr; rw [if_neg g1, if_neg g2, if_neg g3, if_neg g4, if_pos g5])]
      ((try dsimp only [awp]); (conv => whnf))
      (refine FinSpec.mono ?_; (conv => whnf); refine ⟨?_, rfl⟩; (conv => whnf))
      (repeat' first | exact rfl | exact trivial | exact HWk.refl rfl | exact leRL_refl _ | apply And.intro)
    have g5 : ¬ rateB x.repair = false := by simpa using g5
    ((try dsimp only [awp]); (conv => whnf))
    refine And.intro (fun g6 => ?_) (fun g6 => ?_)
    · ((try dsimp only [awp]); (conv => whnf))
      refine And.intro (fun _ => ?_) (fun h => by exfalso; exact h g6)
      obtain rfl : R = .int .i64 3 := by rw [hR, show firstR m = 3 from by exact bad 3 (by decide) (by unfold evErr; rw [if_neg g1, if_neg g2, if_neg g3, if_neg g4, if_neg g5, if_pos g6])]
      ((try dsimp only [awp]); (conv => whnf))
      (refine FinSpec.mono ?_; (conv => whnf); refine ⟨?_, rfl⟩; (conv => whnf))
      (repeat' first | exact rfl | exact trivial | exact HWk.refl rfl | exact leRL_refl _ | apply And.intro)
    ((try dsimp only [awp]); (conv => whnf))
    refine And.intro (fun g7 => ?_) (fun g7 => ?_)
    · obtain rfl : R = .int .i64 3 := by rw [hR, show firstR m = 3 from by exact bad 3 (by decide) (by unfold evErr; rw [if_neg g1, if_neg g2, if_neg g3, if_neg g4, if_neg g5, if_neg g6, if_pos g7])]
      ((try dsimp only [awp]); (conv => whnf))
      (refine FinSpec.mono ?_; (conv => whnf); refine ⟨?_, rfl⟩; (conv => whnf))
      (repeat' first | exact rfl | exact trivial | exact HWk.refl rfl | exact leRL_refl _ | apply And.intro)
    ((try dsimp only [awp]); (conv => whnf))
    (refine ⟨inr64 (by omega) (by omega), ?_⟩; (conv => whnf))
    refine ⟨i + 1, ?_, ?_, ?_⟩
    · exact ⟨hlt, by rw [hn, if_neg (by rw [show evErr m i x = 0 from by unfold evErr; rw [if_neg g1, if_neg g2, if_neg g3, if_neg g4, if_neg g5, if_neg g6, if_neg g7]]; simp)]⟩
    · refine ⟨?_, .mk ?_ ⟨by simp, trivial⟩⟩
      · (repeat' first | exact rfl | exact trivial | exact HWk.refl rfl | exact leRL_refl _ | apply And.intro)
      · (repeat' first | exact rfl | exact trivial | exact HWk.refl rfl | exact leRL_refl _ | apply And.intro)
    · omega
  have hil : i = m.evs.length := by have : ¬ i < m.evs.length := by simpa using h
                                    omega
  rw [errL_end (by omega)] at hn
  clear h
  subst hil
  have e1 : ¬ errL (evErr m) 0 m.evs ≠ 0 := by rw [hn]; simp
  ((try dsimp only [awp]); (conv => whnf))
  refine And.intro (fun n2 => ?_) (fun n2 => ?_)
  · have n2 : 16 < m.hs.length := by simp only [List.length_map] at n2; omega
    obtain rfl : R = .int .i64 4 := by rw [hR, show firstR m = 4 from by exact ofE 4 (by decide) (by unfold eventsErr; rw [if_neg n1, if_neg e1, if_pos n2])]
    ((try dsimp only [awp]); (conv => whnf))
    (refine FinSpec.mono ?_; (conv => whnf); refine ⟨?_, rfl⟩; (conv => whnf))
    (repeat' first | exact rfl | exact trivial | exact HWk.refl rfl | exact leRL_refl _ | apply And.intro)
  have n2 : ¬ 16 < m.hs.length := by simp only [List.length_map] at n2; omega
  clear hn hi
  ((try dsimp only [awp]); (conv => whnf))
  refine LoopE.of <| LoopSpec.inv (.refl _ _) (fun (i : Nat) => i ≤ m.hs.length ∧ errL (hsErr m) 0 m.hs = errL (hsErr m) i (m.hs.drop i)) (fun (i : Nat) => [(67, .int .i64 i)]) (fun _ => _) (fun (i : Nat) => m.hs.length - i) 0 ?_ (fun _ => rfl) ?_ ?_
  · exact ⟨Nat.zero_le _, rfl⟩
  · (repeat' first | exact rfl | exact trivial | exact HWk.refl rfl | exact leRL_refl _ | apply And.intro)
  rintro i ⟨hi, hn⟩ _
  ((try dsimp only [awp]); (conv => whnf))
  refine And.intro (fun h => ?_) (fun h => ?_)
  · have hlt : i < m.hs.length := by simpa using h
    rw [errL_step hlt] at hn
    have bad : ∀ e : Int, e ≠ 0 → hsErr m i m.hs[i] = e → firstR m = e := by
      intro e he h
      refine ofE e he ?_
      unfold eventsErr
      rw [h, if_pos he] at hn
      rw [if_neg n1, if_neg e1, if_neg n2, hn]
    ((try dsimp only [awp]); (conv => whnf))
    refine aidx hlt ?_
    generalize m.hs[i] = x at *
    ((try dsimp only [awp]); (conv => whnf))
    refine .pure _ _ ?_ ⟨rfl, rfl⟩ (c_Name21 x.name) fun _ => ?_
    · exact leL_refl _
    ((try dsimp only [awp]); (conv => whnf))
    refine And.intro (fun g1 => ?_) (fun g1 => ?_)
    · have g1 : nameR x.name = false := by simpa using g1
      obtain rfl : R = .int .i64 5 := by rw [hR, show firstR m = 5 from by exact bad 5 (by decide) (by unfold hsErr; rw [if_pos g1])]
      ((try dsimp only [awp]); (conv => whnf))
      (refine FinSpec.mono ?_; (conv => whnf); refine ⟨?_, rfl⟩; (conv => whnf))
      (repeat' first | exact rfl | exact trivial | exact HWk.refl rfl | exact leRL_refl _ | apply And.intro)
    have g1 : ¬ nameR x.name = false := by simpa using g1
    ((try dsimp only [awp]); (conv => whnf))
    refine .pure _ _ ?_ ⟨rfl, rfl⟩ (ce x.name) fun _ => ?_
    · exact leL_refl _
    ((try dsimp only [awp]); (conv => whnf))
    refine And.intro (fun g2 => ?_) (fun g2 => ?_)
    · ((try dsimp only [awp]); (conv => whnf))
      refine And.intro (fun _ => ?_) (fun h => by exfalso; exact h g2)
      obtain rfl : R = .int .i64 6 := by rw [hR, show firstR m = 6 from by exact bad 6 (by decide) (by unfold hsErr; rw [if_neg g1, if_pos g2])]
      ((try dsimp only [awp]); (conv => whnf))
      (refine FinSpec.mono ?_; (conv => whnf); refine ⟨?_, rfl⟩; (conv => whnf))
      (repeat' first | exact rfl | exact trivial | exact HWk.refl rfl | exact leRL_refl _ | apply And.intro)
    ((try dsimp only [awp]); (conv => whnf))
    refine .pure _ _ ?_ ⟨rfl, rfl⟩ (ch x.name) fun _ => ?_
    · exact leL_refl _
    ((try dsimp only [awp]); (conv => whnf))
    refine And.intro (fun g3 => ?_) (fun g3 => ?_)
    · obtain rfl : R = .int .i64 6 := by rw [hR, show firstR m = 6 from by exact bad 6 (by decide) (by unfold hsErr; rw [if_neg g1, if_neg g2, if_pos g3])]
      ((try dsimp only [awp]); (conv => whnf))
      (refine FinSpec.mono ?_; (conv => whnf); refine ⟨?_, rfl⟩; (conv => whnf))
      (repeat' first | exact rfl | exact trivial | exact HWk.refl rfl | exact leRL_refl _ | apply And.intro)
    ((try dsimp only [awp]); (conv => whnf))
    (refine ⟨inr64 (by omega) (by omega), ?_⟩; (conv => whnf))
    refine ⟨i + 1, ?_, ?_, ?_⟩
    · exact ⟨hlt, by rw [hn, if_neg (by rw [show hsErr m i x = 0 from by unfold hsErr; rw [if_neg g1, if_neg g2, if_neg g3]]; simp)]⟩
    · refine ⟨?_, .mk ?_ ⟨by simp, trivial⟩⟩
      · (repeat' first | exact rfl | exact trivial | exact HWk.refl rfl | exact leRL_refl _ | apply And.intro)
      · (repeat' first | exact rfl | exact trivial | exact HWk.refl rfl | exact leRL_refl _ | apply And.intro)
    · omega
  have hil : i = m.hs.length := by have : ¬ i < m.hs.length := by simpa using h
                                   omega
  rw [errL_end (by omega)] at hn
  have eE : eventsErr m = 0 := by unfold eventsErr; rw [if_neg n1, if_neg e1, if_neg n2, hn]
  have ofP : firstR m = pagesErr m := by unfold firstR; rw [if_neg g0, if_neg (by rw [eE]; simp)]
  clear h hn hi ofE
  ((try dsimp only [awp]); (conv => whnf))
  refine LoopE.of <| LoopSpec.inv (.refl _ _) (fun (i : Nat) => i ≤ m.pages.length) (fun (i : Nat) => [(96, .int .i64 i), (7, .int .i64 ((m.pages.take i).foldl (fun n x => n + x.gates.length) m.gates.length : Nat))]) (fun _ => _) (fun (i : Nat) => m.pages.length - i) 0 ?_ (fun _ => rfl) ?_ ?_
  · exact Nat.zero_le _
  · (repeat' first | exact rfl | exact trivial | exact HWk.refl rfl | exact leRL_refl _ | apply And.intro)
    simp
  rintro i hi _
  ((try dsimp only [awp]); (conv => whnf))
  refine And.intro (fun h => ?_) (fun h => ?_)
  · have hlt : i < m.pages.length := by simpa using h
    have hs := foldl_take (f := fun (n : Nat) (x : Pg) => n + x.gates.length) (s := m.gates.length) hlt
    have hb := total_le (m.pages.take i) m.gates.length fun p hp => (hB.pgates p (List.mem_of_mem_take hp)).1
    rw [List.length_take] at hb
    have hx := (hB.pgates _ (List.getElem_mem hlt)).1
    generalize (m.pages.take i).foldl (fun n x => n + x.gates.length) m.gates.length = y at *
    ((try dsimp only [awp]); (conv => whnf))
    refine aidx hlt ?_
    generalize m.pages[i] = x at *
    ((try dsimp only [awp]); (conv => whnf))
    refine ⟨inr64 (by simp; omega) (by simp; omega), ?_⟩
    ((try dsimp only [awp]); (conv => whnf))
    (refine ⟨inr64 (by omega) (by omega), ?_⟩; (conv => whnf))
    refine ⟨i + 1, ?_, ?_, ?_⟩
    · exact hlt
    · rw [hs]
      refine ⟨?_, .mk ?_ ⟨by simp, trivial⟩⟩
      · (repeat' first | exact rfl | exact trivial | exact HWk.refl rfl | exact leRL_refl _ | apply And.intro)
        simp
      · (repeat' first | exact rfl | exact trivial | exact HWk.refl rfl | exact leRL_refl _ | apply And.intro)
    · omega
  have hil : i = m.pages.length := by have : ¬ i < m.pages.length := by simpa using h
                                      omega
  subst hil
  rw [List.take_length, show m.pages.foldl (fun n x => n + x.gates.length) m.gates.length = totalM m from rfl]
  ((try dsimp only [awp]); (conv => whnf))
  refine And.intro (fun p1 => ?_) (fun p1 => ?_)
  · have p1 : 8 < m.pages.length := by simp only [List.length_map] at p1; omega
    obtain rfl : R = .int .i64 4 := by rw [hR, show firstR m = 4 from by rw [ofP]; unfold pagesErr; rw [if_pos p1]]
    ((try dsimp only [awp]); (conv => whnf))
    (refine FinSpec.mono ?_; (conv => whnf); refine ⟨?_, rfl⟩; (conv => whnf))
    (repeat' first | exact rfl | exact trivial | exact HWk.refl rfl | exact leRL_refl _ | apply And.intro)
  have p1 : ¬ 8 < m.pages.length := by simp only [List.length_map] at p1; omega
  ((try dsimp only [awp]); (conv => whnf))
  refine And.intro (fun p2 => ?_) (fun p2 => ?_)
  · have p2 : 64 < totalM m := by omega
    obtain rfl : R = .int .i64 4 := by rw [hR, show firstR m = 4 from by rw [ofP]; unfold pagesErr; rw [if_neg p1, if_pos p2]]
    ((try dsimp only [awp]); (conv => whnf))
    (refine FinSpec.mono ?_; (conv => whnf); refine ⟨?_, rfl⟩; (conv => whnf))
    (repeat' first | exact rfl | exact trivial | exact HWk.refl rfl | exact leRL_refl _ | apply And.intro)
  have p2 : ¬ 64 < totalM m := by omega
  clear hi h
  ((try dsimp only [awp]); (conv => whnf))
  refine LoopE.of <| LoopSpec.inv (.refl _ _) (fun (i : Nat) => i ≤ m.pages.length ∧ errL (pgErr m) 0 m.pages = errL (pgErr m) i (m.pages.drop i)) (fun (i : Nat) => [(117, .int .i64 i)]) (fun _ => _) (fun (i : Nat) => m.pages.length - i) 0 ?_ (fun _ => rfl) ?_ ?_
  · exact ⟨Nat.zero_le _, rfl⟩
  · (repeat' first | exact rfl | exact trivial | exact HWk.refl rfl | exact leRL_refl _ | apply And.intro)
  rintro i ⟨hi, hn⟩ _
  ((try dsimp only [awp]); (conv => whnf))
  refine And.intro (fun h => ?_) (fun h => ?_)
  · have hlt : i < m.pages.length := by simpa using h
    rw [errL_step hlt] at hn
    have bad : ∀ e : Int, e ≠ 0 → pgErr m i m.pages[i] = e → firstR m = e := by
      intro e he h
      rw [ofP]
      unfold pagesErr
      rw [h, if_pos he] at hn
      rw [if_neg p1, if_neg p2, hn]
    ((try dsimp only [awp]); (conv => whnf))
    refine aidx hlt ?_
    generalize m.pages[i] = x at *
    ((try dsimp only [awp]); (conv => whnf))
    refine .pure _ _ ?_ ⟨rfl, rfl⟩ (c_Name21 x.name) fun _ => ?_
    · exact leL_refl _
    ((try dsimp only [awp]); (conv => whnf))
    refine And.intro (fun g1 => ?_) (fun g1 => ?_)
    · have g1 : nameR x.name = false := by simpa using g1
      obtain rfl : R = .int .i64 5 := by rw [hR, show firstR m = 5 from by exact bad 5 (by decide) (by unfold pgErr; rw [if_pos g1])]
      ((try dsimp only [awp]); (conv => whnf))
      (refine FinSpec.mono ?_; (conv => whnf); refine ⟨?_, rfl⟩; (conv => whnf))
      (repeat' first | exact rfl | exact trivial | exact HWk.refl rfl | exact leRL_refl _ | apply And.intro)
    have g1 : ¬ nameR x.name = false := by simpa using g1
    ((try dsimp only [awp]); (conv => whnf))
    refine .pure _ _ ?_ ⟨rfl, rfl⟩ (cp x.name) fun _ => ?_
    · exact leL_refl _
    ((try dsimp only [awp]); (conv => whnf))
    refine And.intro (fun g2 => ?_) (fun g2 => ?_)
    · obtain rfl : R = .int .i64 6 := by rw [hR, show firstR m = 6 from by exact bad 6 (by decide) (by unfold pgErr; rw [if_neg g1, if_pos g2])]
      ((try dsimp only [awp]); (conv => whnf))
      (refine FinSpec.mono ?_; (conv => whnf); refine ⟨?_, rfl⟩; (conv => whnf))
      (repeat' first | exact rfl | exact trivial | exact HWk.refl rfl | exact leRL_refl _ | apply And.intro)
    ((try dsimp only [awp]); (conv => whnf))
    (refine ⟨inr64 (by omega) (by omega), ?_⟩; (conv => whnf))
    refine ⟨i + 1, ?_, ?_, ?_⟩
    · exact ⟨hlt, by rw [hn, if_neg (by rw [show pgErr m i x = 0 from by unfold pgErr; rw [if_neg g1, if_neg g2]]; simp)]⟩
    · refine ⟨?_, .mk ?_ ⟨by simp, trivial⟩⟩
      · (repeat' first | exact rfl | exact trivial | exact HWk.refl rfl | exact leRL_refl _ | apply And.intro)
      · (repeat' first | exact rfl | exact trivial | exact HWk.refl rfl | exact leRL_refl _ | apply And.intro)
    · omega
  have hil : i = m.pages.length := by have : ¬ i < m.pages.length := by simpa using h
                                      omega
  rw [errL_end (by omega)] at hn
  obtain rfl : R = .int .i64 0 := by rw [hR, show firstR m = 0 from by rw [ofP]; unfold pagesErr; rw [if_neg p1, if_neg p2, hn]]
  ((try dsimp only [awp]); (conv => whnf))
  (refine FinSpec.mono ?_; (conv => whnf); refine ⟨?_, rfl⟩; (conv => whnf))
  (repeat' first | exact rfl | exact trivial | exact HWk.refl rfl | exact leRL_refl _ | apply And.intro)

theorem c_bounds22 (k : Int) (R : AV) (hR : R = .tup [.int .i64 (boundsR k).1, .int .i64 (boundsR k).2]) : FnH Tryz.prog 145 [.int .i64 k] [] R [] := by
  obtain ⟨x, hx⟩ : ∃ x, boundsR k = x := ⟨_, rfl⟩
  rw [hx] at hR
  subst hR
  refine FnH.intro lay mixed Tryz.func145 (by kernel_rfl) rfl (by kernel_rfl) rfl fun hok => ?_
  ((try dsimp only [argC, succC]); (try dsimp only [awp]); (conv => whnf))
  repeat' (first | (refine And.intro (fun _ => ?_) (fun _ => ?_) <;> ((try dsimp only [awp]); (conv => whnf))))
  all_goals
    (refine FinSpec.mono ?_; (conv => whnf); refine ⟨?_, rfl⟩; (conv => whnf))
    try simp_all [boundsR]
  all_goals
    subst hx
    (repeat' first | exact rfl | exact trivial | exact HWk.refl rfl | exact leRL_refl _ | apply And.intro)
end S

open Go Go.AL Go.Proofs
namespace S
set_option maxRecDepth 100000

end S

open Go Go.AL Go.Proofs
namespace S
set_option maxRecDepth 100000

end S

open Go Go.AL Go.Proofs
namespace S
set_option maxRecDepth 100000

end S

open Go Go.AL Go.Proofs
namespace S
set_option maxRecDepth 100000

end S

open Go Go.AL Go.Proofs
namespace S
set_option maxRecDepth 100000

end S

open Go Go.AL Go.Proofs
namespace S
set_option maxRecDepth 100000

theorem bounds_zero (k : Int) : (boundsR k).2 = 0 ↔ (k < 0 ∨ 8 < k) := by
  unfold boundsR
  split
  · constructor
    · intro h; cases h
    · intro h; omega
  split
  · constructor
    · intro h; cases h
    · intro h; omega
  split
  · constructor
    · intro h; cases h
    · intro h; omega
  split
  · constructor
    · intro h; cases h
    · intro h; omega
  · constructor
    · intro _; omega
    · intro _; rfl

theorem bounds_args {k n : Int} (h : (boundsR k).2 ≠ 0) : argsR k n = (decide ((boundsR k).1 ≤ n) && decide (n ≤ (boundsR k).2)) := by
  have h0 : ¬ (k < 0 ∨ 8 < k) := fun e => h ((bounds_zero k).2 e)
  unfold boundsR at *
  unfold argsR
  by_cases h3 : k = 3
  · subst h3; rw [Bool.eq_iff_iff]; simp; omega
  rw [if_neg h3]
  by_cases h5 : k = 5
  · subst h5; rw [Bool.eq_iff_iff]; simp; omega
  rw [if_neg h5]
  by_cases h6 : k = 6 ∨ k = 7 ∨ k = 8
  · rw [if_pos h6, if_neg (by omega), if_neg h3, if_neg h5, if_pos h6]
    simp
  · rw [if_neg h6, if_pos (by omega)]
    simp

end S
