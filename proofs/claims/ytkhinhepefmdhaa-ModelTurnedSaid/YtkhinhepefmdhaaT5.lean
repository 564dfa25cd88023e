/-
  Contracts of functions of the program, over the logic of the texts before. Nothing is assumed.
-/
import Derived.Test.YtkhinhepefmdhaaT4

open Go Go.AL Go.Proofs
namespace S
set_option maxRecDepth 100000

abbrev shN : AV := .ag [.int .i64 0, .int .i64 0, .int .i64 0]

theorem drop_of_get? {α : Type} {l : List α} {j : Nat} {y : α} (h : l[j]? = some y) : l.drop j = y :: l.drop (j + 1) := by
  obtain ⟨h1, rfl⟩ := List.getElem?_eq_some_iff.1 h
  exact List.drop_eq_getElem_cons h1

def gateAt (m : Md) (x : Node) : Mg := (gatesM m x.2.1).getD x.2.2.toNat default
def kidsM (m : Md) (x : Node) : List Node := (gateAt m x).ins.map (resR m x.2.1)

/-- What is known of a thing. -/
structure NodeOk (m : Md) (all : List Node) (ok : Node → Prop) (x : Node) : Prop where
  page : x.2.1 = -1 ∨ (0 ≤ x.2.1 ∧ x.2.1 < (m.pages.length : Int))
  idx : 0 ≤ x.2.2 ∧ x.2.2 < ((gatesM m x.2.1).length : Int)
  mem : x ∈ all
  len : (gateAt m x).ins.length ≤ 40
  ins : ∀ s ∈ (gateAt m x).ins, 0 < s.length ∧ (atS s = true → 0 ≤ i_page m.pages (s.drop 1)) ∧ ok (resR m x.2.1 s)

theorem encM_bnd (n : Nat) : ∀ es : Marks, bndM n (encM es) = true
  | [] => rfl
  | _ :: es => by
    show (match true, true with | true, true => bndM n (encM es) | _, _ => false) = true
    exact encM_bnd n es

theorem encM_rn (f : Nat → Nat) : ∀ es : Marks, rnM f (encM es) = encM es
  | [] => rfl
  | _ :: es => by
    show _ :: rnM f (encM es) = _ :: encM es
    rw [encM_rn f es]; rfl

theorem leM_rn (f : Nat → Nat) (es : Marks) : leM (encM es) (rnM f (encM es)) := by rw [encM_rn]; exact leM_refl _
theorem leM_nr (f : Nat → Nat) (es : Marks) : leM (rnM f (encM es)) (encM es) := by rw [encM_rn]; exact leM_refl _



abbrev hpA {σ : Type} (O : σ → AV) (s : WS σ) (_ : Md) : Heap := [(1, .amap shN (encM s.es)), (0, .box (O s.st))]
abbrev ehA {σ : Type} (O : σ → AV) (st : σ) (_ : Md) : Heap := [(0, .box (O st))]

abbrev hpB {σ : Type} (O : σ → AV) (s : WS σ) (m : Md) : Heap := [(2, .amap shN (encM s.es)), (1, .box (O s.st)), (0, .box m.av)]
abbrev ehB {σ : Type} (O : σ → AV) (st : σ) (m : Md) : Heap := [(1, .box (O st)), (0, .box m.av)]

theorem c_walkA {σ : Type} (m : Md) (g : Nat) (O : σ → AV) (hO : ∀ st n, bndB n (O st) = true) (hrn : ∀ st f, rnV f (O st) = O st) (step : σ → Node → σ) (all : List Node) (ok : Node → Prop) (hN : ∀ x, ok x → x.1 = 2 → NodeOk m all ok x)
    (hE : ∀ st x, ok x → FnH Try.prog g (nAV x :: [.ptr 0 [] 0]) (ehA O st m) (.tup []) (ehA O (step st x) m)) :
    ∀ (n : Nat) (x : Node) (s : WS σ), ok x → free all s.es < n → FnH Try.prog 62 [m.av, nAV x, .mp 1, .fn g [.ptr 0 [] 0]] (hpA O s m) (.bool (walkF (kidsM m) step n x s).1) (hpA O (walkF (kidsM m) step n x s).2 m) := by
  have hle0 : ∀ st f, le0 (O st) (rnV f (O st)) := fun st f => by rw [hrn]; exact le0_refl _
  have hle1 : ∀ st f, le0 (rnV f (O st)) (O st) := fun st f => by rw [hrn]; exact le0_refl _
  intro n
  induction n with
  | zero => intro x s _ h; omega
  | succ n ih =>
    intro x s hx hf
    refine FnH.intro lay mixed Try.func62 (by kernel_rfl) rfl (by kernel_rfl) rfl fun hok => ?_
    ((try dsimp only [argC, succC]); (try dsimp only [awp]); (conv => whnf))
    refine And.intro (fun h1 => ?_) (fun h1 => ?_)
    · have e : walkF (kidsM m) step (n + 1) x s = (false, ⟨s.es, step s.st x⟩) := by simp only [walkF]; rw [if_pos h1]
      rw [e]
      ((try dsimp only [awp]); (conv => whnf))
      refine .gen _ _ (FnH.frame [0] (hE s.st x hx) ⟨rfl, rfl, rfl, rfl⟩ ?_ ?_) fun _ => ?_
      · (repeat' (first | exact rfl | exact trivial | exact HWk.refl rfl | exact leRL_refl _ | (refine And.intro ?_ ?_)))
        all_goals first | exact hle0 _ _ | exact hO _ _
      · (repeat' (first | exact rfl | exact trivial | exact HWk.refl rfl | exact leRL_refl _ | (refine And.intro ?_ ?_)))
      ((try dsimp only [awp]); (conv => whnf))
      refine ⟨⟨_, _, .refl _ _, ?_⟩⟩
      (conv => whnf)
      refine ⟨rfl, rfl, by simp [nextId], .mk ?_ ?_⟩
      · (repeat' (first | exact rfl | exact trivial | exact HWk.refl rfl | exact leRL_refl _ | (refine And.intro ?_ ?_)))
        all_goals first | exact hle0 _ _ | exact hle1 _ _ | exact hO _ _ | exact leM_refl _ | exact leM_nr _ _ | exact encM_bnd _ _ | exact le0_refl _
      · simp [idsOk]
    have hk : x.1 = 2 := by omega
    obtain ⟨hpg, hix, hmem, hil, hins⟩ := hN x hx hk
    have cG := c_gatesOf m x.2.1 hpg
    have hwf : walkF (kidsM m) step (n + 1) x s = if look s.es x = 1 then (true, s) else if look s.es x = 2 then (false, s)
        else if (kidsF (walkF (kidsM m) step n) (kidsM m x) ⟨mark s.es x 1, step s.st x⟩).1 = true then kidsF (walkF (kidsM m) step n) (kidsM m x) ⟨mark s.es x 1, step s.st x⟩
        else (false, ⟨mark (kidsF (walkF (kidsM m) step n) (kidsM m x) ⟨mark s.es x 1, step s.st x⟩).2.es x 2, (kidsF (walkF (kidsM m) step n) (kidsM m x) ⟨mark s.es x 1, step s.st x⟩).2.st⟩) := by
      simp only [walkF]; rw [if_neg h1]
    ((try dsimp only [awp]); (conv => whnf))
    refine alook_es ?_
    ((try dsimp only [awp]); (conv => whnf))
    refine And.intro (fun h2 => ?_) (fun h2 => ?_)
    · rw [if_pos h2] at hwf
      rw [hwf]
      ((try dsimp only [awp]); (conv => whnf))
      refine ⟨⟨_, _, .refl _ _, ?_⟩⟩
      (conv => whnf)
      refine ⟨rfl, rfl, by simp [nextId], .mk ?_ ?_⟩
      · (repeat' (first | exact rfl | exact trivial | exact HWk.refl rfl | exact leRL_refl _ | (refine And.intro ?_ ?_)))
        all_goals first | exact hle0 _ _ | exact hle1 _ _ | exact hO _ _ | exact leM_refl _ | exact leM_nr _ _ | exact encM_bnd _ _ | exact le0_refl _
      · simp [idsOk]
    rw [if_neg h2] at hwf
    ((try dsimp only [awp]); (conv => whnf))
    refine And.intro (fun h3 => ?_) (fun h3 => ?_)
    · rw [if_pos h3] at hwf
      rw [hwf]
      ((try dsimp only [awp]); (conv => whnf))
      refine ⟨⟨_, _, .refl _ _, ?_⟩⟩
      (conv => whnf)
      refine ⟨rfl, rfl, by simp [nextId], .mk ?_ ?_⟩
      · (repeat' (first | exact rfl | exact trivial | exact HWk.refl rfl | exact leRL_refl _ | (refine And.intro ?_ ?_)))
        all_goals first | exact hle0 _ _ | exact hle1 _ _ | exact hO _ _ | exact leM_refl _ | exact leM_nr _ _ | exact encM_bnd _ _ | exact le0_refl _
      · simp [idsOk]
    rw [if_neg h3] at hwf
    ((try dsimp only [awp]); (conv => whnf))
    refine aupd_es ?_
    ((try dsimp only [awp]); (conv => whnf))
    refine .gen _ _ (FnH.frame [0] (hE s.st x hx) ⟨rfl, rfl, rfl, rfl⟩ ?_ ?_) fun _ => ?_
    · (repeat' (first | exact rfl | exact trivial | exact HWk.refl rfl | exact leRL_refl _ | (refine And.intro ?_ ?_)))
      all_goals first | exact hle0 _ _ | exact hO _ _
    · (repeat' (first | exact rfl | exact trivial | exact HWk.refl rfl | exact leRL_refl _ | (refine And.intro ?_ ?_)))
    ((try dsimp only [awp]); (conv => whnf))
    (refine ADraw.auto (by kernel_rfl) ?_; (conv => whnf))
    refine ACallP.pure _ _ ?_ ⟨rfl, rfl⟩ cG ?_
    · (repeat' (first | exact rfl | exact trivial | exact HWk.refl rfl | exact leRL_refl _ | (refine And.intro ?_ ?_)))
    ((try dsimp only [awp]); (conv => whnf))
    refine aidxD default hix ?_
    have hga : (gatesM m x.2.1).getD x.2.2.toNat default = gateAt m x := rfl
    rw [hga]
    have hlt0 := free_lt (all := all) (v := 1) hmem h2 h3 (.inl rfl)
    generalize hS1 : (⟨mark s.es x 1, step s.st x⟩ : WS σ) = S1 at *
    have hS1e : S1.es = mark s.es x 1 := by rw [← hS1]
    have hS1s : S1.st = step s.st x := by rw [← hS1]
    rw [← hS1e] at hlt0
    have hKl : (kidsM m x).length = (gateAt m x).ins.length := by simp [kidsM]
    have hKj : ∀ (j : Nat) (h : j < (gateAt m x).ins.length), (kidsM m x)[j]? = some (resR m x.2.1 (gateAt m x).ins[j]) := fun j h => by simp [kidsM, h]
    generalize gateAt m x = gt at *
    generalize hW : walkF (kidsM m) step n = W at *
    generalize kidsM m x = K at *
    ((try dsimp only [awp]); (conv => whnf))
    refine LoopE.of <| LoopSpec.inv (.refl _ _) (fun (q : Nat × WS σ) => q.1 ≤ gt.ins.length ∧ kidsF W K S1 = kidsF W (K.drop q.1) q.2 ∧ MLe S1.es q.2.es)
      (fun q => [(39, .int .i64 q.1)]) (fun q => (3, .box (nAV x)) :: (2, .box m.av) :: hpA O q.2 m) (fun q => gt.ins.length - q.1) (0, S1) ?_ (fun _ => rfl) ?_ ?_
    · exact ⟨Nat.zero_le _, rfl, .refl _⟩
    · refine ⟨?_, .mk ?_ ?_⟩
      · (repeat' (first | exact rfl | exact trivial | exact HWk.refl rfl | exact leRL_refl _ | (refine And.intro ?_ ?_)))
      · (repeat' (first | exact rfl | exact trivial | exact HWk.refl rfl | exact leRL_refl _ | (refine And.intro ?_ ?_)))
        all_goals first | (rw [hS1e]; exact leM_refl _) | (rw [hS1s]; exact hle1 _ _) | exact hO _ _ | exact encM_bnd _ _
      · simp [idsOk]
    rintro ⟨j, sj⟩ ⟨hj, hn, hle⟩ _
    dsimp only at hj hn hle
    ((try dsimp only [awp]); (conv => whnf))
    refine And.intro (fun hh => ?_) (fun hh => ?_)
    · have hjl : j < gt.ins.length := by simpa using hh
      have hfr := free_le (all := all) hle
      obtain ⟨i1, i2, i3⟩ := hins _ (List.getElem_mem hjl)
      rw [drop_of_get? (hKj j hjl)] at hn
      simp only [kidsF] at hn
      have cr := c_resolve m x.2.1 gt.ins[j] i1 hpg i2
      have cw := ih (resR m x.2.1 gt.ins[j]) sj i3 (by omega)
      have hml := walkF_mle (kids := kidsM m) (step := step) n (resR m x.2.1 gt.ins[j]) sj
      rw [hW] at hml
      ((try dsimp only [awp]); (conv => whnf))
      refine aidx hjl ?_
      generalize resR m x.2.1 gt.ins[j] = y at *
      generalize W y sj = r at *
      obtain ⟨rb, rs⟩ := r
      dsimp only at hn cw hml
      ((try dsimp only [awp]); (conv => whnf))
      refine ADraw.mk ⟨[false, false, true, false, true, true, true, true, false], by kernel_rfl, ?_⟩
      (conv => whnf)
      refine ACallP.pure _ _ ?_ ⟨rfl, rfl⟩ cr ?_
      · (repeat' (first | exact rfl | exact trivial | exact HWk.refl rfl | exact leRL_refl _ | (refine And.intro ?_ ?_)))
      ((try dsimp only [awp]); (conv => whnf))
      refine .gen _ _ (FnH.frame [0, 1] cw ⟨rfl, rfl, rfl, rfl⟩ ?_ ?_) fun _ => ?_
      · (repeat' (first | exact rfl | exact trivial | exact HWk.refl rfl | exact leRL_refl _ | (refine And.intro ?_ ?_)))
        all_goals first | exact leM_rn _ _ | exact hle0 _ _ | exact hO _ _ | exact encM_bnd _ _
      · (repeat' (first | exact rfl | exact trivial | exact HWk.refl rfl | exact leRL_refl _ | (refine And.intro ?_ ?_)))
      ((try dsimp only [awp]); (conv => whnf))
      refine And.intro (fun hb => ?_) (fun hb => ?_)
      · rw [if_pos hb] at hn
        rw [hn, if_pos hb] at hwf
        rw [hwf, hb]
        ((try dsimp only [awp]); (conv => whnf))
        refine ⟨⟨_, _, .refl _ _, ?_⟩⟩
        (conv => whnf)
        refine ⟨rfl, rfl, by simp [nextId], .mk ?_ ?_⟩
        · (repeat' (first | exact rfl | exact trivial | exact HWk.refl rfl | exact leRL_refl _ | (refine And.intro ?_ ?_)))
          all_goals first | exact hle0 _ _ | exact hle1 _ _ | exact hO _ _ | exact leM_refl _ | exact leM_nr _ _ | exact encM_bnd _ _ | exact le0_refl _
        · simp [idsOk]
      · rw [if_neg (by rw [hb]; simp)] at hn
        ((try dsimp only [awp]); (conv => whnf))
        (refine ⟨inr64 (by omega) (by omega), ?_⟩; (conv => whnf))
        refine ⟨(j + 1, rs), ?_, ?_, ?_⟩
        · exact ⟨hjl, hn, hle.trans hml⟩
        · refine ⟨?_, .mk ?_ ?_⟩
          · (repeat' (first | exact rfl | exact trivial | exact HWk.refl rfl | exact leRL_refl _ | (refine And.intro ?_ ?_)))
          · (repeat' (first | exact rfl | exact trivial | exact HWk.refl rfl | exact leRL_refl _ | (refine And.intro ?_ ?_)))
            all_goals first | exact leM_nr _ _ | exact hle1 _ _ | exact hO _ _ | exact encM_bnd _ _
          · simp [idsOk]
        · show gt.ins.length - (j + 1) < gt.ins.length - j
          omega
    · have hjl : K.length ≤ j := by have : ¬ j < gt.ins.length := by simpa using hh
                                    omega
      rw [List.drop_eq_nil_of_le hjl] at hn
      simp only [kidsF] at hn
      rw [hn, if_neg (by simp)] at hwf
      rw [hwf]
      ((try dsimp only [awp]); (conv => whnf))
      refine aupd_es ?_
      ((try dsimp only [awp]); (conv => whnf))
      refine ⟨⟨_, _, .refl _ _, ?_⟩⟩
      (conv => whnf)
      refine ⟨rfl, rfl, by simp [nextId], .mk ?_ ?_⟩
      · (repeat' (first | exact rfl | exact trivial | exact HWk.refl rfl | exact leRL_refl _ | (refine And.intro ?_ ?_)))
        all_goals first | exact hle0 _ _ | exact hle1 _ _ | exact hO _ _ | exact leM_refl _ | exact leM_nr _ _ | exact encM_bnd _ _ | exact le0_refl _
      · simp [idsOk]
theorem c_walkB {σ : Type} (m : Md) (g : Nat) (O : σ → AV) (hO : ∀ st n, bndB n (O st) = true) (hrn : ∀ st f, rnV f (O st) = O st) (step : σ → Node → σ) (all : List Node) (ok : Node → Prop) (hN : ∀ x, ok x → x.1 = 2 → NodeOk m all ok x)
    (hE : ∀ st x, ok x → FnH Try.prog g (nAV x :: [.ptr 1 [] 0, .ptr 0 [] 0]) (ehB O st m) (.tup []) (ehB O (step st x) m)) :
    ∀ (n : Nat) (x : Node) (s : WS σ), ok x → free all s.es < n → FnH Try.prog 62 [m.av, nAV x, .mp 2, .fn g [.ptr 1 [] 0, .ptr 0 [] 0]] (hpB O s m) (.bool (walkF (kidsM m) step n x s).1) (hpB O (walkF (kidsM m) step n x s).2 m) := by
  have hle0 : ∀ st f, le0 (O st) (rnV f (O st)) := fun st f => by rw [hrn]; exact le0_refl _
  have hle1 : ∀ st f, le0 (rnV f (O st)) (O st) := fun st f => by rw [hrn]; exact le0_refl _
  intro n
  induction n with
  | zero => intro x s _ h; omega
  | succ n ih =>
    intro x s hx hf
    refine FnH.intro lay mixed Try.func62 (by kernel_rfl) rfl (by kernel_rfl) rfl fun hok => ?_
    ((try dsimp only [argC, succC]); (try dsimp only [awp]); (conv => whnf))
    refine And.intro (fun h1 => ?_) (fun h1 => ?_)
    · have e : walkF (kidsM m) step (n + 1) x s = (false, ⟨s.es, step s.st x⟩) := by simp only [walkF]; rw [if_pos h1]
      rw [e]
      ((try dsimp only [awp]); (conv => whnf))
      refine .gen _ _ (FnH.frame [0, 1] (hE s.st x hx) ⟨rfl, rfl, rfl, rfl⟩ ?_ ?_) fun _ => ?_
      · (repeat' (first | exact rfl | exact trivial | exact HWk.refl rfl | exact leRL_refl _ | (refine And.intro ?_ ?_)))
        all_goals first | exact hle0 _ _ | exact hO _ _
      · (repeat' (first | exact rfl | exact trivial | exact HWk.refl rfl | exact leRL_refl _ | (refine And.intro ?_ ?_)))
      ((try dsimp only [awp]); (conv => whnf))
      refine ⟨⟨_, _, .refl _ _, ?_⟩⟩
      (conv => whnf)
      refine ⟨rfl, rfl, by simp [nextId], .mk ?_ ?_⟩
      · (repeat' (first | exact rfl | exact trivial | exact HWk.refl rfl | exact leRL_refl _ | (refine And.intro ?_ ?_)))
        all_goals first | exact hle0 _ _ | exact hle1 _ _ | exact hO _ _ | exact leM_refl _ | exact leM_nr _ _ | exact encM_bnd _ _ | exact le0_refl _
      · simp [idsOk]
    have hk : x.1 = 2 := by omega
    obtain ⟨hpg, hix, hmem, hil, hins⟩ := hN x hx hk
    have cG := c_gatesOf m x.2.1 hpg
    have hwf : walkF (kidsM m) step (n + 1) x s = if look s.es x = 1 then (true, s) else if look s.es x = 2 then (false, s)
        else if (kidsF (walkF (kidsM m) step n) (kidsM m x) ⟨mark s.es x 1, step s.st x⟩).1 = true then kidsF (walkF (kidsM m) step n) (kidsM m x) ⟨mark s.es x 1, step s.st x⟩
        else (false, ⟨mark (kidsF (walkF (kidsM m) step n) (kidsM m x) ⟨mark s.es x 1, step s.st x⟩).2.es x 2, (kidsF (walkF (kidsM m) step n) (kidsM m x) ⟨mark s.es x 1, step s.st x⟩).2.st⟩) := by
      simp only [walkF]; rw [if_neg h1]
    ((try dsimp only [awp]); (conv => whnf))
    refine alook_es ?_
    ((try dsimp only [awp]); (conv => whnf))
    refine And.intro (fun h2 => ?_) (fun h2 => ?_)
    · rw [if_pos h2] at hwf
      rw [hwf]
      ((try dsimp only [awp]); (conv => whnf))
      refine ⟨⟨_, _, .refl _ _, ?_⟩⟩
      (conv => whnf)
      refine ⟨rfl, rfl, by simp [nextId], .mk ?_ ?_⟩
      · (repeat' (first | exact rfl | exact trivial | exact HWk.refl rfl | exact leRL_refl _ | (refine And.intro ?_ ?_)))
        all_goals first | exact hle0 _ _ | exact hle1 _ _ | exact hO _ _ | exact leM_refl _ | exact leM_nr _ _ | exact encM_bnd _ _ | exact le0_refl _
      · simp [idsOk]
    rw [if_neg h2] at hwf
    ((try dsimp only [awp]); (conv => whnf))
    refine And.intro (fun h3 => ?_) (fun h3 => ?_)
    · rw [if_pos h3] at hwf
      rw [hwf]
      ((try dsimp only [awp]); (conv => whnf))
      refine ⟨⟨_, _, .refl _ _, ?_⟩⟩
      (conv => whnf)
      refine ⟨rfl, rfl, by simp [nextId], .mk ?_ ?_⟩
      · (repeat' (first | exact rfl | exact trivial | exact HWk.refl rfl | exact leRL_refl _ | (refine And.intro ?_ ?_)))
        all_goals first | exact hle0 _ _ | exact hle1 _ _ | exact hO _ _ | exact leM_refl _ | exact leM_nr _ _ | exact encM_bnd _ _ | exact le0_refl _
      · simp [idsOk]
    rw [if_neg h3] at hwf
    ((try dsimp only [awp]); (conv => whnf))
    refine aupd_es ?_
    ((try dsimp only [awp]); (conv => whnf))
    refine .gen _ _ (FnH.frame [0, 1] (hE s.st x hx) ⟨rfl, rfl, rfl, rfl⟩ ?_ ?_) fun _ => ?_
    · (repeat' (first | exact rfl | exact trivial | exact HWk.refl rfl | exact leRL_refl _ | (refine And.intro ?_ ?_)))
      all_goals first | exact hle0 _ _ | exact hO _ _
    · (repeat' (first | exact rfl | exact trivial | exact HWk.refl rfl | exact leRL_refl _ | (refine And.intro ?_ ?_)))
    ((try dsimp only [awp]); (conv => whnf))
    (refine ADraw.auto (by kernel_rfl) ?_; (conv => whnf))
    refine ACallP.pure _ _ ?_ ⟨rfl, rfl⟩ cG ?_
    · (repeat' (first | exact rfl | exact trivial | exact HWk.refl rfl | exact leRL_refl _ | (refine And.intro ?_ ?_)))
    ((try dsimp only [awp]); (conv => whnf))
    refine aidxD default hix ?_
    have hga : (gatesM m x.2.1).getD x.2.2.toNat default = gateAt m x := rfl
    rw [hga]
    have hlt0 := free_lt (all := all) (v := 1) hmem h2 h3 (.inl rfl)
    generalize hS1 : (⟨mark s.es x 1, step s.st x⟩ : WS σ) = S1 at *
    have hS1e : S1.es = mark s.es x 1 := by rw [← hS1]
    have hS1s : S1.st = step s.st x := by rw [← hS1]
    rw [← hS1e] at hlt0
    have hKl : (kidsM m x).length = (gateAt m x).ins.length := by simp [kidsM]
    have hKj : ∀ (j : Nat) (h : j < (gateAt m x).ins.length), (kidsM m x)[j]? = some (resR m x.2.1 (gateAt m x).ins[j]) := fun j h => by simp [kidsM, h]
    generalize gateAt m x = gt at *
    generalize hW : walkF (kidsM m) step n = W at *
    generalize kidsM m x = K at *
    ((try dsimp only [awp]); (conv => whnf))
    refine LoopE.of <| LoopSpec.inv (.refl _ _) (fun (q : Nat × WS σ) => q.1 ≤ gt.ins.length ∧ kidsF W K S1 = kidsF W (K.drop q.1) q.2 ∧ MLe S1.es q.2.es)
      (fun q => [(39, .int .i64 q.1)]) (fun q => (4, .box (nAV x)) :: (3, .box m.av) :: hpB O q.2 m) (fun q => gt.ins.length - q.1) (0, S1) ?_ (fun _ => rfl) ?_ ?_
    · exact ⟨Nat.zero_le _, rfl, .refl _⟩
    · refine ⟨?_, .mk ?_ ?_⟩
      · (repeat' (first | exact rfl | exact trivial | exact HWk.refl rfl | exact leRL_refl _ | (refine And.intro ?_ ?_)))
      · (repeat' (first | exact rfl | exact trivial | exact HWk.refl rfl | exact leRL_refl _ | (refine And.intro ?_ ?_)))
        all_goals first | (rw [hS1e]; exact leM_refl _) | (rw [hS1s]; exact hle1 _ _) | exact hO _ _ | exact encM_bnd _ _
      · simp [idsOk]
    rintro ⟨j, sj⟩ ⟨hj, hn, hle⟩ _
    dsimp only at hj hn hle
    ((try dsimp only [awp]); (conv => whnf))
    refine And.intro (fun hh => ?_) (fun hh => ?_)
    · have hjl : j < gt.ins.length := by simpa using hh
      have hfr := free_le (all := all) hle
      obtain ⟨i1, i2, i3⟩ := hins _ (List.getElem_mem hjl)
      rw [drop_of_get? (hKj j hjl)] at hn
      simp only [kidsF] at hn
      have cr := c_resolve m x.2.1 gt.ins[j] i1 hpg i2
      have cw := ih (resR m x.2.1 gt.ins[j]) sj i3 (by omega)
      have hml := walkF_mle (kids := kidsM m) (step := step) n (resR m x.2.1 gt.ins[j]) sj
      rw [hW] at hml
      ((try dsimp only [awp]); (conv => whnf))
      refine aidx hjl ?_
      generalize resR m x.2.1 gt.ins[j] = y at *
      generalize W y sj = r at *
      obtain ⟨rb, rs⟩ := r
      dsimp only at hn cw hml
      ((try dsimp only [awp]); (conv => whnf))
      refine ADraw.mk ⟨[false, false, true, false, true, true, true, true, false], by kernel_rfl, ?_⟩
      (conv => whnf)
      refine ACallP.pure _ _ ?_ ⟨rfl, rfl⟩ cr ?_
      · (repeat' (first | exact rfl | exact trivial | exact HWk.refl rfl | exact leRL_refl _ | (refine And.intro ?_ ?_)))
      ((try dsimp only [awp]); (conv => whnf))
      refine .gen _ _ (FnH.frame [0, 1, 2] cw ⟨rfl, rfl, rfl, rfl⟩ ?_ ?_) fun _ => ?_
      · (repeat' (first | exact rfl | exact trivial | exact HWk.refl rfl | exact leRL_refl _ | (refine And.intro ?_ ?_)))
        all_goals first | exact leM_rn _ _ | exact hle0 _ _ | exact hO _ _ | exact encM_bnd _ _
      · (repeat' (first | exact rfl | exact trivial | exact HWk.refl rfl | exact leRL_refl _ | (refine And.intro ?_ ?_)))
      ((try dsimp only [awp]); (conv => whnf))
      refine And.intro (fun hb => ?_) (fun hb => ?_)
      · rw [if_pos hb] at hn
        rw [hn, if_pos hb] at hwf
        rw [hwf, hb]
        ((try dsimp only [awp]); (conv => whnf))
        refine ⟨⟨_, _, .refl _ _, ?_⟩⟩
        (conv => whnf)
        refine ⟨rfl, rfl, by simp [nextId], .mk ?_ ?_⟩
        · (repeat' (first | exact rfl | exact trivial | exact HWk.refl rfl | exact leRL_refl _ | (refine And.intro ?_ ?_)))
          all_goals first | exact hle0 _ _ | exact hle1 _ _ | exact hO _ _ | exact leM_refl _ | exact leM_nr _ _ | exact encM_bnd _ _ | exact le0_refl _
        · simp [idsOk]
      · rw [if_neg (by rw [hb]; simp)] at hn
        ((try dsimp only [awp]); (conv => whnf))
        (refine ⟨inr64 (by omega) (by omega), ?_⟩; (conv => whnf))
        refine ⟨(j + 1, rs), ?_, ?_, ?_⟩
        · exact ⟨hjl, hn, hle.trans hml⟩
        · refine ⟨?_, .mk ?_ ?_⟩
          · (repeat' (first | exact rfl | exact trivial | exact HWk.refl rfl | exact leRL_refl _ | (refine And.intro ?_ ?_)))
          · (repeat' (first | exact rfl | exact trivial | exact HWk.refl rfl | exact leRL_refl _ | (refine And.intro ?_ ?_)))
            all_goals first | exact leM_nr _ _ | exact hle1 _ _ | exact hO _ _ | exact encM_bnd _ _
          · simp [idsOk]
        · show gt.ins.length - (j + 1) < gt.ins.length - j
          omega
    · have hjl : K.length ≤ j := by have : ¬ j < gt.ins.length := by simpa using hh
                                    omega
      rw [List.drop_eq_nil_of_le hjl] at hn
      simp only [kidsF] at hn
      rw [hn, if_neg (by simp)] at hwf
      rw [hwf]
      ((try dsimp only [awp]); (conv => whnf))
      refine aupd_es ?_
      ((try dsimp only [awp]); (conv => whnf))
      refine ⟨⟨_, _, .refl _ _, ?_⟩⟩
      (conv => whnf)
      refine ⟨rfl, rfl, by simp [nextId], .mk ?_ ?_⟩
      · (repeat' (first | exact rfl | exact trivial | exact HWk.refl rfl | exact leRL_refl _ | (refine And.intro ?_ ?_)))
        all_goals first | exact hle0 _ _ | exact hle1 _ _ | exact hO _ _ | exact leM_refl _ | exact leM_nr _ _ | exact encM_bnd _ _ | exact le0_refl _
      · simp [idsOk]
theorem c_walkC {σ : Type} (m : Md) (g : Nat) (O : σ → AV) (hO : ∀ st n, bndB n (O st) = true) (hrn : ∀ st f, rnV f (O st) = O st) (step : σ → Node → σ) (all : List Node) (ok : Node → Prop) (hN : ∀ x, ok x → x.1 = 2 → NodeOk m all ok x)
    (hE : ∀ st x, ok x → FnH Try.prog g (nAV x :: []) (ehA O st m) (.tup []) (ehA O (step st x) m)) :
    ∀ (n : Nat) (x : Node) (s : WS σ), ok x → free all s.es < n → FnH Try.prog 62 [m.av, nAV x, .mp 1, .fn g []] (hpA O s m) (.bool (walkF (kidsM m) step n x s).1) (hpA O (walkF (kidsM m) step n x s).2 m) := by
  have hle0 : ∀ st f, le0 (O st) (rnV f (O st)) := fun st f => by rw [hrn]; exact le0_refl _
  have hle1 : ∀ st f, le0 (rnV f (O st)) (O st) := fun st f => by rw [hrn]; exact le0_refl _
  intro n
  induction n with
  | zero => intro x s _ h; omega
  | succ n ih =>
    intro x s hx hf
    refine FnH.intro lay mixed Try.func62 (by kernel_rfl) rfl (by kernel_rfl) rfl fun hok => ?_
    ((try dsimp only [argC, succC]); (try dsimp only [awp]); (conv => whnf))
    refine And.intro (fun h1 => ?_) (fun h1 => ?_)
    · have e : walkF (kidsM m) step (n + 1) x s = (false, ⟨s.es, step s.st x⟩) := by simp only [walkF]; rw [if_pos h1]
      rw [e]
      ((try dsimp only [awp]); (conv => whnf))
      refine .gen _ _ (FnH.frame [0] (hE s.st x hx) ⟨rfl, rfl, rfl, rfl⟩ ?_ ?_) fun _ => ?_
      · (repeat' (first | exact rfl | exact trivial | exact HWk.refl rfl | exact leRL_refl _ | (refine And.intro ?_ ?_)))
        all_goals first | exact hle0 _ _ | exact hO _ _
      · (repeat' (first | exact rfl | exact trivial | exact HWk.refl rfl | exact leRL_refl _ | (refine And.intro ?_ ?_)))
      ((try dsimp only [awp]); (conv => whnf))
      refine ⟨⟨_, _, .refl _ _, ?_⟩⟩
      (conv => whnf)
      refine ⟨rfl, rfl, by simp [nextId], .mk ?_ ?_⟩
      · (repeat' (first | exact rfl | exact trivial | exact HWk.refl rfl | exact leRL_refl _ | (refine And.intro ?_ ?_)))
        all_goals first | exact hle0 _ _ | exact hle1 _ _ | exact hO _ _ | exact leM_refl _ | exact leM_nr _ _ | exact encM_bnd _ _ | exact le0_refl _
      · simp [idsOk]
    have hk : x.1 = 2 := by omega
    obtain ⟨hpg, hix, hmem, hil, hins⟩ := hN x hx hk
    have cG := c_gatesOf m x.2.1 hpg
    have hwf : walkF (kidsM m) step (n + 1) x s = if look s.es x = 1 then (true, s) else if look s.es x = 2 then (false, s)
        else if (kidsF (walkF (kidsM m) step n) (kidsM m x) ⟨mark s.es x 1, step s.st x⟩).1 = true then kidsF (walkF (kidsM m) step n) (kidsM m x) ⟨mark s.es x 1, step s.st x⟩
        else (false, ⟨mark (kidsF (walkF (kidsM m) step n) (kidsM m x) ⟨mark s.es x 1, step s.st x⟩).2.es x 2, (kidsF (walkF (kidsM m) step n) (kidsM m x) ⟨mark s.es x 1, step s.st x⟩).2.st⟩) := by
      simp only [walkF]; rw [if_neg h1]
    ((try dsimp only [awp]); (conv => whnf))
    refine alook_es ?_
    ((try dsimp only [awp]); (conv => whnf))
    refine And.intro (fun h2 => ?_) (fun h2 => ?_)
    · rw [if_pos h2] at hwf
      rw [hwf]
      ((try dsimp only [awp]); (conv => whnf))
      refine ⟨⟨_, _, .refl _ _, ?_⟩⟩
      (conv => whnf)
      refine ⟨rfl, rfl, by simp [nextId], .mk ?_ ?_⟩
      · (repeat' (first | exact rfl | exact trivial | exact HWk.refl rfl | exact leRL_refl _ | (refine And.intro ?_ ?_)))
        all_goals first | exact hle0 _ _ | exact hle1 _ _ | exact hO _ _ | exact leM_refl _ | exact leM_nr _ _ | exact encM_bnd _ _ | exact le0_refl _
      · simp [idsOk]
    rw [if_neg h2] at hwf
    ((try dsimp only [awp]); (conv => whnf))
    refine And.intro (fun h3 => ?_) (fun h3 => ?_)
    · rw [if_pos h3] at hwf
      rw [hwf]
      ((try dsimp only [awp]); (conv => whnf))
      refine ⟨⟨_, _, .refl _ _, ?_⟩⟩
      (conv => whnf)
      refine ⟨rfl, rfl, by simp [nextId], .mk ?_ ?_⟩
      · (repeat' (first | exact rfl | exact trivial | exact HWk.refl rfl | exact leRL_refl _ | (refine And.intro ?_ ?_)))
        all_goals first | exact hle0 _ _ | exact hle1 _ _ | exact hO _ _ | exact leM_refl _ | exact leM_nr _ _ | exact encM_bnd _ _ | exact le0_refl _
      · simp [idsOk]
    rw [if_neg h3] at hwf
    ((try dsimp only [awp]); (conv => whnf))
    refine aupd_es ?_
    ((try dsimp only [awp]); (conv => whnf))
    refine .gen _ _ (FnH.frame [0] (hE s.st x hx) ⟨rfl, rfl, rfl, rfl⟩ ?_ ?_) fun _ => ?_
    · (repeat' (first | exact rfl | exact trivial | exact HWk.refl rfl | exact leRL_refl _ | (refine And.intro ?_ ?_)))
      all_goals first | exact hle0 _ _ | exact hO _ _
    · (repeat' (first | exact rfl | exact trivial | exact HWk.refl rfl | exact leRL_refl _ | (refine And.intro ?_ ?_)))
    ((try dsimp only [awp]); (conv => whnf))
    (refine ADraw.auto (by kernel_rfl) ?_; (conv => whnf))
    refine ACallP.pure _ _ ?_ ⟨rfl, rfl⟩ cG ?_
    · (repeat' (first | exact rfl | exact trivial | exact HWk.refl rfl | exact leRL_refl _ | (refine And.intro ?_ ?_)))
    ((try dsimp only [awp]); (conv => whnf))
    refine aidxD default hix ?_
    have hga : (gatesM m x.2.1).getD x.2.2.toNat default = gateAt m x := rfl
    rw [hga]
    have hlt0 := free_lt (all := all) (v := 1) hmem h2 h3 (.inl rfl)
    generalize hS1 : (⟨mark s.es x 1, step s.st x⟩ : WS σ) = S1 at *
    have hS1e : S1.es = mark s.es x 1 := by rw [← hS1]
    have hS1s : S1.st = step s.st x := by rw [← hS1]
    rw [← hS1e] at hlt0
    have hKl : (kidsM m x).length = (gateAt m x).ins.length := by simp [kidsM]
    have hKj : ∀ (j : Nat) (h : j < (gateAt m x).ins.length), (kidsM m x)[j]? = some (resR m x.2.1 (gateAt m x).ins[j]) := fun j h => by simp [kidsM, h]
    generalize gateAt m x = gt at *
    generalize hW : walkF (kidsM m) step n = W at *
    generalize kidsM m x = K at *
    ((try dsimp only [awp]); (conv => whnf))
    refine LoopE.of <| LoopSpec.inv (.refl _ _) (fun (q : Nat × WS σ) => q.1 ≤ gt.ins.length ∧ kidsF W K S1 = kidsF W (K.drop q.1) q.2 ∧ MLe S1.es q.2.es)
      (fun q => [(39, .int .i64 q.1)]) (fun q => (3, .box (nAV x)) :: (2, .box m.av) :: hpA O q.2 m) (fun q => gt.ins.length - q.1) (0, S1) ?_ (fun _ => rfl) ?_ ?_
    · exact ⟨Nat.zero_le _, rfl, .refl _⟩
    · refine ⟨?_, .mk ?_ ?_⟩
      · (repeat' (first | exact rfl | exact trivial | exact HWk.refl rfl | exact leRL_refl _ | (refine And.intro ?_ ?_)))
      · (repeat' (first | exact rfl | exact trivial | exact HWk.refl rfl | exact leRL_refl _ | (refine And.intro ?_ ?_)))
        all_goals first | (rw [hS1e]; exact leM_refl _) | (rw [hS1s]; exact hle1 _ _) | exact hO _ _ | exact encM_bnd _ _
      · simp [idsOk]
    rintro ⟨j, sj⟩ ⟨hj, hn, hle⟩ _
    dsimp only at hj hn hle
    ((try dsimp only [awp]); (conv => whnf))
    refine And.intro (fun hh => ?_) (fun hh => ?_)
    · have hjl : j < gt.ins.length := by simpa using hh
      have hfr := free_le (all := all) hle
      obtain ⟨i1, i2, i3⟩ := hins _ (List.getElem_mem hjl)
      rw [drop_of_get? (hKj j hjl)] at hn
      simp only [kidsF] at hn
      have cr := c_resolve m x.2.1 gt.ins[j] i1 hpg i2
      have cw := ih (resR m x.2.1 gt.ins[j]) sj i3 (by omega)
      have hml := walkF_mle (kids := kidsM m) (step := step) n (resR m x.2.1 gt.ins[j]) sj
      rw [hW] at hml
      ((try dsimp only [awp]); (conv => whnf))
      refine aidx hjl ?_
      generalize resR m x.2.1 gt.ins[j] = y at *
      generalize W y sj = r at *
      obtain ⟨rb, rs⟩ := r
      dsimp only at hn cw hml
      ((try dsimp only [awp]); (conv => whnf))
      refine ADraw.mk ⟨[false, false, true, false, true, true, true, true, false], by kernel_rfl, ?_⟩
      (conv => whnf)
      refine ACallP.pure _ _ ?_ ⟨rfl, rfl⟩ cr ?_
      · (repeat' (first | exact rfl | exact trivial | exact HWk.refl rfl | exact leRL_refl _ | (refine And.intro ?_ ?_)))
      ((try dsimp only [awp]); (conv => whnf))
      refine .gen _ _ (FnH.frame [0, 1] cw ⟨rfl, rfl, rfl, rfl⟩ ?_ ?_) fun _ => ?_
      · (repeat' (first | exact rfl | exact trivial | exact HWk.refl rfl | exact leRL_refl _ | (refine And.intro ?_ ?_)))
        all_goals first | exact leM_rn _ _ | exact hle0 _ _ | exact hO _ _ | exact encM_bnd _ _
      · (repeat' (first | exact rfl | exact trivial | exact HWk.refl rfl | exact leRL_refl _ | (refine And.intro ?_ ?_)))
      ((try dsimp only [awp]); (conv => whnf))
      refine And.intro (fun hb => ?_) (fun hb => ?_)
      · rw [if_pos hb] at hn
        rw [hn, if_pos hb] at hwf
        rw [hwf, hb]
        ((try dsimp only [awp]); (conv => whnf))
        refine ⟨⟨_, _, .refl _ _, ?_⟩⟩
        (conv => whnf)
        refine ⟨rfl, rfl, by simp [nextId], .mk ?_ ?_⟩
        · (repeat' (first | exact rfl | exact trivial | exact HWk.refl rfl | exact leRL_refl _ | (refine And.intro ?_ ?_)))
          all_goals first | exact hle0 _ _ | exact hle1 _ _ | exact hO _ _ | exact leM_refl _ | exact leM_nr _ _ | exact encM_bnd _ _ | exact le0_refl _
        · simp [idsOk]
      · rw [if_neg (by rw [hb]; simp)] at hn
        ((try dsimp only [awp]); (conv => whnf))
        (refine ⟨inr64 (by omega) (by omega), ?_⟩; (conv => whnf))
        refine ⟨(j + 1, rs), ?_, ?_, ?_⟩
        · exact ⟨hjl, hn, hle.trans hml⟩
        · refine ⟨?_, .mk ?_ ?_⟩
          · (repeat' (first | exact rfl | exact trivial | exact HWk.refl rfl | exact leRL_refl _ | (refine And.intro ?_ ?_)))
          · (repeat' (first | exact rfl | exact trivial | exact HWk.refl rfl | exact leRL_refl _ | (refine And.intro ?_ ?_)))
            all_goals first | exact leM_nr _ _ | exact hle1 _ _ | exact hO _ _ | exact encM_bnd _ _
          · simp [idsOk]
        · show gt.ins.length - (j + 1) < gt.ins.length - j
          omega
    · have hjl : K.length ≤ j := by have : ¬ j < gt.ins.length := by simpa using hh
                                    omega
      rw [List.drop_eq_nil_of_le hjl] at hn
      simp only [kidsF] at hn
      rw [hn, if_neg (by simp)] at hwf
      rw [hwf]
      ((try dsimp only [awp]); (conv => whnf))
      refine aupd_es ?_
      ((try dsimp only [awp]); (conv => whnf))
      refine ⟨⟨_, _, .refl _ _, ?_⟩⟩
      (conv => whnf)
      refine ⟨rfl, rfl, by simp [nextId], .mk ?_ ?_⟩
      · (repeat' (first | exact rfl | exact trivial | exact HWk.refl rfl | exact leRL_refl _ | (refine And.intro ?_ ?_)))
        all_goals first | exact hle0 _ _ | exact hle1 _ _ | exact hO _ _ | exact leM_refl _ | exact leM_nr _ _ | exact encM_bnd _ _ | exact le0_refl _
      · simp [idsOk]
end S

open Go Go.AL Go.Proofs
namespace S
set_option maxRecDepth 100000

/-- The pages, the main page first. -/
def atsM (m : Md) : List Int := (List.range (m.pages.length + 1)).map fun (k : Nat) => (k : Int) - 1
def nodesAt (m : Md) (a : Int) : List Node := (List.range (gatesM m a).length).map fun (i : Nat) => ((2 : Int), a, (i : Int))
def nodesFrom (m : Md) (k : Nat) : List Node := ((atsM m).drop k).flatMap (nodesAt m)
def allNodes (m : Md) : List Node := (atsM m).flatMap (nodesAt m)

theorem ats_get {m : Md} {k : Nat} (h : k < m.pages.length + 1) : (atsM m)[k]? = some ((k : Int) - 1) := by
  unfold atsM
  rw [List.getElem?_map, List.getElem?_range h]; rfl

theorem ats_len (m : Md) : (atsM m).length = m.pages.length + 1 := by simp [atsM]

theorem nodesFrom_step {m : Md} {k : Nat} (h : k < m.pages.length + 1) : nodesFrom m k = nodesAt m ((k : Int) - 1) ++ nodesFrom m (k + 1) := by
  unfold nodesFrom
  rw [drop_of_get? (ats_get h), List.flatMap_cons]

theorem nodesFrom_end {m : Md} {k : Nat} (h : m.pages.length + 1 ≤ k) : nodesFrom m k = [] := by
  unfold nodesFrom
  rw [List.drop_eq_nil_of_le (by rw [ats_len]; omega)]; rfl

theorem nodesAt_get {m : Md} {a : Int} {i : Nat} (h : i < (gatesM m a).length) : (nodesAt m a)[i]? = some (2, a, (i : Int)) := by
  unfold nodesAt
  rw [List.getElem?_map, List.getElem?_range h]; rfl

theorem nodesAt_len (m : Md) (a : Int) : (nodesAt m a).length = (gatesM m a).length := by simp [nodesAt]

theorem ats_mem {m : Md} {a : Int} : a ∈ atsM m ↔ (a = -1 ∨ (0 ≤ a ∧ a < (m.pages.length : Int))) := by
  unfold atsM
  simp only [List.mem_map, List.mem_range]
  constructor
  · rintro ⟨k, hk, rfl⟩; omega
  · intro h
    exact ⟨(a + 1).toNat, by omega, by omega⟩

theorem mem_nodesAt {m : Md} {a : Int} {x : Node} : x ∈ nodesAt m a ↔ x.1 = 2 ∧ x.2.1 = a ∧ 0 ≤ x.2.2 ∧ x.2.2 < ((gatesM m a).length : Int) := by
  obtain ⟨p, q, r⟩ := x
  unfold nodesAt
  simp only [List.mem_map, List.mem_range]
  constructor
  · rintro ⟨i, hi, h⟩
    obtain ⟨rfl, rfl, rfl⟩ : 2 = p ∧ a = q ∧ (i : Int) = r := by simpa using h
    exact ⟨rfl, rfl, by show (0 : Int) ≤ (i : Int); omega, by show (i : Int) < _; omega⟩
  · rintro ⟨h1, h2, h3, h4⟩
    have h1 : p = 2 := h1
    have h2 : q = a := h2
    have h3 : 0 ≤ r := h3
    have h4 : r < ((gatesM m a).length : Int) := h4
    exact ⟨r.toNat, by omega, by rw [h1, h2, Int.toNat_of_nonneg h3]⟩

theorem mem_all {m : Md} {x : Node} : x ∈ allNodes m ↔ x.1 = 2 ∧ (x.2.1 = -1 ∨ (0 ≤ x.2.1 ∧ x.2.1 < (m.pages.length : Int))) ∧ 0 ≤ x.2.2 ∧ x.2.2 < ((gatesM m x.2.1).length : Int) := by
  unfold allNodes
  rw [List.mem_flatMap]
  constructor
  · rintro ⟨a, ha, hx⟩
    obtain ⟨h1, rfl, h3⟩ := mem_nodesAt.1 hx
    exact ⟨h1, ats_mem.1 ha, h3⟩
  · rintro ⟨h1, h2, h3⟩
    exact ⟨x.2.1, ats_mem.2 h2, mem_nodesAt.2 ⟨h1, rfl, h3⟩⟩

/-- A thing that is there. -/
def okN (m : Md) (x : Node) : Prop :=
  (x.1 = 0 ∧ x.2.1 = 0 ∧ 0 ≤ x.2.2 ∧ x.2.2 < (m.evs.length : Int)) ∨ (x.1 = 1 ∧ x.2.1 = 0 ∧ 0 ≤ x.2.2 ∧ x.2.2 < (m.hs.length : Int)) ∨ x ∈ allNodes m

/-- All inputs name things. -/
def ClosedM (m : Md) : Prop := ∀ x ∈ allNodes m, ∀ s ∈ (gateAt m x).ins, 0 < s.length ∧ (atS s = true → 0 ≤ i_page m.pages (s.drop 1)) ∧ okN m (resR m x.2.1 s)

theorem MdB.gatesM {m : Md} (hB : MdB m) {a : Int} (ha : a = -1 ∨ (0 ≤ a ∧ a < (m.pages.length : Int))) : (gatesM m a).length ≤ 100 ∧ ∀ x ∈ gatesM m a, x.ins.length ≤ 40 := by
  unfold S.gatesM
  split
  · exact hB.gates
  · exact hB.pgates _ (getD_mem (by omega))

theorem nodeOk {m : Md} (hB : MdB m) (hc : ClosedM m) (x : Node) (hx : okN m x) (h2 : x.1 = 2) : NodeOk m (allNodes m) (okN m) x := by
  have hm : x ∈ allNodes m := by
    rcases hx with h | h | h
    · have := h.1; omega
    · have := h.1; omega
    · exact h
  obtain ⟨_, h3, h4⟩ := mem_all.1 hm
  exact ⟨h3, h4, hm, (hB.gatesM h3).2 _ (getD_mem (by omega)), hc x hm⟩

def fuelM (m : Md) : Nat := (allNodes m).length + 1

theorem free_fuel (m : Md) (es : Marks) : free (allNodes m) es < fuelM m := by
  unfold free fuelM
  have := List.length_filter_le (fun x => !isM es x) (allNodes m)
  omega

/-- The walk of no purpose. -/
abbrev walk0 (m : Md) : Node → WS Unit → Bool × WS Unit := walkF (kidsM m) (fun _ _ => ()) (fuelM m)

def cycR (m : Md) : Bool := (kidsF (walk0 m) (allNodes m) ⟨[], ()⟩).1

theorem c_cyc1 (x : Node) (m : Md) : FnH Try.prog 118 [nAV x] [(0, .box m.av)] (.tup []) [(0, .box m.av)] := by
  refine FnH.intro lay mixed Try.func118 (by kernel_rfl) rfl (by kernel_rfl) rfl fun hok => ?_
  ((try dsimp only [argC, succC]); (try dsimp only [awp]); (conv => whnf))
  refine ⟨⟨_, _, .refl _ _, ?_⟩⟩
  (conv => whnf)
  refine ⟨?_, rfl, by simp [nextId], .mk ?_ ⟨by simp, trivial⟩⟩
  · exact trivial
  · (repeat' (first | exact rfl | exact trivial | exact HWk.refl rfl | exact leRL_refl _ | (refine And.intro ?_ ?_)))

theorem c_cyclic (m : Md) (hB : MdB m) (hc : ClosedM m) : FnH Try.prog 61 [m.av] [] (.bool (cycR m)) [] := by
  have cw := c_walkC m 118 (fun _ : Unit => m.av) (fun _ _ => rfl) (fun _ _ => rfl) (fun _ _ => ()) (allNodes m) (okN m) (nodeOk hB hc) (fun _ x _ => c_cyc1 x m) (fuelM m)
  have cG := fun a h => c_gatesOf m a h
  have hcy : cycR m = (kidsF (walk0 m) (nodesFrom m 0) ⟨[], ()⟩).1 := rfl
  have hpl := hB.pages
  refine FnH.intro lay mixed Try.func61 (by kernel_rfl) rfl (by kernel_rfl) rfl fun hok => ?_
  ((try dsimp only [argC, succC]); (try dsimp only [awp]); (conv => whnf))
  refine LoopE.of <| LoopSpec.inv (.refl _ _) (fun (q : Nat × WS Unit) => q.1 ≤ m.pages.length + 1 ∧ cycR m = (kidsF (walk0 m) (nodesFrom m q.1) q.2).1)
    (fun q => [(4, .int .i64 ((q.1 : Int) - 1))]) (fun q => [(1, .amap shN (encM q.2.es)), (0, .box m.av)]) (fun q => m.pages.length + 1 - q.1) (0, ⟨[], ()⟩) ?_ (fun _ => rfl) ?_ ?_
  · exact ⟨Nat.zero_le _, hcy⟩
  · refine ⟨?_, .mk ?_ ⟨by simp, by simp, trivial⟩⟩
    · (repeat' (first | exact rfl | exact trivial | exact HWk.refl rfl | exact leRL_refl _ | (refine And.intro ?_ ?_)))
    · (repeat' (first | exact rfl | exact trivial | exact HWk.refl rfl | exact leRL_refl _ | (refine And.intro ?_ ?_)))
  rintro ⟨k, s⟩ ⟨hk, hn⟩ _
  dsimp only at hk hn
  ((try dsimp only [awp]); (conv => whnf))
  refine And.intro (fun h => ?_) (fun h => ?_)
  · have hkl : k < m.pages.length + 1 := by simp only [List.length_map] at h; omega
    have ha : (k : Int) - 1 = -1 ∨ (0 ≤ (k : Int) - 1 ∧ (k : Int) - 1 < (m.pages.length : Int)) := by omega
    have hgl := (hB.gatesM ha).1
    rw [nodesFrom_step hkl] at hn
    ((try dsimp only [awp]); (conv => whnf))
    refine .pure _ _ ?_ ⟨rfl, rfl⟩ (cG _ ha) fun _ => ?_
    · exact leL_refl _
    ((try dsimp only [awp]); (conv => whnf))
    refine LoopE.of <| LoopSpec.inv (.refl _ _) (fun (q : Nat × WS Unit) => q.1 ≤ (gatesM m ((k : Int) - 1)).length ∧ cycR m = (kidsF (walk0 m) ((nodesAt m ((k : Int) - 1)).drop q.1 ++ nodesFrom m (k + 1)) q.2).1)
      (fun q => [(18, .int .i64 q.1)]) (fun q => [(1, .amap shN (encM q.2.es)), (0, .box m.av)]) (fun q => (gatesM m ((k : Int) - 1)).length - q.1) (0, s) ?_ (fun _ => rfl) ?_ ?_
    · exact ⟨Nat.zero_le _, hn⟩
    · refine ⟨?_, .mk ?_ ⟨by simp, by simp, trivial⟩⟩
      · (repeat' (first | exact rfl | exact trivial | exact HWk.refl rfl | exact leRL_refl _ | (refine And.intro ?_ ?_)))
      · (repeat' (first | exact rfl | exact trivial | exact HWk.refl rfl | exact leRL_refl _ | (refine And.intro ?_ ?_)))
        all_goals first | exact leM_refl _ | exact encM_bnd _ _
    rintro ⟨i, s2⟩ ⟨hi, hn2⟩ _
    dsimp only at hi hn2
    ((try dsimp only [awp]); (conv => whnf))
    refine And.intro (fun hh => ?_) (fun hh => ?_)
    · have hil : i < (gatesM m ((k : Int) - 1)).length := by simpa using hh
      rw [drop_of_get? (nodesAt_get hil), List.cons_append] at hn2
      simp only [kidsF, walk0] at hn2
      have hmem : (2, (k : Int) - 1, (i : Int)) ∈ allNodes m := mem_all.2 ⟨rfl, ha, by show (0 : Int) ≤ i; omega, by show (i : Int) < ((gatesM m ((k : Int) - 1)).length : Int); omega⟩
      have cw := cw (2, (k : Int) - 1, (i : Int)) s2 (.inr (.inr hmem)) (free_fuel m _)
      generalize hr : walkF (kidsM m) (fun _ _ => ()) (fuelM m) (2, (k : Int) - 1, (i : Int)) s2 = r at *
      obtain ⟨rb, rs⟩ := r
      dsimp only at hn2 cw
      ((try dsimp only [awp]); (conv => whnf))
      refine .gen _ _ cw fun _ => ?_
      ((try dsimp only [awp]); (conv => whnf))
      refine And.intro (fun hb => ?_) (fun hb => ?_)
      · rw [if_pos hb] at hn2
        rw [hn2, hb]
        ((try dsimp only [awp]); (conv => whnf))
        (refine FinSpec.mono ?_; (conv => whnf); refine ⟨?_, rfl⟩; (conv => whnf))
        (repeat' (first | exact rfl | exact trivial | exact HWk.refl rfl | exact leRL_refl _ | (refine And.intro ?_ ?_)))
      · rw [if_neg (by rw [hb]; simp)] at hn2
        ((try dsimp only [awp]); (conv => whnf))
        (refine ⟨inr64 (by omega) (by omega), ?_⟩; (conv => whnf))
        refine ⟨(i + 1, rs), ?_, ?_, ?_⟩
        · exact ⟨hil, hn2⟩
        · refine ⟨?_, .mk ?_ ⟨by simp, by simp, trivial⟩⟩
          · (repeat' (first | exact rfl | exact trivial | exact HWk.refl rfl | exact leRL_refl _ | (refine And.intro ?_ ?_)))
          · (repeat' (first | exact rfl | exact trivial | exact HWk.refl rfl | exact leRL_refl _ | (refine And.intro ?_ ?_)))
            all_goals first | exact leM_refl _ | exact encM_bnd _ _
        · show (gatesM m ((k : Int) - 1)).length - (i + 1) < (gatesM m ((k : Int) - 1)).length - i
          omega
    · have hil : (nodesAt m ((k : Int) - 1)).length ≤ i := by have : ¬ i < (gatesM m ((k : Int) - 1)).length := by simpa using hh
                                                              rw [nodesAt_len]; omega
      rw [List.drop_eq_nil_of_le hil, List.nil_append] at hn2
      ((try dsimp only [awp]); (conv => whnf))
      (refine ⟨inr64 (by omega) (by omega), ?_⟩; (conv => whnf))
      refine ⟨(k + 1, s2), ?_, ?_, ?_⟩
      · exact ⟨hkl, hn2⟩
      · refine ⟨?_, .mk ?_ ⟨by simp, by simp, trivial⟩⟩
        · (repeat' (first | exact rfl | exact trivial | exact HWk.refl rfl | exact leRL_refl _ | (refine And.intro ?_ ?_)))
          all_goals (show _ = _; congr 1; omega)
        · (repeat' (first | exact rfl | exact trivial | exact HWk.refl rfl | exact leRL_refl _ | (refine And.intro ?_ ?_)))
          all_goals first | exact leM_refl _ | exact encM_bnd _ _
      · show m.pages.length + 1 - (k + 1) < m.pages.length + 1 - k
        omega
  · have hkl : m.pages.length + 1 ≤ k := by simp only [List.length_map] at h; omega
    rw [nodesFrom_end hkl] at hn
    simp only [kidsF] at hn
    rw [hn]
    ((try dsimp only [awp]); (conv => whnf))
    (refine FinSpec.mono ?_; (conv => whnf); refine ⟨?_, rfl⟩; (conv => whnf))
    (repeat' (first | exact rfl | exact trivial | exact HWk.refl rfl | exact leRL_refl _ | (refine And.intro ?_ ?_)))
end S

open Go Go.AL Go.Proofs
namespace S
set_option maxRecDepth 100000

/-! ### what a walk does -/

section
variable {σ : Type} (kids : Node → List Node) (step : σ → Node → σ) (V : σ → Node → Prop)

/-- What is done has its kids done, and lower; they have been met. -/
structure Inv (s : WS σ) : Prop where
  rank : ∃ rank : Node → Nat, ∀ x, look s.es x = 2 → ∀ y ∈ kids x, y.1 = 2 → look s.es y = 2 ∧ rank y < rank x
  met : ∀ x, look s.es x = 2 → V s.st x ∧ ∀ y ∈ kids x, y.1 ≠ 2 → V s.st y

/-- How the marks went on. -/
structure On (s s' : WS σ) : Prop where
  one : ∀ y, look s'.es y = 1 ↔ look s.es y = 1
  two : ∀ y, look s.es y = 2 → look s'.es y = 2
  met : ∀ y, V s.st y → V s'.st y

theorem On.refl (s : WS σ) : On V s s := ⟨fun _ => Iff.rfl, fun _ h => h, fun _ h => h⟩
theorem On.trans {a b c : WS σ} (h : On V a b) (g : On V b c) : On V a c := ⟨fun y => (g.one y).trans (h.one y), fun y e => g.two y (h.two y e), fun y e => g.met y (h.met y e)⟩

/-- After a walk that has met no circle. -/
structure After (x : Node) (s s' : WS σ) : Prop where
  inv : Inv kids V s'
  on : On V s s'
  done : x.1 = 2 → look s'.es x = 2
  leaf : x.1 ≠ 2 → V s'.st x

variable {kids step V}

theorem kids_after {f : Node → WS σ → Bool × WS σ} (ok : Node → Prop) (m : Nat) (fr : Marks → Nat) (hfr : ∀ y s, fr (f y s).2.es ≤ fr s.es)
    (hf : ∀ y s, ok y → fr s.es ≤ m → Inv kids V s → (f y s).1 = false → After kids V y s (f y s).2) :
    ∀ (l : List Node) (s : WS σ), (∀ y ∈ l, ok y) → fr s.es ≤ m → Inv kids V s → (kidsF f l s).1 = false →
      Inv kids V (kidsF f l s).2 ∧ On V s (kidsF f l s).2 ∧ ∀ y ∈ l, (y.1 = 2 → look (kidsF f l s).2.es y = 2) ∧ (y.1 ≠ 2 → V (kidsF f l s).2.st y)
  | [], s, _, _, hi, _ => ⟨hi, .refl V s, by simp⟩
  | y :: l, s, hl, hm, hi, h => by
    simp only [kidsF] at h ⊢
    by_cases hb : (f y s).1 = true
    · rw [if_pos hb] at h
      rw [hb] at h; cases h
    · rw [if_neg hb] at h ⊢
      have hy := hf y s (hl y (by simp)) hm hi (by simpa using hb)
      have hm2 := hfr y s
      obtain ⟨h1, h2, h3⟩ := kids_after ok m fr hfr hf l (f y s).2 (fun z hz => hl z (by simp [hz])) (by omega) hy.inv h
      refine ⟨h1, hy.on.trans V h2, fun z hz => ?_⟩
      rcases List.mem_cons.1 hz with rfl | hz
      · exact ⟨fun e => h2.two _ (hy.done e), fun e => h2.met _ (hy.leaf e)⟩
      · exact h3 z hz

theorem sum_ge {rank : Node → Nat} : ∀ {l : List Node} {y : Node}, y ∈ l → rank y ≤ (l.map rank).sum
  | [], _, h => by simp at h
  | x :: l, y, h => by
    simp only [List.map_cons, List.sum_cons]
    rcases List.mem_cons.1 h with rfl | h
    · omega
    · have := sum_ge (rank := rank) h; omega

theorem walk_after (all : List Node) (ok : Node → Prop) (hok : ∀ x, ok x → x.1 = 2 → x ∈ all ∧ ∀ y ∈ kids x, ok y) (hV1 : ∀ st x, V (step st x) x) (hV2 : ∀ st x y, V st y → V (step st x) y) :
    ∀ (n : Nat) (x : Node) (s : WS σ), ok x → free all s.es < n → Inv kids V s → (walkF kids step n x s).1 = false → After kids V x s (walkF kids step n x s).2
  | 0, _, _, _, h, _, _ => by omega
  | n + 1, x, s, hx, hf, hi, h => by
    simp only [walkF] at h ⊢
    by_cases h1 : x.1 ≠ 2
    · rw [if_pos h1]
      exact ⟨⟨hi.rank, fun y hy => ⟨hV2 _ _ _ (hi.met y hy).1, fun z hz e => hV2 _ _ _ ((hi.met y hy).2 z hz e)⟩⟩, ⟨fun _ => Iff.rfl, fun _ h => h, fun y => hV2 _ _ _⟩, fun e => absurd e h1, fun _ => hV1 _ _⟩
    rw [if_neg h1] at h ⊢
    by_cases h2 : look s.es x = 1
    · rw [if_pos h2] at h; cases h
    rw [if_neg h2] at h ⊢
    by_cases h3 : look s.es x = 2
    · rw [if_pos h3]
      exact ⟨hi, .refl V s, fun _ => h3, fun e => absurd e h1⟩
    rw [if_neg h3] at h ⊢
    obtain ⟨hm, hk⟩ := hok x hx (by omega)
    have hlt := free_lt (all := all) (v := 1) hm h2 h3 (.inl rfl)
    have hi1 : Inv kids V ⟨mark s.es x 1, step s.st x⟩ := by
      obtain ⟨rank, hr⟩ := hi.rank
      refine ⟨⟨rank, fun y hy z hz e => ?_⟩, fun y hy => ?_⟩
      · have hy : look (mark s.es x 1) y = 2 := hy
        rw [look_mark] at hy
        split at hy
        · cases hy
        have := hr y hy z hz e
        refine ⟨?_, this.2⟩
        show look (mark s.es x 1) z = 2
        rw [look_mark, if_neg (fun e => h3 (by rw [e]; exact this.1))]
        exact this.1
      · have hy : look (mark s.es x 1) y = 2 := hy
        rw [look_mark] at hy
        split at hy
        · cases hy
        exact ⟨hV2 _ _ _ (hi.met y hy).1, fun z hz e => hV2 _ _ _ ((hi.met y hy).2 z hz e)⟩
    by_cases hb : (kidsF (walkF kids step n) (kids x) ⟨mark s.es x 1, step s.st x⟩).1 = true
    · rw [if_pos hb] at h
      rw [hb] at h; cases h
    rw [if_neg hb]
    obtain ⟨k1, k2, k3⟩ := kids_after (kids := kids) (V := V) ok (n - 1) (free all) (fun y s => free_le (walkF_mle n y s)) (fun y s hy hs hi hb => walk_after all ok hok hV1 hV2 n y s hy (by omega) hi hb) (kids x) ⟨mark s.es x 1, step s.st x⟩ hk (by show free all (mark s.es x 1) ≤ n - 1; omega) hi1 (by simpa using hb)
    generalize kidsF (walkF kids step n) (kids x) ⟨mark s.es x 1, step s.st x⟩ = r at *
    obtain ⟨rb, rs⟩ := r
    dsimp only at k1 k2 k3 ⊢
    have hx1 : look rs.es x = 1 := (k2.one x).2 (by show look (mark s.es x 1) x = 1; rw [look_mark, if_pos rfl])
    refine ⟨⟨?_, fun y hy => ?_⟩, ⟨fun y => ?_, fun y hy => ?_, fun y hy => k2.met y (hV2 _ _ _ hy)⟩, fun _ => ?_, fun e => absurd e h1⟩
    · obtain ⟨rank, hr⟩ := k1.rank
      refine ⟨fun z => if z = x then ((kids x).map rank).sum + 1 else rank z, fun y hy z hz e => ?_⟩
      show look (mark rs.es x 2) z = 2 ∧ _
      by_cases hyx : y = x
      · subst hyx
        have hz2 := (k3 z hz).1 e
        have hzx : z ≠ y := fun e => by rw [e, hx1] at hz2; cases hz2
        rw [look_mark, if_neg (Ne.symm hzx)]
        refine ⟨hz2, ?_⟩
        simp only [if_neg hzx, if_true]
        have := sum_ge (rank := rank) hz
        omega
      · have hy : look (mark rs.es x 2) y = 2 := hy
        rw [look_mark, if_neg (Ne.symm hyx)] at hy
        have := hr y hy z hz e
        have hzx : z ≠ x := fun e => by rw [e, hx1] at this; cases this.1
        rw [look_mark, if_neg (Ne.symm hzx)]
        refine ⟨this.1, ?_⟩
        simp only [if_neg hzx, if_neg hyx]
        exact this.2
    · have hy : look (mark rs.es x 2) y = 2 := hy
      rw [look_mark] at hy
      split at hy
      · rename_i e
        subst e
        exact ⟨k2.met _ (hV1 _ _), fun z hz e => (k3 z hz).2 e⟩
      · exact k1.met y hy
    · show look (mark rs.es x 2) y = 1 ↔ look s.es y = 1
      rw [look_mark]
      by_cases hyx : x = y
      · subst hyx
        rw [if_pos rfl]
        exact ⟨fun e => absurd e (by decide), fun e => absurd e h2⟩
      · rw [if_neg hyx, k2.one y]
        show look (mark s.es x 1) y = 1 ↔ _
        rw [look_mark, if_neg hyx]
    · show look (mark rs.es x 2) y = 2
      rw [look_mark]
      split
      · rfl
      · rename_i hyx
        refine k2.two y ?_
        show look (mark s.es x 1) y = 2
        rw [look_mark, if_neg hyx]
        exact hy
    · show look (mark rs.es x 2) x = 2
      rw [look_mark, if_pos rfl]

/-- No circle is met where kids are lower. -/
theorem walk_false (ok : Node → Prop) (hok : ∀ x, ok x → x.1 = 2 → ∀ y ∈ kids x, ok y) (rank : Node → Nat) (hr : ∀ x, ok x → x.1 = 2 → ∀ y ∈ kids x, y.1 = 2 → rank y < rank x) :
    ∀ (n : Nat) (x : Node) (s : WS σ), ok x → (x.1 = 2 → ∀ z, look s.es z = 1 → rank x < rank z) → (walkF kids step n x s).1 = false ∧ ∀ y, look (walkF kids step n x s).2.es y = 1 → look s.es y = 1
  | 0, _, _, _, _ => ⟨rfl, fun _ h => h⟩
  | n + 1, x, s, hx, hz => by
    simp only [walkF]
    by_cases h1 : x.1 ≠ 2
    · rw [if_pos h1]; exact ⟨rfl, fun _ h => h⟩
    rw [if_neg h1]
    have h1 : x.1 = 2 := by omega
    by_cases h2 : look s.es x = 1
    · have := hz h1 x h2; omega
    rw [if_neg h2]
    by_cases h3 : look s.es x = 2
    · rw [if_pos h3]; exact ⟨rfl, fun _ h => h⟩
    rw [if_neg h3]
    have key : ∀ (l : List Node) (t : WS σ), (∀ y ∈ l, y ∈ kids x) → (∀ z, look t.es z = 1 → z = x ∨ look s.es z = 1) →
        (kidsF (walkF kids step n) l t).1 = false ∧ ∀ z, look (kidsF (walkF kids step n) l t).2.es z = 1 → z = x ∨ look s.es z = 1 := by
      intro l
      induction l with
      | nil => intro t _ ht; exact ⟨rfl, ht⟩
      | cons y l ih =>
        intro t hl ht
        have hy := hl y (by simp)
        obtain ⟨w1, w2⟩ := walk_false ok hok rank hr n y t (hok x hx h1 y hy) (fun e z hz1 => by
          have hyx := hr x hx h1 y hy e
          rcases ht z hz1 with rfl | hz2
          · exact hyx
          · have := hz h1 z hz2; omega)
        simp only [kidsF]
        rw [if_neg (by rw [w1]; simp)]
        exact ih _ (fun z hz => hl z (by simp [hz])) fun z hz1 => ht z (w2 z hz1)
    obtain ⟨k1, k2⟩ := key (kids x) ⟨mark s.es x 1, step s.st x⟩ (fun y hy => hy) (fun z hz1 => by
      have hz1 : look (mark s.es x 1) z = 1 := hz1
      rw [look_mark] at hz1
      split at hz1
      · rename_i e; exact .inl e.symm
      · exact .inr hz1)
    rw [if_neg (by rw [k1]; simp)]
    refine ⟨rfl, fun y hy => ?_⟩
    have hy : look (mark (kidsF (walkF kids step n) (kids x) ⟨mark s.es x 1, step s.st x⟩).2.es x 2) y = 1 := hy
    rw [look_mark] at hy
    split at hy
    · cases hy
    · rename_i hne
      rcases k2 y hy with e | e
      · exact absurd e.symm hne
      · exact e
end

theorem okN_kids {m : Md} (hc : ClosedM m) {x : Node} (hx : okN m x) (h2 : x.1 = 2) : x ∈ allNodes m ∧ ∀ y ∈ kidsM m x, okN m y := by
  have hm : x ∈ allNodes m := by
    rcases hx with h | h | h
    · have := h.1; omega
    · have := h.1; omega
    · exact h
  refine ⟨hm, fun y hy => ?_⟩
  unfold kidsM at hy
  obtain ⟨s, hs, rfl⟩ := List.mem_map.1 hy
  exact (hc x hm s hs).2.2

/-- Kids are lower. -/
def RankM (m : Md) (rank : Node → Nat) : Prop := ∀ x, okN m x → x.1 = 2 → ∀ y ∈ kidsM m x, y.1 = 2 → rank y < rank x

theorem cyc_rank {m : Md} (hc : ClosedM m) (h : cycR m = false) : ∃ rank, RankM m rank := by
  have hi : Inv (kidsM m) (fun (_ : Unit) _ => True) ⟨[], ()⟩ := ⟨⟨fun _ => 0, fun x hx => by simp [look] at hx⟩, fun x hx => by simp [look] at hx⟩
  obtain ⟨k1, _, k3⟩ := kids_after (kids := kidsM m) (V := fun (_ : Unit) _ => True) (okN m) (allNodes m).length (free (allNodes m)) (f := walk0 m) (fun y s => free_le (walkF_mle _ y s))
    (fun y s hy hs hi hb => walk_after (allNodes m) (okN m) (fun x hx h2 => okN_kids hc hx h2) (fun _ _ => trivial) (fun _ _ _ _ => trivial) (fuelM m) y s hy (by unfold fuelM; omega) hi hb)
    (allNodes m) ⟨[], ()⟩ (fun y hy => .inr (.inr hy)) (by have := free_fuel m []; unfold fuelM at this; show free (allNodes m) [] ≤ _; omega) hi h
  obtain ⟨rank, hr⟩ := k1.rank
  refine ⟨rank, fun x hx h2 y hy e => (hr x ?_ y hy e).2⟩
  exact (k3 x (okN_kids hc hx h2).1).1 h2

theorem rank_walk {σ : Type} {m : Md} (hc : ClosedM m) {rank : Node → Nat} (hr : RankM m rank) (step : σ → Node → σ) (n : Nat) (x : Node) (st : σ) (hx : okN m x) : (walkF (kidsM m) step n x ⟨[], st⟩).1 = false :=
  (walk_false (okN m) (fun x hx h2 => (okN_kids hc hx h2).2) rank hr n x ⟨[], st⟩ hx (fun _ z hz => by simp [look] at hz)).1

/-- All that is below has been met. -/
theorem met_all {m : Md} (hc : ClosedM m) (h : cycR m = false) {x : Node} (hx : okN m x) :
    After (kidsM m) (fun (st : List Node) y => y ∈ st) x ⟨[], []⟩ (walkF (kidsM m) (fun st x => st ++ [x]) (fuelM m) x ⟨[], []⟩).2 := by
  obtain ⟨rank, hr⟩ := cyc_rank hc h
  exact walk_after (V := fun (st : List Node) y => y ∈ st) (allNodes m) (okN m) (fun x hx h2 => okN_kids hc hx h2) (fun _ _ => by simp) (fun _ _ _ h => by simp [h]) (fuelM m) x ⟨[], []⟩ hx (free_fuel m _)
    ⟨⟨fun _ => 0, fun x hx => by simp [look] at hx⟩, fun x hx => by simp [look] at hx⟩ (rank_walk hc hr _ _ x _ hx)
end S

open Go Go.AL Go.Proofs
namespace S
set_option maxRecDepth 100000

def gatesErrAll (m : Md) : Int := errL (fun _ a => errL (gateErrM m a) 0 (gatesM m a)) 0 (atsM m)

def insAll (m : Md) : List Int → List Str → Int
  | [], _ => 0
  | a :: l, sp => if (pageIns m a sp).1 ≠ 0 then (pageIns m a sp).1 else insAll m l (pageIns m a sp).2

/-- What is wrong with a model first. -/
def checkM (m : Md) : Int :=
  if nameR m.name = false then 5 else if eventsErr m ≠ 0 then eventsErr m else if pagesErr m ≠ 0 then pagesErr m
  else if gatesErrAll m ≠ 0 then gatesErrAll m else if insAll m (atsM m) [] ≠ 0 then insAll m (atsM m) []
  else if isInR m (-1) m.top = false then 5 else if groupsErr m ≠ 0 then groupsErr m else if phasesErr m ≠ 0 then phasesErr m
  else if cycR m = true then 14 else 0

theorem insErr_in {m : Md} {a : Int} {g : Mg} : ∀ {l : List Str} {k : Nat} {sp : List Str}, (insErr m a g k l sp).1 = 0 → ∀ s ∈ l, isInR m a s = true
  | [], _, _, _, s, hs => by simp at hs
  | x :: l, k, sp, h, s, hs => by
    simp only [insErr] at h
    split at h
    · cases h
    rename_i h1
    split at h
    · cases h
    have hx : isInR m a x = true := by simpa using h1
    rcases List.mem_cons.1 hs with rfl | hs
    · exact hx
    split at h
    · split at h
      · cases h
      · exact insErr_in h s hs
    · exact insErr_in h s hs

theorem gatesIns_in {m : Md} {a : Int} : ∀ {l : List Mg} {sp : List Str}, (gatesIns m a l sp).1 = 0 → ∀ g ∈ l, ∀ s ∈ g.ins, isInR m a s = true
  | [], _, _, g, hg => by simp at hg
  | x :: l, sp, h, g, hg => by
    simp only [gatesIns] at h
    split at h
    · rename_i h1; exact absurd h h1
    rename_i h1
    have h1 : (insErr m a x 0 x.ins sp).1 = 0 := by simpa using h1
    rcases List.mem_cons.1 hg with rfl | hg
    · exact insErr_in h1
    · exact gatesIns_in h g hg

theorem pageIns_in {m : Md} {a : Int} {sp : List Str} (h : (pageIns m a sp).1 = 0) : (∀ g ∈ gatesM m a, ∀ s ∈ g.ins, isInR m a s = true) ∧ (a ≠ -1 → 0 ≤ i_gate (gatesM m a) (pageTop m a) ∨ 0 ≤ i_event m.evs (pageTop m a)) := by
  unfold pageIns at h
  split at h
  · rename_i h1; exact absurd h h1
  rename_i h1
  have h1 : (gatesIns m a (gatesM m a) sp).1 = 0 := by simpa using h1
  split at h
  · cases h
  rename_i h2
  exact ⟨gatesIns_in h1, fun ha => by
    rcases Int.lt_or_le (i_gate (gatesM m a) (pageTop m a)) 0 with h3 | h3
    · rcases Int.lt_or_le (i_event m.evs (pageTop m a)) 0 with h4 | h4
      · exact absurd ⟨ha, h3, h4⟩ h2
      · exact .inr h4
    · exact .inl h3⟩

theorem insAll_in {m : Md} : ∀ {l : List Int} {sp : List Str}, insAll m l sp = 0 → ∀ a ∈ l, ∃ sp', (pageIns m a sp').1 = 0
  | [], _, _, a, ha => by simp at ha
  | x :: l, sp, h, a, ha => by
    simp only [insAll] at h
    split at h
    · rename_i h1; exact absurd h h1
    rename_i h1
    rcases List.mem_cons.1 ha with rfl | ha
    · exact ⟨sp, by simpa using h1⟩
    · exact insAll_in h a ha

theorem nameR_pos {s : Str} (h : nameR s = true) : 0 < s.length := by
  unfold nameR at h
  simp only [Bool.and_eq_true, decide_eq_true_eq] at h
  exact h.1.1.1

/-- What is found by its name has it. -/
theorem idx_name {α : Type} {f : α → Str} {l : List α} {s : Str} (h : 0 ≤ idxP (fun x => decide (f x = s)) l) : ∃ (i : Nat) (hi : i < l.length), idxP (fun x => decide (f x = s)) l = i ∧ f l[i] = s := by
  rcases idxP_cases (fun x => decide (f x = s)) l with ⟨h1, _⟩ | ⟨i, hi, h1, h2, _⟩
  · omega
  · exact ⟨i, hi, h1, of_decide_eq_true h2⟩

theorem eventsErr_zero {m : Md} (h : eventsErr m = 0) : m.evs.length ≤ 24 ∧ m.hs.length ≤ 16 ∧ (∀ (k : Nat) (hk : k < m.evs.length), evErr m k m.evs[k] = 0) ∧ (∀ (k : Nat) (hk : k < m.hs.length), hsErr m k m.hs[k] = 0) := by
  unfold eventsErr at h
  split at h
  · cases h
  split at h
  · rename_i h1; exact absurd h h1
  rename_i h1
  split at h
  · cases h
  have h1 : errL (evErr m) 0 m.evs = 0 := by simpa using h1
  refine ⟨by omega, by omega, fun k hk => ?_, fun k hk => ?_⟩
  · have := errL_zero.1 h1 k hk; simpa using this
  · have := errL_zero.1 h k hk; simpa using this

theorem gatesErrAll_zero {m : Md} (h : gatesErrAll m = 0) {a : Int} (ha : a = -1 ∨ (0 ≤ a ∧ a < (m.pages.length : Int))) : ∀ (k : Nat) (hk : k < (gatesM m a).length), gateErrM m a k (gatesM m a)[k] = 0 := by
  intro k hk
  have hm := ats_mem.2 ha
  obtain ⟨j, hj, rfl⟩ := List.getElem_of_mem hm
  have := errL_zero.1 h j hj
  have := errL_zero.1 this k hk
  simpa using this

theorem ev_name {m : Md} (h : eventsErr m = 0) {s : Str} (hs : 0 ≤ i_event m.evs s) : 0 < s.length := by
  obtain ⟨i, hi, _, h2⟩ := idx_name hs
  have := (eventsErr_zero h).2.2.1 i hi
  unfold evErr at this
  split at this
  · cases this
  rename_i h3
  rw [← h2]
  exact nameR_pos (by simpa using h3)

theorem hs_name {m : Md} (h : eventsErr m = 0) {s : Str} (hs : 0 ≤ i_house m.hs s) : 0 < s.length := by
  obtain ⟨i, hi, _, h2⟩ := idx_name hs
  have := (eventsErr_zero h).2.2.2 i hi
  unfold hsErr at this
  split at this
  · cases this
  rename_i h3
  rw [← h2]
  exact nameR_pos (by simpa using h3)

theorem gate_name {m : Md} (h : gatesErrAll m = 0) {a : Int} (ha : a = -1 ∨ (0 ≤ a ∧ a < (m.pages.length : Int))) {s : Str} (hs : 0 ≤ i_gate (gatesM m a) s) : 0 < s.length := by
  obtain ⟨i, hi, _, h2⟩ := idx_name hs
  have := gatesErrAll_zero h ha i hi
  unfold gateErrM at this
  split at this
  · cases this
  rename_i h3
  rw [← h2]
  exact nameR_pos (by simpa using h3)

/-- What a name is, is there. -/
theorem resOn_ok {m : Md} {a : Int} {s : Str} (ha : a = -1 ∨ (0 ≤ a ∧ a < (m.pages.length : Int))) (h : 0 ≤ i_event m.evs s ∨ 0 ≤ i_house m.hs s ∨ 0 ≤ i_gate (gatesM m a) s) : okN m (resOn m a s) := by
  unfold resOn
  split
  · rename_i h1; exact .inl ⟨rfl, rfl, h1, idxP_lt _ _⟩
  split
  · rename_i h2; exact .inr (.inl ⟨rfl, rfl, h2, idxP_lt _ _⟩)
  · exact .inr (.inr (mem_all.2 ⟨rfl, ha, by show 0 ≤ i_gate _ _; omega, idxP_lt _ _⟩))

/-- An input of a page. -/
structure InOk (m : Md) (a : Int) (s : Str) : Prop where
  pos : 0 < s.length
  pg : atS s = true → 0 ≤ i_page m.pages (s.drop 1)
  ok : okN m (resR m a s)

theorem inOk {m : Md} (h1 : eventsErr m = 0) (h2 : gatesErrAll m = 0) (h3 : insAll m (atsM m) [] = 0) {a : Int} (ha : a = -1 ∨ (0 ≤ a ∧ a < (m.pages.length : Int))) {s : Str} (hs : isInR m a s = true) : InOk m a s := by
  unfold isInR at hs
  by_cases hat : atS s = true
  · rw [if_pos hat] at hs
    have hs : 0 ≤ i_page m.pages (s.drop 1) := of_decide_eq_true hs
    have hp : i_page m.pages (s.drop 1) < (m.pages.length : Int) := idxP_lt _ _
    refine ⟨?_, fun _ => hs, ?_⟩
    · unfold atS at hat
      simp only [Bool.and_eq_true, decide_eq_true_eq] at hat
      exact hat.1
    · unfold resR
      rw [if_pos hat]
      obtain ⟨sp, h4⟩ := insAll_in h3 _ (ats_mem.2 (.inr ⟨hs, hp⟩))
      refine resOn_ok (.inr ⟨hs, hp⟩) ?_
      rcases (pageIns_in h4).2 (by omega) with h5 | h5
      · exact .inr (.inr h5)
      · exact .inl h5
  · rw [if_neg hat] at hs
    have hs : 0 ≤ i_event m.evs s ∨ 0 ≤ i_house m.hs s ∨ 0 ≤ i_gate (gatesM m a) s := by
      simp only [Bool.or_eq_true, decide_eq_true_eq] at hs
      rcases hs with (h | h) | h
      · exact .inl h
      · exact .inr (.inl h)
      · exact .inr (.inr h)
    refine ⟨?_, fun h => absurd h hat, ?_⟩
    · rcases hs with h | h | h
      · exact ev_name h1 h
      · exact hs_name h1 h
      · exact gate_name h2 ha h
    · unfold resR
      rw [if_neg hat]
      exact resOn_ok ha hs

theorem closed_of {m : Md} (h1 : eventsErr m = 0) (h2 : gatesErrAll m = 0) (h3 : insAll m (atsM m) [] = 0) : ClosedM m := by
  intro x hx s hs
  obtain ⟨_, ha, hi⟩ := mem_all.1 hx
  obtain ⟨sp, h4⟩ := insAll_in h3 _ (ats_mem.2 ha)
  have hin := (pageIns_in h4).1 (gateAt m x) (getD_mem (by omega)) s hs
  have := inOk h1 h2 h3 ha hin
  exact ⟨this.pos, this.pg, this.ok⟩

theorem MdC.gatesM {m : Md} (hC : MdC m) {a : Int} (ha : a = -1 ∨ (0 ≤ a ∧ a < (m.pages.length : Int))) : mgC (gatesM m a) := by
  unfold S.gatesM
  split
  · exact hC.gates
  · exact hC.pages _ (getD_mem (by omega))

theorem gatesIns_len {m : Md} {a : Int} : ∀ {l : List Mg} {sp : List Str}, (∀ x ∈ l, x.ins.length ≤ 40) → (gatesIns m a l sp).2.length ≤ sp.length + 40 * l.length
  | [], sp, _ => by simp [gatesIns]
  | g :: l, sp, h => by
    have h1 := insErr_len (m := m) (a := a) (g := g) (l := g.ins) (k := 0) (sp := sp)
    have h2 := h g (by simp)
    simp only [gatesIns]
    split
    · simp only [List.length_cons]; omega
    · have := gatesIns_len (m := m) (a := a) (l := l) (sp := (insErr m a g 0 g.ins sp).2) fun x hx => h x (by simp [hx])
      simp only [List.length_cons]; omega

theorem pageIns_len {m : Md} (hB : MdB m) {a : Int} (ha : a = -1 ∨ (0 ≤ a ∧ a < (m.pages.length : Int))) {sp : List Str} : (pageIns m a sp).2.length ≤ sp.length + 4000 := by
  obtain ⟨h1, h2⟩ := hB.gatesM ha
  have := gatesIns_len (m := m) (a := a) (l := gatesM m a) (sp := sp) h2
  unfold pageIns
  split
  · omega
  split
  · simp
  · omega


theorem c_mCheck (m : Md) (hC : MdC m) (hB : MdB m) (R : AV) (hR : R = errAV (checkM m)) : FnH Try.prog 24 [m.av] [] R [] := by
  have hpl := hB.pages
  refine FnH.intro lay mixed Try.func24 (by kernel_rfl) rfl (by kernel_rfl) rfl fun hok => ?_
  ((try dsimp only [argC, succC]); (try dsimp only [awp]); (conv => whnf))
  refine .pure _ _ ?_ ⟨rfl, rfl⟩ (c_tokenName m.name) fun _ => ?_
  · exact leL_refl _
  ((try dsimp only [awp]); (conv => whnf))
  refine And.intro (fun g1 => ?_) (fun g1 => ?_)
  · have g1 : nameR m.name = false := by simpa using g1
    obtain rfl : R = .ifc 52 (.int .i64 5) := by rw [hR, show checkM m = 5 from by unfold checkM; rw [if_pos g1]]; rfl
    ((try dsimp only [awp]); (conv => whnf))
    (refine FinSpec.mono ?_; (conv => whnf); refine ⟨?_, rfl⟩; (conv => whnf))
    (repeat' (first | exact rfl | exact trivial | exact HWk.refl rfl | exact leRL_refl _ | (refine And.intro ?_ ?_)))
  have g1 : ¬ nameR m.name = false := by simpa using g1
  ((try dsimp only [awp]); (conv => whnf))
  have cE := c_checkEvents m hC _ rfl
  by_cases g2 : eventsErr m ≠ 0
  · obtain rfl : R = .ifc 52 (.int .i64 (eventsErr m)) := by rw [hR, show checkM m = eventsErr m from by unfold checkM; rw [if_neg g1]; rw [if_pos g2], errAV_ne g2]
    rw [errAV_ne g2] at cE
    refine .pure _ _ ?_ ⟨rfl, rfl⟩ cE fun _ => ?_
    · exact leL_refl _
    ((try dsimp only [awp]); (conv => whnf))
    (refine FinSpec.mono ?_; (conv => whnf); refine ⟨?_, rfl⟩; (conv => whnf))
    (repeat' (first | exact rfl | exact trivial | exact HWk.refl rfl | exact leRL_refl _ | (refine And.intro ?_ ?_)))
  rw [show eventsErr m = 0 from by simpa using g2, errAV_zero] at cE
  refine .pure _ _ ?_ ⟨rfl, rfl⟩ cE fun _ => ?_
  · exact leL_refl _
  ((try dsimp only [awp]); (conv => whnf))
  have cE := c_checkPages m hB _ rfl
  by_cases g3 : pagesErr m ≠ 0
  · obtain rfl : R = .ifc 52 (.int .i64 (pagesErr m)) := by rw [hR, show checkM m = pagesErr m from by unfold checkM; rw [if_neg g1, if_neg g2]; rw [if_pos g3], errAV_ne g3]
    rw [errAV_ne g3] at cE
    refine .pure _ _ ?_ ⟨rfl, rfl⟩ cE fun _ => ?_
    · exact leL_refl _
    ((try dsimp only [awp]); (conv => whnf))
    (refine FinSpec.mono ?_; (conv => whnf); refine ⟨?_, rfl⟩; (conv => whnf))
    (repeat' (first | exact rfl | exact trivial | exact HWk.refl rfl | exact leRL_refl _ | (refine And.intro ?_ ?_)))
  rw [show pagesErr m = 0 from by simpa using g3, errAV_zero] at cE
  refine .pure _ _ ?_ ⟨rfl, rfl⟩ cE fun _ => ?_
  · exact leL_refl _
  ((try dsimp only [awp]); (conv => whnf))
  refine LoopE.of <| LoopSpec.inv (.refl _ _) (fun (k : Nat) => k ≤ m.pages.length + 1 ∧ gatesErrAll m = errL (fun _ a => errL (gateErrM m a) 0 (gatesM m a)) k ((atsM m).drop k)) (fun (k : Nat) => [(5, .int .i64 ((k : Int) - 1))]) (fun _ => _) (fun (k : Nat) => m.pages.length + 1 - k) 0 ?_ (fun _ => rfl) ?_ ?_
  · exact ⟨Nat.zero_le _, rfl⟩
  · (repeat' (first | exact rfl | exact trivial | exact HWk.refl rfl | exact leRL_refl _ | (refine And.intro ?_ ?_)))
  rintro k ⟨hk, hn⟩ _
  ((try dsimp only [awp]); (conv => whnf))
  refine And.intro (fun h => ?_) (fun h => ?_)
  · have hkl : k < m.pages.length + 1 := by simp only [List.length_map] at h; omega
    have ha : (k : Int) - 1 = -1 ∨ (0 ≤ (k : Int) - 1 ∧ (k : Int) - 1 < (m.pages.length : Int)) := by omega
    rw [drop_of_get? (ats_get hkl)] at hn
    simp only [errL] at hn
    have cE := c_checkGates m _ ha (hC.gatesM ha) _ rfl
    by_cases g4 : errL (gateErrM m ((k : Int) - 1)) 0 (gatesM m ((k : Int) - 1)) ≠ 0
    · rw [if_pos g4] at hn
      rw [← hn] at cE g4
      obtain rfl : R = .ifc 52 (.int .i64 (gatesErrAll m)) := by rw [hR, show checkM m = gatesErrAll m from by unfold checkM; rw [if_neg g1, if_neg g2, if_neg g3, if_pos g4], errAV_ne g4]
      rw [errAV_ne g4] at cE
      ((try dsimp only [awp]); (conv => whnf))
      refine .pure _ _ ?_ ⟨rfl, rfl⟩ cE fun _ => ?_
      · exact leL_refl _
      ((try dsimp only [awp]); (conv => whnf))
      (refine FinSpec.mono ?_; (conv => whnf); refine ⟨?_, rfl⟩; (conv => whnf))
      (repeat' (first | exact rfl | exact trivial | exact HWk.refl rfl | exact leRL_refl _ | (refine And.intro ?_ ?_)))
    · rw [if_neg g4] at hn
      rw [show errL (gateErrM m ((k : Int) - 1)) 0 (gatesM m ((k : Int) - 1)) = 0 from by simpa using g4, errAV_zero] at cE
      ((try dsimp only [awp]); (conv => whnf))
      refine .pure _ _ ?_ ⟨rfl, rfl⟩ cE fun _ => ?_
      · exact leL_refl _
      ((try dsimp only [awp]); (conv => whnf))
      (refine ⟨inr64 (by omega) (by omega), ?_⟩; (conv => whnf))
      refine ⟨k + 1, ?_, ?_, ?_⟩
      · exact ⟨hkl, hn⟩
      · refine ⟨?_, .mk ?_ ⟨by simp, trivial⟩⟩
        · (repeat' (first | exact rfl | exact trivial | exact HWk.refl rfl | exact leRL_refl _ | (refine And.intro ?_ ?_)))
          all_goals (show _ = _; congr 1; omega)
        · (repeat' (first | exact rfl | exact trivial | exact HWk.refl rfl | exact leRL_refl _ | (refine And.intro ?_ ?_)))
      · omega
  have hkl : m.pages.length + 1 ≤ k := by simp only [List.length_map] at h; omega
  rw [List.drop_eq_nil_of_le (by rw [ats_len]; omega)] at hn
  simp only [errL] at hn
  have g4 : ¬ gatesErrAll m ≠ 0 := by rw [hn]; simp
  have z4 := hn
  clear h hn hk hkl
  ((try dsimp only [awp]); (conv => whnf))
  refine LoopE.of <| LoopSpec.inv (.grow 7 1 [] _ rfl (.inl ⟨rfl, rfl⟩) (.refl _ _)) (fun (q : Nat × List Str) => q.1 ≤ m.pages.length + 1 ∧ insAll m (atsM m) [] = insAll m ((atsM m).drop q.1) q.2 ∧ q.2.length ≤ 4000 * q.1)
    (fun q => [(8, .int .i64 ((q.1 : Int) - 1)), (7, .sl 1 (q.2.map .str) (.own 1))]) (fun q => [(1, .tok 1 q.2.length), (0, .box m.av)]) (fun q => m.pages.length + 1 - q.1) (0, []) ?_ (fun _ => rfl) ?_ ?_
  · exact ⟨Nat.zero_le _, rfl, by simp⟩
  · refine ⟨?_, .mk ?_ ⟨by simp, by simp, trivial⟩⟩
    · (repeat' (first | exact rfl | exact trivial | exact HWk.refl rfl | exact leRL_refl _ | (refine And.intro ?_ ?_)))
    · (repeat' (first | exact rfl | exact trivial | exact HWk.refl rfl | exact leRL_refl _ | (refine And.intro ?_ ?_)))
  rintro ⟨k, sp⟩ ⟨hk, hn, hsp⟩ _
  dsimp only at hk hn hsp
  ((try dsimp only [awp]); (conv => whnf))
  refine And.intro (fun h => ?_) (fun h => ?_)
  · have hkl : k < m.pages.length + 1 := by simp only [List.length_map] at h; omega
    have ha : (k : Int) - 1 = -1 ∨ (0 ≤ (k : Int) - 1 ∧ (k : Int) - 1 < (m.pages.length : Int)) := by omega
    rw [drop_of_get? (ats_get hkl)] at hn
    simp only [insAll] at hn
    have hc := fun R G => c_checkInputs m ((k : Int) - 1) sp ha (hB.gatesM ha) (by omega) R G
    have hpi := pageIns_len hB ha (sp := sp)
    generalize pageIns m ((k : Int) - 1) sp = pi at *
    obtain ⟨pe, ps⟩ := pi
    dsimp only at hn hc hpi
    ((try dsimp only [awp]); (conv => whnf))
    by_cases hE : pe = 0
    · rw [if_neg (by simp [hE])] at hn
      refine .gen _ _ (FnH.frame [1] (hc _ _ (by rw [if_pos hE]) (by rw [if_pos hE])) ⟨rfl, rfl, rfl, rfl⟩ ?_ ?_) fun _ => ?_
      · (repeat' (first | exact rfl | exact trivial | exact HWk.refl rfl | exact leRL_refl _ | (refine And.intro ?_ ?_)))
      · (repeat' (first | exact rfl | exact trivial | exact HWk.refl rfl | exact leRL_refl _ | (refine And.intro ?_ ?_)))
      ((try dsimp only [awp]); (conv => whnf))
      (refine ⟨inr64 (by omega) (by omega), ?_⟩; (conv => whnf))
      refine ⟨(k + 1, ps), ?_, ?_, ?_⟩
      · exact ⟨hkl, hn, by show ps.length ≤ 4000 * (k + 1); omega⟩
      · refine ⟨?_, .mk ?_ ⟨by simp, by simp, trivial⟩⟩
        · (repeat' (first | exact rfl | exact trivial | exact HWk.refl rfl | exact leRL_refl _ | (refine And.intro ?_ ?_)))
          all_goals (show _ = _; congr 1; omega)
        · (repeat' (first | exact rfl | exact trivial | exact HWk.refl rfl | exact leRL_refl _ | (refine And.intro ?_ ?_)))
      · show m.pages.length + 1 - (k + 1) < m.pages.length + 1 - k
        omega
    · rw [if_pos hE] at hn
      have g5 : insAll m (atsM m) [] ≠ 0 := by rw [hn]; exact hE
      obtain rfl : R = .ifc 52 (.int .i64 pe) := by rw [hR, show checkM m = pe from by unfold checkM; rw [if_neg g1, if_neg g2, if_neg g3, if_neg g4, if_pos g5, hn], errAV_ne hE]
      refine .gen _ _ (FnH.frame [1] (hc _ _ (by rw [if_neg hE]) (by rw [if_neg hE])) ⟨rfl, rfl, rfl, rfl⟩ ?_ ?_) fun _ => ?_
      · (repeat' (first | exact rfl | exact trivial | exact HWk.refl rfl | exact leRL_refl _ | (refine And.intro ?_ ?_)))
      · (repeat' (first | exact rfl | exact trivial | exact HWk.refl rfl | exact leRL_refl _ | (refine And.intro ?_ ?_)))
      ((try dsimp only [awp]); (conv => whnf))
      (refine FinSpec.mono ?_; (conv => whnf); refine ⟨?_, rfl⟩; (conv => whnf))
      (repeat' (first | exact rfl | exact trivial | exact HWk.refl rfl | exact leRL_refl _ | (refine And.intro ?_ ?_)))
  have hkl : m.pages.length + 1 ≤ k := by simp only [List.length_map] at h; omega
  rw [List.drop_eq_nil_of_le (by rw [ats_len]; omega)] at hn
  simp only [insAll] at hn
  have g5 : ¬ insAll m (atsM m) [] ≠ 0 := by rw [hn]; simp
  have z5 := hn
  clear h hn hk hkl hsp
  ((try dsimp only [awp]); (conv => whnf))
  refine .pure _ _ ?_ ⟨rfl, rfl⟩ (c_isInput m (-1) m.top (.inl rfl)) fun _ => ?_
  · exact leL_refl _
  ((try dsimp only [awp]); (conv => whnf))
  refine And.intro (fun g6 => ?_) (fun g6 => ?_)
  · have g6 : isInR m (-1) m.top = false := by simpa using g6
    obtain rfl : R = .ifc 52 (.int .i64 5) := by rw [hR, show checkM m = 5 from by unfold checkM; rw [if_neg g1, if_neg g2, if_neg g3, if_neg g4, if_neg g5, if_pos g6]]; rfl
    ((try dsimp only [awp]); (conv => whnf))
    (refine FinSpec.mono ?_; (conv => whnf); refine ⟨?_, rfl⟩; (conv => whnf))
    (repeat' (first | exact rfl | exact trivial | exact HWk.refl rfl | exact leRL_refl _ | (refine And.intro ?_ ?_)))
  have g6 : ¬ isInR m (-1) m.top = false := by simpa using g6
  ((try dsimp only [awp]); (conv => whnf))
  have cE := c_checkGroups m hC hB _ rfl
  by_cases g7 : groupsErr m ≠ 0
  · obtain rfl : R = .ifc 52 (.int .i64 (groupsErr m)) := by rw [hR, show checkM m = groupsErr m from by unfold checkM; rw [if_neg g1, if_neg g2, if_neg g3, if_neg g4, if_neg g5, if_neg g6]; rw [if_pos g7], errAV_ne g7]
    rw [errAV_ne g7] at cE
    refine .pure _ _ ?_ ⟨rfl, rfl⟩ cE fun _ => ?_
    · exact leL_refl _
    ((try dsimp only [awp]); (conv => whnf))
    (refine FinSpec.mono ?_; (conv => whnf); refine ⟨?_, rfl⟩; (conv => whnf))
    (repeat' (first | exact rfl | exact trivial | exact HWk.refl rfl | exact leRL_refl _ | (refine And.intro ?_ ?_)))
  rw [show groupsErr m = 0 from by simpa using g7, errAV_zero] at cE
  refine .pure _ _ ?_ ⟨rfl, rfl⟩ cE fun _ => ?_
  · exact leL_refl _
  ((try dsimp only [awp]); (conv => whnf))
  have cE := c_checkPhases m hC hB _ rfl
  by_cases g8 : phasesErr m ≠ 0
  · obtain rfl : R = .ifc 52 (.int .i64 (phasesErr m)) := by rw [hR, show checkM m = phasesErr m from by unfold checkM; rw [if_neg g1, if_neg g2, if_neg g3, if_neg g4, if_neg g5, if_neg g6, if_neg g7]; rw [if_pos g8], errAV_ne g8]
    rw [errAV_ne g8] at cE
    refine .pure _ _ ?_ ⟨rfl, rfl⟩ cE fun _ => ?_
    · exact leL_refl _
    ((try dsimp only [awp]); (conv => whnf))
    (refine FinSpec.mono ?_; (conv => whnf); refine ⟨?_, rfl⟩; (conv => whnf))
    (repeat' (first | exact rfl | exact trivial | exact HWk.refl rfl | exact leRL_refl _ | (refine And.intro ?_ ?_)))
  rw [show phasesErr m = 0 from by simpa using g8, errAV_zero] at cE
  refine .pure _ _ ?_ ⟨rfl, rfl⟩ cE fun _ => ?_
  · exact leL_refl _
  ((try dsimp only [awp]); (conv => whnf))
  have cy := c_cyclic m hB (closed_of (by simpa using g2) z4 z5)
  refine .pure _ _ ?_ ⟨rfl, rfl⟩ cy fun _ => ?_
  · exact leL_refl _
  ((try dsimp only [awp]); (conv => whnf))
  refine And.intro (fun g9 => ?_) (fun g9 => ?_)
  · obtain rfl : R = .ifc 52 (.int .i64 14) := by rw [hR, show checkM m = 14 from by unfold checkM; rw [if_neg g1, if_neg g2, if_neg g3, if_neg g4, if_neg g5, if_neg g6, if_neg g7, if_neg g8, if_pos g9]]; rfl
    ((try dsimp only [awp]); (conv => whnf))
    (refine FinSpec.mono ?_; (conv => whnf); refine ⟨?_, rfl⟩; (conv => whnf))
    (repeat' (first | exact rfl | exact trivial | exact HWk.refl rfl | exact leRL_refl _ | (refine And.intro ?_ ?_)))
  · obtain rfl : R = .nilI := by rw [hR, show checkM m = 0 from by unfold checkM; rw [if_neg g1, if_neg g2, if_neg g3, if_neg g4, if_neg g5, if_neg g6, if_neg g7, if_neg g8, if_neg (by rw [g9]; simp)]]; rfl
    ((try dsimp only [awp]); (conv => whnf))
    (refine FinSpec.mono ?_; (conv => whnf); refine ⟨?_, rfl⟩; (conv => whnf))
    (repeat' (first | exact rfl | exact trivial | exact HWk.refl rfl | exact leRL_refl _ | (refine And.intro ?_ ?_)))
end S

open Go Go.AL Go.Proofs
namespace S
set_option maxRecDepth 100000

/-- What is known of a model that is accepted. -/
structure MOk (m : Md) : Prop where
  name : nameR m.name = true
  evs : eventsErr m = 0
  pages : pagesErr m = 0
  gates : gatesErrAll m = 0
  ins : insAll m (atsM m) [] = 0
  top : isInR m (-1) m.top = true
  grs : groupsErr m = 0
  phs : phasesErr m = 0
  cyc : cycR m = false

theorem checkM_ok {m : Md} (h : checkM m = 0) : MOk m := by
  unfold checkM at h
  split at h
  · cases h
  rename_i h1
  split at h
  · rename_i h2; exact absurd h h2
  rename_i h2
  split at h
  · rename_i h2; exact absurd h h2
  rename_i h3
  split at h
  · rename_i h2; exact absurd h h2
  rename_i h4
  split at h
  · rename_i h2; exact absurd h h2
  rename_i h5
  split at h
  · cases h
  rename_i h6
  split at h
  · rename_i h2; exact absurd h h2
  rename_i h7
  split at h
  · rename_i h2; exact absurd h h2
  rename_i h8
  split at h
  · cases h
  rename_i h9
  exact ⟨by simpa using h1, by simpa using h2, by simpa using h3, by simpa using h4, by simpa using h5, by simpa using h6, by simpa using h7, by simpa using h8, by simpa using h9⟩

theorem checkM_of {m : Md} (h : MOk m) : checkM m = 0 := by
  unfold checkM
  rw [if_neg (by simp [h.name]), if_neg (by simp [h.evs]), if_neg (by simp [h.pages]), if_neg (by simp [h.gates]), if_neg (by simp [h.ins]), if_neg (by simp [h.top]), if_neg (by simp [h.grs]), if_neg (by simp [h.phs]), if_neg (by simp [h.cyc])]

theorem MOk.closed {m : Md} (h : MOk m) : ClosedM m := closed_of h.evs h.gates h.ins
theorem MOk.inOk {m : Md} (h : MOk m) {a : Int} (ha : a = -1 ∨ (0 ≤ a ∧ a < (m.pages.length : Int))) {s : Str} (hs : isInR m a s = true) : InOk m a s := S.inOk h.evs h.gates h.ins ha hs
theorem MOk.lens {m : Md} (h : MOk m) : m.evs.length ≤ 24 ∧ m.hs.length ≤ 16 := ⟨(eventsErr_zero h.evs).1, (eventsErr_zero h.evs).2.1⟩

def inputR (m : Md) (a : Int) (s : Str) : Node × Int :=
  if checkM m ≠ 0 then ((0, 0, 0), checkM m) else if a < -1 then ((0, 0, 0), 10) else if (m.pages.length : Int) ≤ a then ((0, 0, 0), 10)
  else if isInR m a s = false then ((0, 0, 0), 5) else (resR m a s, 0)


theorem c_Input (m : Md) (a : Int) (s : Str) (hC : MdC m) (hB : MdB m) (R : AV) (hR : R = .tup [.int .i64 (inputR m a s).1.1, .int .i64 (inputR m a s).1.2.1, .int .i64 (inputR m a s).1.2.2, errAV (inputR m a s).2]) : FnH Try.prog 27 [m.av, .int .i64 a, .str s] [] R [] := by
  have cc := c_mCheck m hC hB _ rfl
  have hpl := hB.pages
  refine FnH.intro lay mixed Try.func27 (by kernel_rfl) rfl (by kernel_rfl) rfl fun hok => ?_
  ((try dsimp only [argC, succC]); (try dsimp only [awp]); (conv => whnf))
  refine .pure _ _ ?_ ⟨rfl, errAV_bnd _⟩ cc fun _ => ?_
  · exact leL_refl _
  by_cases g0 : checkM m ≠ 0
  · rw [errAV_ne g0]
    rw [show inputR m a s = ((0, 0, 0), checkM m) from by unfold inputR; rw [if_pos g0]] at hR
    rw [errAV_ne g0] at hR
    subst hR
    ((try dsimp only [awp]); (conv => whnf))
    (refine FinSpec.mono ?_; (conv => whnf); refine ⟨?_, rfl⟩; (conv => whnf))
    (repeat' (first | exact rfl | exact trivial | exact HWk.refl rfl | exact leRL_refl _ | (refine And.intro ?_ ?_)))
  have h0 : checkM m = 0 := by simpa using g0
  have hM := checkM_ok h0
  rw [h0, errAV_zero]
  ((try dsimp only [awp]); (conv => whnf))
  refine And.intro (fun g1 => ?_) (fun g1 => ?_)
  · rw [show inputR m a s = ((0, 0, 0), 10) from by unfold inputR; rw [if_neg g0, if_pos g1]] at hR
    rw [errAV_ne (by decide)] at hR
    subst hR
    ((try dsimp only [awp]); (conv => whnf))
    (refine FinSpec.mono ?_; (conv => whnf); refine ⟨?_, rfl⟩; (conv => whnf))
    (repeat' (first | exact rfl | exact trivial | exact HWk.refl rfl | exact leRL_refl _ | (refine And.intro ?_ ?_)))
  ((try dsimp only [awp]); (conv => whnf))
  refine And.intro (fun g2 => ?_) (fun g2 => ?_)
  · have g2 : (m.pages.length : Int) ≤ a := by simpa using g2
    rw [show inputR m a s = ((0, 0, 0), 10) from by unfold inputR; rw [if_neg g0, if_neg g1, if_pos g2]] at hR
    rw [errAV_ne (by decide)] at hR
    subst hR
    ((try dsimp only [awp]); (conv => whnf))
    (refine FinSpec.mono ?_; (conv => whnf); refine ⟨?_, rfl⟩; (conv => whnf))
    (repeat' (first | exact rfl | exact trivial | exact HWk.refl rfl | exact leRL_refl _ | (refine And.intro ?_ ?_)))
  have g2 : ¬ (m.pages.length : Int) ≤ a := by simpa using g2
  have ha : a = -1 ∨ (0 ≤ a ∧ a < (m.pages.length : Int)) := by omega
  ((try dsimp only [awp]); (conv => whnf))
  refine .pure _ _ ?_ ⟨rfl, rfl⟩ (c_isInput m a s ha) fun _ => ?_
  · exact leL_refl _
  ((try dsimp only [awp]); (conv => whnf))
  refine And.intro (fun g3 => ?_) (fun g3 => ?_)
  · have g3 : isInR m a s = false := by simpa using g3
    rw [show inputR m a s = ((0, 0, 0), 5) from by unfold inputR; rw [if_neg g0, if_neg g1, if_neg g2, if_pos g3]] at hR
    rw [errAV_ne (by decide)] at hR
    subst hR
    ((try dsimp only [awp]); (conv => whnf))
    (refine FinSpec.mono ?_; (conv => whnf); refine ⟨?_, rfl⟩; (conv => whnf))
    (repeat' (first | exact rfl | exact trivial | exact HWk.refl rfl | exact leRL_refl _ | (refine And.intro ?_ ?_)))
  have g3 : isInR m a s = true := by simpa using g3
  have hin := hM.inOk ha g3
  have cr := c_resolve m a s hin.pos ha hin.pg
  rw [show inputR m a s = (resR m a s, 0) from by unfold inputR; rw [if_neg g0, if_neg g1, if_neg g2, if_neg (by simp [g3])]] at hR
  rw [errAV_zero] at hR
  generalize resR m a s = r at *
  subst hR
  ((try dsimp only [awp]); (conv => whnf))
  refine .pure _ _ ?_ ⟨rfl, rfl⟩ cr fun _ => ?_
  · exact leL_refl _
  ((try dsimp only [awp]); (conv => whnf))
  (refine ADraw.auto (by kernel_rfl) ?_; (conv => whnf))
  (refine FinSpec.mono ?_; (conv => whnf); refine ⟨?_, rfl⟩; (conv => whnf))
  (repeat' (first | exact rfl | exact trivial | exact HWk.refl rfl | exact leRL_refl _ | (refine And.intro ?_ ?_)))

/-- The events of a list of things, as a set. -/
def bitsV (l : List Node) : Nat := l.foldl (fun b x => if x.1 = 0 ∧ x.2.2.toNat < 24 then b ||| 2 ^ x.2.2.toNat else b) 0

theorem bits_lt : ∀ (l : List Node) (b : Nat), b < 2 ^ 24 → l.foldl (fun b x => if x.1 = 0 ∧ x.2.2.toNat < 24 then b ||| 2 ^ x.2.2.toNat else b) b < 2 ^ 24
  | [], _, h => h
  | x :: l, b, h => by
    simp only [List.foldl_cons]
    refine bits_lt l _ ?_
    split
    · rename_i h1
      exact Nat.or_lt_two_pow h (Nat.pow_lt_pow_right (by omega) h1.2)
    · exact h

theorem bitsV_lt (l : List Node) : bitsV l < 2 ^ 24 := bits_lt l 0 (by decide)

theorem bitsV_snoc (l : List Node) (x : Node) : bitsV (l ++ [x]) = if x.1 = 0 ∧ x.2.2.toNat < 24 then bitsV l ||| 2 ^ x.2.2.toNat else bitsV l := by
  unfold bitsV
  rw [List.foldl_append]; rfl

/-- Is one of the things a dynamic gate? -/
def dynV (m : Md) (l : List Node) : Bool := l.any fun x => decide (x.1 = 2) && decide (6 ≤ (gateAt m x).kind)

abbrev walkV (m : Md) : Node → WS (List Node) → Bool × WS (List Node) := walkF (kidsM m) (fun st x => st ++ [x]) (fuelM m)

/-- What Top depends on. -/
def visitedM (m : Md) : List Node := (walkV m (resR m (-1) m.top) ⟨[], []⟩).2.st

theorem c_Used1 (m : Md) (hM : MOk m) (l : List Node) (x : Node) (hx : okN m x) : FnH Try.prog 64 [nAV x, .ptr 0 [] 0] [(0, .box (.int .i64 (bitsV l)))] (.tup []) [(0, .box (.int .i64 (bitsV (l ++ [x]))))] := by
  have hb := bitsV_lt l
  have hs := bitsV_snoc l x
  have hl := hM.lens.1
  refine FnH.intro lay mixed Try.func64 (by kernel_rfl) rfl (by kernel_rfl) rfl fun hok => ?_
  ((try dsimp only [argC, succC]); (try dsimp only [awp]); (conv => whnf))
  refine And.intro (fun h => ?_) (fun h => ?_)
  · have h24 : 0 ≤ x.2.2 ∧ x.2.2.toNat < 24 := by
      rcases hx with h1 | h1 | h1
      · omega
      · omega
      · have := (mem_all.1 h1).1; omega
    rw [if_pos ⟨h, h24.2⟩] at hs
    rw [hs]
    obtain ⟨j, hj⟩ : ∃ j : Nat, x.2.2 = j := ⟨x.2.2.toNat, by omega⟩
    rw [hj] at h24
    have hpj : 2 ^ j < 2 ^ 24 := Nat.pow_lt_pow_right (by omega) (by omega)
    ((try dsimp only [awp]); (conv => whnf))
    (refine ADraw.auto (by kernel_rfl) ?_; (conv => whnf))
    refine ⟨by omega, ?_⟩
    rw [hj, shl_one (by omega)]
    (conv => whnf)
    rw [or_nat (by omega) (by omega)]
    refine ⟨⟨_, _, .refl _ _, ?_⟩⟩
    (conv => whnf)
    refine ⟨trivial, rfl, by simp [nextId], .mk ?_ ⟨by simp, trivial⟩⟩
    (repeat' (first | exact rfl | exact trivial | exact HWk.refl rfl | exact leRL_refl _ | (refine And.intro ?_ ?_)))
  · rw [if_neg (fun e => h e.1)] at hs
    rw [hs]
    ((try dsimp only [awp]); (conv => whnf))
    refine ⟨⟨_, _, .refl _ _, ?_⟩⟩
    (conv => whnf)
    refine ⟨trivial, rfl, by simp [nextId], .mk ?_ ⟨by simp, trivial⟩⟩
    (repeat' (first | exact rfl | exact trivial | exact HWk.refl rfl | exact leRL_refl _ | (refine And.intro ?_ ?_)))
end S

open Go Go.AL Go.Proofs
namespace S
set_option maxRecDepth 100000

theorem dynV_snoc (m : Md) (l : List Node) (x : Node) : dynV m (l ++ [x]) = (dynV m l || (decide (x.1 = 2) && decide (6 ≤ (gateAt m x).kind))) := by
  unfold dynV
  rw [List.any_append]; simp


theorem c_Dyn1 (m : Md) (l : List Node) (x : Node) (hx : okN m x) : FnH Try.prog 65 [nAV x, .ptr 1 [] 0, .ptr 0 [] 0] [(1, .box (.bool (dynV m l))), (0, .box m.av)] (.tup []) [(1, .box (.bool (dynV m (l ++ [x])))), (0, .box m.av)] := by
  have hs := dynV_snoc m l x
  have cG := fun h => c_gatesOf m x.2.1 h
  refine FnH.intro lay mixed Try.func65 (by kernel_rfl) rfl (by kernel_rfl) rfl fun hok => ?_
  ((try dsimp only [argC, succC]); (try dsimp only [awp]); (conv => whnf))
  refine ADraw.mk ⟨[false, true, true, false, true, true, false, true, false, true, true, false, true, true, false, true, true, true, false], by kernel_rfl, ?_⟩
  (conv => whnf)
  refine And.intro (fun h1 => ?_) (fun h1 => ?_)
  · rw [h1, Bool.true_or] at hs
    rw [hs]
    ((try dsimp only [awp]); (conv => whnf))
    refine ⟨⟨_, _, .refl _ _, ?_⟩⟩
    (conv => whnf)
    refine ⟨trivial, rfl, by simp [nextId], .mk ?_ ⟨by simp, by simp, trivial⟩⟩
    (repeat' (first | exact rfl | exact trivial | exact HWk.refl rfl | exact leRL_refl _ | (refine And.intro ?_ ?_)))
    all_goals rfl
  rw [h1, Bool.false_or] at hs
  ((try dsimp only [awp]); (conv => whnf))
  refine And.intro (fun h2 => ?_) (fun h2 => ?_)
  · have hm : x ∈ allNodes m := by
      rcases hx with h | h | h
      · omega
      · omega
      · exact h
    obtain ⟨_, hpg, hix⟩ := mem_all.1 hm
    rw [decide_eq_true h2, Bool.true_and] at hs
    rw [hs]
    ((try dsimp only [awp]); (conv => whnf))
    refine ACallP.pure _ _ ?_ ⟨rfl, rfl⟩ (cG hpg) ?_
    · (repeat' (first | exact rfl | exact trivial | exact HWk.refl rfl | exact leRL_refl _ | (refine And.intro ?_ ?_)))
    ((try dsimp only [awp]); (conv => whnf))
    refine aidxD default hix ?_
    rw [show (gatesM m x.2.1).getD x.2.2.toNat default = gateAt m x from rfl]
    ((try dsimp only [awp]); (conv => whnf))
    refine ⟨⟨_, _, .refl _ _, ?_⟩⟩
    (conv => whnf)
    refine ⟨trivial, rfl, by simp [nextId], .mk ?_ ⟨by simp, by simp, trivial⟩⟩
    (repeat' (first | exact rfl | exact trivial | exact HWk.refl rfl | exact leRL_refl _ | (refine And.intro ?_ ?_)))
    all_goals (first | (show _ ↔ _; simp; done) | (show (_ : Bool) = _; simp; done))
  · rw [decide_eq_false h2, Bool.false_and] at hs
    rw [hs]
    ((try dsimp only [awp]); (conv => whnf))
    refine ⟨⟨_, _, .refl _ _, ?_⟩⟩
    (conv => whnf)
    refine ⟨trivial, rfl, by simp [nextId], .mk ?_ ⟨by simp, by simp, trivial⟩⟩
    (repeat' (first | exact rfl | exact trivial | exact HWk.refl rfl | exact leRL_refl _ | (refine And.intro ?_ ?_)))
    all_goals rfl

def usedR (m : Md) : Nat := bitsV (visitedM m)
def dynR (m : Md) : Bool := dynV m (visitedM m)

theorem c_Used (m : Md) (hC : MdC m) (hB : MdB m) (R : AV) (hR : R = if checkM m = 0 then .tup [.int .i64 (usedR m), .nilI] else .tup [.int .i64 0, .ifc 52 (.int .i64 (checkM m))]) : FnH Try.prog 25 [m.av] [] R [] := by
  have cc := c_mCheck m hC hB _ rfl
  by_cases g0 : checkM m ≠ 0
  · rw [errAV_ne g0] at cc
    rw [if_neg g0] at hR
    subst hR
    refine FnH.intro lay mixed Try.func25 (by kernel_rfl) rfl (by kernel_rfl) rfl fun hok => ?_
    ((try dsimp only [argC, succC]); (try dsimp only [awp]); (conv => whnf))
    refine .pure _ _ ?_ ⟨rfl, rfl⟩ cc fun _ => ?_
    · exact leL_refl _
    ((try dsimp only [awp]); (conv => whnf))
    (refine FinSpec.mono ?_; (conv => whnf); refine ⟨?_, rfl⟩; (conv => whnf))
    (repeat' (first | exact rfl | exact trivial | exact HWk.refl rfl | exact leRL_refl _ | (refine And.intro ?_ ?_)))
  have h0 : checkM m = 0 := by simpa using g0
  have hM := checkM_ok h0
  rw [h0, errAV_zero] at cc
  rw [if_pos h0] at hR
  subst hR
  have hin := hM.inOk (.inl rfl) hM.top
  have cr := c_resolve m (-1) m.top hin.pos (.inl rfl) hin.pg
  have cw := c_walkA m 64 (fun st => .int .i64 (bitsV st)) (fun _ _ => rfl) (fun _ _ => rfl) (fun st x => st ++ [x]) (allNodes m) (okN m) (nodeOk hB hM.closed) (fun st x hx => c_Used1 m hM st x hx) (fuelM m) (resR m (-1) m.top) ⟨[], []⟩ hin.ok (free_fuel m _)
  have hv : visitedM m = (walkF (kidsM m) (fun st x => st ++ [x]) (fuelM m) (resR m (-1) m.top) ⟨[], []⟩).2.st := rfl
  generalize walkF (kidsM m) (fun st x => st ++ [x]) (fuelM m) (resR m (-1) m.top) ⟨[], []⟩ = r at *
  obtain ⟨rb, ⟨res, rst⟩⟩ := r
  dsimp only at hv
  unfold usedR
  rw [hv]
  generalize resR m (-1) m.top = x at *
  refine FnH.intro lay mixed Try.func25 (by kernel_rfl) rfl (by kernel_rfl) rfl fun hok => ?_
  ((try dsimp only [argC, succC]); (try dsimp only [awp]); (conv => whnf))
  refine .pure _ _ ?_ ⟨rfl, rfl⟩ cc fun _ => ?_
  · exact leL_refl _
  ((try dsimp only [awp]); (conv => whnf))
  refine ADraw.mk ⟨[false, false, true, false, true, false, true, false], by kernel_rfl, ?_⟩
  (conv => whnf)
  refine ACallP.pure _ _ ?_ ⟨rfl, rfl⟩ cr ?_
  · (repeat' (first | exact rfl | exact trivial | exact HWk.refl rfl | exact leRL_refl _ | (refine And.intro ?_ ?_)))
  ((try dsimp only [awp]); (conv => whnf))
  refine .gen _ _ (FnH.frame [1, 2] cw ⟨rfl, rfl, rfl, rfl⟩ ?_ ?_) fun _ => ?_
  · (repeat' (first | exact rfl | exact trivial | exact HWk.refl rfl | exact leRL_refl _ | (refine And.intro ?_ ?_)))
  · (repeat' (first | exact rfl | exact trivial | exact HWk.refl rfl | exact leRL_refl _ | (refine And.intro ?_ ?_)))
  ((try dsimp only [awp]); (conv => whnf))
  (refine FinSpec.mono ?_; (conv => whnf); refine ⟨?_, rfl⟩; (conv => whnf))
  (repeat' (first | exact rfl | exact trivial | exact HWk.refl rfl | exact leRL_refl _ | (refine And.intro ?_ ?_)))

theorem c_Dynamic (m : Md) (hC : MdC m) (hB : MdB m) (R : AV) (hR : R = if checkM m = 0 then .tup [.bool (dynR m), .nilI] else .tup [.bool false, .ifc 52 (.int .i64 (checkM m))]) : FnH Try.prog 29 [m.av] [] R [] := by
  have cc := c_mCheck m hC hB _ rfl
  by_cases g0 : checkM m ≠ 0
  · rw [errAV_ne g0] at cc
    rw [if_neg g0] at hR
    subst hR
    refine FnH.intro lay mixed Try.func29 (by kernel_rfl) rfl (by kernel_rfl) rfl fun hok => ?_
    ((try dsimp only [argC, succC]); (try dsimp only [awp]); (conv => whnf))
    refine .pure _ _ ?_ ⟨rfl, rfl⟩ cc fun _ => ?_
    · exact leL_refl _
    ((try dsimp only [awp]); (conv => whnf))
    (refine FinSpec.mono ?_; (conv => whnf); refine ⟨?_, rfl⟩; (conv => whnf))
    (repeat' (first | exact rfl | exact trivial | exact HWk.refl rfl | exact leRL_refl _ | (refine And.intro ?_ ?_)))
  have h0 : checkM m = 0 := by simpa using g0
  have hM := checkM_ok h0
  rw [h0, errAV_zero] at cc
  rw [if_pos h0] at hR
  subst hR
  have hin := hM.inOk (.inl rfl) hM.top
  have cr := c_resolve m (-1) m.top hin.pos (.inl rfl) hin.pg
  have cw := c_walkB m 65 (fun st => .bool (dynV m st)) (fun _ _ => rfl) (fun _ _ => rfl) (fun st x => st ++ [x]) (allNodes m) (okN m) (nodeOk hB hM.closed) (fun st x hx => c_Dyn1 m st x hx) (fuelM m) (resR m (-1) m.top) ⟨[], []⟩ hin.ok (free_fuel m _)
  have hv : visitedM m = (walkF (kidsM m) (fun st x => st ++ [x]) (fuelM m) (resR m (-1) m.top) ⟨[], []⟩).2.st := rfl
  generalize walkF (kidsM m) (fun st x => st ++ [x]) (fuelM m) (resR m (-1) m.top) ⟨[], []⟩ = r at *
  obtain ⟨rb, ⟨res, rst⟩⟩ := r
  dsimp only at hv
  unfold dynR
  rw [hv]
  generalize resR m (-1) m.top = x at *
  refine FnH.intro lay mixed Try.func29 (by kernel_rfl) rfl (by kernel_rfl) rfl fun hok => ?_
  ((try dsimp only [argC, succC]); (try dsimp only [awp]); (conv => whnf))
  refine .pure _ _ ?_ ⟨rfl, rfl⟩ cc fun _ => ?_
  · exact leL_refl _
  ((try dsimp only [awp]); (conv => whnf))
  refine ADraw.mk ⟨[false, false, true, false, true, false, true, false], by kernel_rfl, ?_⟩
  (conv => whnf)
  refine ACallP.pure _ _ ?_ ⟨rfl, rfl⟩ cr ?_
  · (repeat' (first | exact rfl | exact trivial | exact HWk.refl rfl | exact leRL_refl _ | (refine And.intro ?_ ?_)))
  ((try dsimp only [awp]); (conv => whnf))
  refine .gen _ _ (FnH.frame [0, 1, 2] cw ⟨rfl, rfl, rfl, rfl⟩ ?_ ?_) fun _ => ?_
  · (repeat' (first | exact rfl | exact trivial | exact HWk.refl rfl | exact leRL_refl _ | (refine And.intro ?_ ?_)))
  · (repeat' (first | exact rfl | exact trivial | exact HWk.refl rfl | exact leRL_refl _ | (refine And.intro ?_ ?_)))
  ((try dsimp only [awp]); (conv => whnf))
  (refine FinSpec.mono ?_; (conv => whnf); refine ⟨?_, rfl⟩; (conv => whnf))
  (repeat' (first | exact rfl | exact trivial | exact HWk.refl rfl | exact leRL_refl _ | (refine And.intro ?_ ?_)))
end S

open Go Go.AL Go.Proofs
namespace S
set_option maxRecDepth 100000

theorem walk_ok {σ : Type} {kids : Node → List Node} {step : σ → Node → σ} (ok : Node → Prop) (A : σ → Prop) (hok : ∀ x, ok x → x.1 = 2 → ∀ y ∈ kids x, ok y) (hA : ∀ st x, ok x → A st → A (step st x)) :
    ∀ (n : Nat) (x : Node) (s : WS σ), ok x → A s.st → A (walkF kids step n x s).2.st
  | 0, _, _, _, h => h
  | n + 1, x, s, hx, h => by
    simp only [walkF]
    split
    · exact hA _ _ hx h
    rename_i h1
    split
    · exact h
    split
    · exact h
    have key : ∀ (l : List Node) (t : WS σ), (∀ y ∈ l, ok y) → A t.st → A (kidsF (walkF kids step n) l t).2.st := by
      intro l
      induction l with
      | nil => intro t _ ht; exact ht
      | cons y l ih =>
        intro t hl ht
        have hy := walk_ok ok A hok hA n y t (hl y (by simp)) ht
        simp only [kidsF]
        split
        · exact hy
        · exact ih _ (fun z hz => hl z (by simp [hz])) hy
    have hk := key (kids x) ⟨mark s.es x 1, step s.st x⟩ (hok x hx (by omega)) (hA _ _ hx h)
    split
    · exact hk
    · exact hk

theorem visited_ok {m : Md} (hM : MOk m) : ∀ y ∈ visitedM m, okN m y := by
  have hin := hM.inOk (.inl rfl) hM.top
  exact walk_ok (okN m) (fun st => ∀ y ∈ st, okN m y) (fun x hx h2 => (okN_kids hM.closed hx h2).2) (fun st x hx h y hy => by
    rcases List.mem_append.1 hy with hy | hy
    · exact h y hy
    · obtain rfl : y = x := by simpa using hy
      exact hx) (fuelM m) _ ⟨[], []⟩ hin.ok (by simp)

theorem bits_bit {i : Nat} : ∀ (l : List Node) (b : Nat), (l.foldl (fun b x => if x.1 = 0 ∧ x.2.2.toNat < 24 then b ||| 2 ^ x.2.2.toNat else b) b).testBit i = (b.testBit i || l.any fun x => decide (x.1 = 0 ∧ x.2.2.toNat < 24 ∧ x.2.2.toNat = i))
  | [], b => by simp
  | x :: l, b => by
    simp only [List.foldl_cons, List.any_cons]
    rw [bits_bit l]
    by_cases h : x.1 = 0 ∧ x.2.2.toNat < 24
    · rw [if_pos h, Nat.testBit_or, Nat.testBit_two_pow, Bool.or_assoc]
      congr 2
      simp [h]
    · rw [if_neg h]
      have : decide (x.1 = 0 ∧ x.2.2.toNat < 24 ∧ x.2.2.toNat = i) = false := decide_eq_false fun e => h ⟨e.1, e.2.1⟩
      rw [this, Bool.false_or]

theorem bitsV_bit (l : List Node) (i : Nat) : (bitsV l).testBit i = true ↔ ∃ x ∈ l, x.1 = 0 ∧ x.2.2.toNat < 24 ∧ x.2.2.toNat = i := by
  unfold bitsV
  rw [bits_bit]
  simp

/-- A gate of a page by itself. -/
structure GateOk (m : Md) (a : Int) (k : Nat) (x : Mg) : Prop where
  name : nameR x.name = true
  noEv : i_event m.evs x.name < 0
  noHs : i_house m.hs x.name < 0
  first : (k : Int) ≤ i_gate (gatesM m a) x.name
  own : mgErr x = 0

theorem MOk.gate {m : Md} (hM : MOk m) {a : Int} (ha : a = -1 ∨ (0 ≤ a ∧ a < (m.pages.length : Int))) {k : Nat} (hk : k < (gatesM m a).length) : GateOk m a k (gatesM m a)[k] := by
  have h := gatesErrAll_zero hM.gates ha k hk
  unfold gateErrM at h
  split at h
  · cases h
  rename_i h1
  split at h
  · cases h
  rename_i h2
  split at h
  · cases h
  rename_i h3
  split at h
  · cases h
  rename_i h4
  exact ⟨by simpa using h1, by omega, by omega, by omega, h⟩

theorem idxP_le {α : Type} {p : α → Bool} {l : List α} {k : Nat} (hk : k < l.length) (hp : p l[k] = true) : 0 ≤ idxP p l ∧ idxP p l ≤ k := by
  rcases idxP_cases p l with ⟨_, h2⟩ | ⟨i, hi, h1, _, h3⟩
  · have := h2 _ (List.getElem_mem hk)
    rw [hp] at this; cases this
  · refine ⟨by omega, ?_⟩
    rw [h1]
    rcases Nat.lt_or_ge k i with h | h
    · have := h3 k h
      rw [hp] at this; cases this
    · omega

theorem MOk.gate_idx {m : Md} (hM : MOk m) {a : Int} (ha : a = -1 ∨ (0 ≤ a ∧ a < (m.pages.length : Int))) {k : Nat} (hk : k < (gatesM m a).length) : i_gate (gatesM m a) (gatesM m a)[k].name = k := by
  have h1 := (hM.gate ha hk).first
  have h2 := (idxP_le (p := fun x => decide (x.name = (gatesM m a)[k].name)) hk (by simp)).2
  unfold i_gate at h1 ⊢
  omega

theorem MOk.ins_in {m : Md} (hM : MOk m) {a : Int} (ha : a = -1 ∨ (0 ≤ a ∧ a < (m.pages.length : Int))) {x : Mg} (hx : x ∈ gatesM m a) {s : Str} (hs : s ∈ x.ins) : isInR m a s = true := by
  obtain ⟨sp, h4⟩ := insAll_in hM.ins _ (ats_mem.2 ha)
  exact (pageIns_in h4).1 x hx s hs

/-- What an input is, by its kind. -/
structure Local (m : Md) (a : Int) (s : Str) (r : Node) : Prop where
  idx : 0 ≤ r.2.2
  kind : r.1 = 0 ∨ r.1 = 1 ∨ r.1 = 2
  ev : r.1 = 0 → r.2.2 < (m.evs.length : Int) ∧ (atS s = false → (m.evs.getD r.2.2.toNat default).name = s)
  hs : r.1 = 1 → r.2.2 < (m.hs.length : Int) ∧ (m.hs.getD r.2.2.toNat default).name = s
  gate : r.1 = 2 → (r.2.1 = -1 ∨ (0 ≤ r.2.1 ∧ r.2.1 < (m.pages.length : Int))) ∧ r.2.2 < ((gatesM m r.2.1).length : Int) ∧
    (atS s = false → r.2.1 = a ∧ ((gatesM m r.2.1).getD r.2.2.toNat default).name = s) ∧
    (atS s = true → 0 ≤ r.2.1 ∧ (m.pages.getD r.2.1.toNat default).name = s.drop 1 ∧ (m.pages.getD r.2.1.toNat default).top = ((gatesM m r.2.1).getD r.2.2.toNat default).name)

end S

open Go Go.AL Go.Proofs
namespace S
set_option maxRecDepth 100000

/-! ### a model turned -/

def turnG (g : Mg) : Mg := if g.kind = 0 ∨ g.kind = 1 then { g with ins := g.ins.reverse } else g
def turnL (l : List Mg) : List Mg := (l.map turnG).reverse
def turnP (p : Pg) : Pg := { p with gates := turnL p.gates }
def turnM (m : Md) : Md := { m with gates := turnL m.gates, pages := m.pages.map turnP }

theorem rev_step {α : Type} {l : List α} {i : Nat} (h : i + 1 ≤ l.length) : (l.drop i).reverse = (l.drop (i + 1)).reverse ++ [l[i]] := by
  rw [List.drop_eq_getElem_cons (by omega : i < l.length), List.reverse_cons]

theorem turn_step {l : List Mg} {i : Nat} (h : i + 1 ≤ l.length) : ((l.drop i).map turnG).reverse = ((l.drop (i + 1)).map turnG).reverse ++ [turnG l[i]] := by
  rw [List.drop_eq_getElem_cons (by omega : i < l.length), List.map_cons, List.reverse_cons]



theorem c_turned (l : List Mg) (hl : l.length ≤ 1000) (hi : ∀ g ∈ l, g.ins.length ≤ 1000) : FnH Try.prog 28 [gL l] [] (gL (turnL l)) [] := by
  refine FnH.intro lay mixed Try.func28 (by kernel_rfl) rfl (by kernel_rfl) rfl fun hok => ?_
  ((try dsimp only [argC, succC]); (try dsimp only [awp]); (conv => whnf))
  refine ⟨inr64 (by simp; omega) (by simp; omega), ?_⟩
  rw [show (((l.map Mg.av).length : Nat) : Int) = (l.length : Int) by simp]
  ((try dsimp only [awp]); (conv => whnf))
  refine LoopE.of <| LoopSpec.inv (.grow 3 7 [] _ rfl (.inl ⟨rfl, rfl⟩) (.refl _ _)) (fun (i : Nat) => i ≤ l.length)
    (fun i => [(4, .int .i64 ((i : Int) - 1)), (3, .sl 7 ((((l.drop i).map turnG).reverse).map Mg.av) (.own 0))]) (fun i => [(0, .tok 7 (l.length - i))]) (fun i => i) l.length ?_ (fun _ => rfl) ?_ ?_
  · exact Nat.le_refl _
  · refine ⟨?_, .mk ?_ ⟨by simp, trivial⟩⟩
    · (repeat' first | exact rfl | exact trivial | exact HWk.refl rfl | exact leRL_refl _ | apply And.intro)
      all_goals first | (simp; done) | (refine leRL_of ?_; simp)
    · (repeat' first | exact rfl | exact trivial | exact HWk.refl rfl | exact leRL_refl _ | apply And.intro)
      all_goals first | (simp; done) | (simp; omega)
  intro i hil _
  ((try dsimp only [awp]); (conv => whnf))
  refine And.intro (fun h => ?_) (fun h => ?_)
  · obtain ⟨i, rfl⟩ : ∃ k, i = k + 1 := ⟨i - 1, by omega⟩
    have ht := turn_step hil
    have hx := hi _ (List.getElem_mem (show i < l.length by omega))
    have hLl : (((l.drop (i + 1)).map turnG).reverse).length = l.length - (i + 1) := by simp
    rw [show ((i + 1 : Nat) : Int) - 1 = (i : Int) by omega]
    ((try dsimp only [awp]); (conv => whnf))
    refine aidx (show i < l.length by omega) ?_
    generalize l[i] = x at *
    generalize ((l.drop (i + 1)).map turnG).reverse = L1 at *
    ((try dsimp only [awp]); (conv => whnf))
    refine And.intro (fun k0 => ?_) (fun k0 => ?_)
    · have htg : turnG x = { x with ins := x.ins.reverse } := if_pos (.inl k0)
      ((try dsimp only [awp]); (conv => whnf))
      refine ⟨inr64 (by simp; omega) (by simp; omega), ?_⟩
      rw [show (((x.ins.map AV.str).length : Nat) : Int) = (x.ins.length : Int) by simp]
      ((try dsimp only [awp]); (conv => whnf))
      refine LoopE.of <| LoopSpec.inv (.grow 6 1 [] _ rfl (.inl ⟨rfl, rfl⟩) (.refl _ _)) (fun (j : Nat) => j ≤ x.ins.length)
        (fun j => [(7, .int .i64 ((j : Int) - 1)), (6, .sl 1 (((x.ins.drop j).reverse).map .str) (.own 2))]) (fun j => [(2, .tok 1 (x.ins.length - j)), (1, .box x.av), (0, .tok 7 (l.length - (i + 1)))]) (fun j => j) x.ins.length ?_ (fun _ => rfl) ?_ ?_
      · exact Nat.le_refl _
      · refine ⟨?_, .mk ?_ ⟨by simp, by simp, by simp, trivial⟩⟩
        · (repeat' first | exact rfl | exact trivial | exact HWk.refl rfl | exact leRL_refl _ | apply And.intro)
          all_goals first | (simp; done) | (refine leRL_of ?_; simp)
        · (repeat' first | exact rfl | exact trivial | exact HWk.refl rfl | exact leRL_refl _ | apply And.intro)
          all_goals first | (simp; done) | (simp; omega)
      intro j hj _
      ((try dsimp only [awp]); (conv => whnf))
      refine And.intro (fun hh => ?_) (fun hh => ?_)
      · obtain ⟨j, rfl⟩ : ∃ k, j = k + 1 := ⟨j - 1, by omega⟩
        have hr := rev_step hj
        have hrl : ((x.ins.drop (j + 1)).reverse).length = x.ins.length - (j + 1) := by simp
        rw [show ((j + 1 : Nat) : Int) - 1 = (j : Int) by omega]
        ((try dsimp only [awp]); (conv => whnf))
        refine aidx (show j < x.ins.length by omega) ?_
        generalize (x.ins.drop (j + 1)).reverse = L2 at *
        ((try dsimp only [awp]); (conv => whnf))
        refine ⟨by rw [List.length_map]; omega, .mk (by simp [maxL]; omega) (by simp; omega) ?_⟩
        ((try dsimp only [awp]); (conv => whnf))
        (refine ⟨inr64 (by omega) (by omega), ?_⟩; (conv => whnf))
        refine ⟨j, ?_, ?_, ?_⟩
        · show j ≤ x.ins.length
          omega
        · rw [hr]
          refine ⟨?_, .mk ?_ ⟨by simp, by simp, by simp, trivial⟩⟩
          · (repeat' first | exact rfl | exact trivial | exact HWk.refl rfl | exact leRL_refl _ | apply And.intro)
            all_goals first | (show (_ : Int) = _; omega) | (refine leRL_of ?_; rw [List.map_append]; rfl) | (simp; done) | (simp; omega)
          · (repeat' first | exact rfl | exact trivial | exact HWk.refl rfl | exact leRL_refl _ | apply And.intro)
            all_goals first | (simp; done) | (simp; omega)
        · omega
      have hj0 : j = 0 := by omega
      subst hj0
      rw [List.drop_zero]
      ((try dsimp only [awp]); (conv => whnf))
      refine ⟨by rw [List.length_map]; omega, .mk (by simp [maxL]; omega) (by simp; omega) ?_⟩
      ((try dsimp only [awp]); (conv => whnf))
      (refine ⟨inr64 (by omega) (by omega), ?_⟩; (conv => whnf))
      refine ⟨i, ?_, ?_, ?_⟩
      · show i ≤ l.length
        omega
      · rw [ht]
        refine ⟨?_, .mk ?_ ⟨by simp, trivial⟩⟩
        · (repeat' first | exact rfl | exact trivial | exact HWk.refl rfl | exact leRL_refl _ | apply And.intro)
          all_goals first | (show (_ : Int) = _; omega) | (refine leRL_of ?_; rw [List.map_append, htg]; rfl) | (simp; done) | (simp; omega)
        · (repeat' first | exact rfl | exact trivial | exact HWk.refl rfl | exact leRL_refl _ | apply And.intro)
          all_goals first | (simp; done) | (simp; omega)
      · omega
    ((try dsimp only [awp]); (conv => whnf))
    refine And.intro (fun k1 => ?_) (fun k1 => ?_)
    · have htg : turnG x = { x with ins := x.ins.reverse } := if_pos (.inr k1)
      ((try dsimp only [awp]); (conv => whnf))
      refine ⟨inr64 (by simp; omega) (by simp; omega), ?_⟩
      rw [show (((x.ins.map AV.str).length : Nat) : Int) = (x.ins.length : Int) by simp]
      ((try dsimp only [awp]); (conv => whnf))
      refine LoopE.of <| LoopSpec.inv (.grow 6 1 [] _ rfl (.inl ⟨rfl, rfl⟩) (.refl _ _)) (fun (j : Nat) => j ≤ x.ins.length)
        (fun j => [(7, .int .i64 ((j : Int) - 1)), (6, .sl 1 (((x.ins.drop j).reverse).map .str) (.own 2))]) (fun j => [(2, .tok 1 (x.ins.length - j)), (1, .box x.av), (0, .tok 7 (l.length - (i + 1)))]) (fun j => j) x.ins.length ?_ (fun _ => rfl) ?_ ?_
      · exact Nat.le_refl _
      · refine ⟨?_, .mk ?_ ⟨by simp, by simp, by simp, trivial⟩⟩
        · (repeat' first | exact rfl | exact trivial | exact HWk.refl rfl | exact leRL_refl _ | apply And.intro)
          all_goals first | (simp; done) | (refine leRL_of ?_; simp)
        · (repeat' first | exact rfl | exact trivial | exact HWk.refl rfl | exact leRL_refl _ | apply And.intro)
          all_goals first | (simp; done) | (simp; omega)
      intro j hj _
      ((try dsimp only [awp]); (conv => whnf))
      refine And.intro (fun hh => ?_) (fun hh => ?_)
      · obtain ⟨j, rfl⟩ : ∃ k, j = k + 1 := ⟨j - 1, by omega⟩
        have hr := rev_step hj
        have hrl : ((x.ins.drop (j + 1)).reverse).length = x.ins.length - (j + 1) := by simp
        rw [show ((j + 1 : Nat) : Int) - 1 = (j : Int) by omega]
        ((try dsimp only [awp]); (conv => whnf))
        refine aidx (show j < x.ins.length by omega) ?_
        generalize (x.ins.drop (j + 1)).reverse = L2 at *
        ((try dsimp only [awp]); (conv => whnf))
        refine ⟨by rw [List.length_map]; omega, .mk (by simp [maxL]; omega) (by simp; omega) ?_⟩
        ((try dsimp only [awp]); (conv => whnf))
        (refine ⟨inr64 (by omega) (by omega), ?_⟩; (conv => whnf))
        refine ⟨j, ?_, ?_, ?_⟩
        · show j ≤ x.ins.length
          omega
        · rw [hr]
          refine ⟨?_, .mk ?_ ⟨by simp, by simp, by simp, trivial⟩⟩
          · (repeat' first | exact rfl | exact trivial | exact HWk.refl rfl | exact leRL_refl _ | apply And.intro)
            all_goals first | (show (_ : Int) = _; omega) | (refine leRL_of ?_; rw [List.map_append]; rfl) | (simp; done) | (simp; omega)
          · (repeat' first | exact rfl | exact trivial | exact HWk.refl rfl | exact leRL_refl _ | apply And.intro)
            all_goals first | (simp; done) | (simp; omega)
        · omega
      have hj0 : j = 0 := by omega
      subst hj0
      rw [List.drop_zero]
      ((try dsimp only [awp]); (conv => whnf))
      refine ⟨by rw [List.length_map]; omega, .mk (by simp [maxL]; omega) (by simp; omega) ?_⟩
      ((try dsimp only [awp]); (conv => whnf))
      (refine ⟨inr64 (by omega) (by omega), ?_⟩; (conv => whnf))
      refine ⟨i, ?_, ?_, ?_⟩
      · show i ≤ l.length
        omega
      · rw [ht]
        refine ⟨?_, .mk ?_ ⟨by simp, trivial⟩⟩
        · (repeat' first | exact rfl | exact trivial | exact HWk.refl rfl | exact leRL_refl _ | apply And.intro)
          all_goals first | (show (_ : Int) = _; omega) | (refine leRL_of ?_; rw [List.map_append, htg]; rfl) | (simp; done) | (simp; omega)
        · (repeat' first | exact rfl | exact trivial | exact HWk.refl rfl | exact leRL_refl _ | apply And.intro)
          all_goals first | (simp; done) | (simp; omega)
      · omega
    have htg : turnG x = x := if_neg (by omega)
    ((try dsimp only [awp]); (conv => whnf))
    refine ⟨by rw [List.length_map]; omega, .mk (by simp [maxL]; omega) (by simp; omega) ?_⟩
    ((try dsimp only [awp]); (conv => whnf))
    (refine ⟨inr64 (by omega) (by omega), ?_⟩; (conv => whnf))
    refine ⟨i, ?_, ?_, ?_⟩
    · show i ≤ l.length
      omega
    · rw [ht]
      refine ⟨?_, .mk ?_ ⟨by simp, trivial⟩⟩
      · (repeat' first | exact rfl | exact trivial | exact HWk.refl rfl | exact leRL_refl _ | apply And.intro)
        all_goals first | (show (_ : Int) = _; omega) | (refine leRL_of ?_; rw [List.map_append, htg]; rfl) | (simp; done) | (simp; omega)
      · (repeat' first | exact rfl | exact trivial | exact HWk.refl rfl | exact leRL_refl _ | apply And.intro)
        all_goals first | (simp; done) | (simp; omega)
    · omega
  · have hi0 : i = 0 := by omega
    subst hi0
    rw [List.drop_zero]
    ((try dsimp only [awp]); (conv => whnf))
    (refine FinSpec.mono ?_; (conv => whnf); refine ⟨?_, rfl⟩; (conv => whnf))
    (repeat' first | exact rfl | exact trivial | exact HWk.refl rfl | exact leRL_refl _ | apply And.intro)
end S

open Go Go.AL Go.Proofs
namespace S
set_option maxRecDepth 100000

def fewG (x : Mg) : Bool := decide (x.ins.length ≤ 40) && shortR x.dorm
def fewR (l : List Mg) : Bool := l.all fewG && decide (l.length ≤ 100)
def evS (x : Ev) : Bool := shortR x.p && shortR x.fail && shortR x.repair
def grS (x : Gr) : Bool := decide (x.mem.length ≤ 60) && decide (x.fac.length ≤ 60) && x.fac.all shortR
def phS (x : Ph) : Bool := decide (x.vals.length ≤ 60) && x.vals.all fun v => shortR v.p

/-- Is a model light? -/
def lightM (m : Md) : Bool := decide (m.evs.length ≤ 60) && decide (m.hs.length ≤ 60) && decide (m.pages.length ≤ 30) && decide (m.grs.length ≤ 30) && decide (m.phs.length ≤ 30) && fewR m.gates &&
  m.evs.all evS && (m.pages.all fun p => fewR p.gates) && m.grs.all grS && m.phs.all phS

theorem c_few (l : List Mg) (R : AV) (hR : R = .bool (fewR l)) : FnH Try.prog 52 [gL l] [] R [] := by
  refine FnH.intro lay mixed Try.func52 (by kernel_rfl) rfl (by kernel_rfl) rfl fun hok => ?_
  have lg : l.length ≤ 9223372036854775807 := by have := hok.1.1; simpa [maxL] using this
  ((try dsimp only [argC, succC]); (try dsimp only [awp]); (conv => whnf))
  refine LoopE.of <| LoopSpec.inv (.refl _ _) (fun (i : Nat) => i ≤ l.length ∧ (l.take i).all fewG = true) (fun (i : Nat) => [(7, .int .i64 i)]) (fun _ => _) (fun (i : Nat) => l.length - i) 0 ?_ (fun _ => rfl) ?_ ?_
  · exact ⟨Nat.zero_le _, by simp⟩
  · (repeat' (first | exact rfl | exact trivial | exact HWk.refl rfl | exact leRL_refl _ | (refine And.intro ?_ ?_)))
  rintro i ⟨hi, hn⟩ _
  ((try dsimp only [awp]); (conv => whnf))
  refine And.intro (fun h => ?_) (fun h => ?_)
  · have hlt : i < l.length := by simpa using h
    have hall := all_take (p := fewG) hlt
    have hmem := List.getElem_mem hlt
    ((try dsimp only [awp]); (conv => whnf))
    refine aidx hlt ?_
    generalize l[i] = g at *
    have no : fewG g = false → R = .bool false := fun h => by rw [hR]; unfold fewR; rw [all_false hmem h]; rfl
    ((try dsimp only [awp]); (conv => whnf))
    refine And.intro (fun h1 => ?_) (fun h1 => ?_)
    · have h1 : ¬ g.ins.length ≤ 40 := by simp only [List.length_map] at h1; omega
      obtain rfl := no (by simp [fewG, h1])
      ((try dsimp only [awp]); (conv => whnf))
      (refine FinSpec.mono ?_; (conv => whnf); refine ⟨?_, rfl⟩; (conv => whnf))
      (repeat' (first | exact rfl | exact trivial | exact HWk.refl rfl | exact leRL_refl _ | (refine And.intro ?_ ?_)))
    have h1 : g.ins.length ≤ 40 := by simp only [List.length_map] at h1; omega
    ((try dsimp only [awp]); (conv => whnf))
    refine .pure _ _ ?_ ⟨rfl, rfl⟩ (c_Short g.dorm) fun _ => ?_
    · exact leL_refl _
    ((try dsimp only [awp]); (conv => whnf))
    refine And.intro (fun h2 => ?_) (fun h2 => ?_)
    · have h2 : shortR g.dorm = false := by simpa using h2
      obtain rfl := no (by simp [fewG, h2])
      ((try dsimp only [awp]); (conv => whnf))
      (refine FinSpec.mono ?_; (conv => whnf); refine ⟨?_, rfl⟩; (conv => whnf))
      (repeat' (first | exact rfl | exact trivial | exact HWk.refl rfl | exact leRL_refl _ | (refine And.intro ?_ ?_)))
    have h2 : shortR g.dorm = true := by simpa using h2
    ((try dsimp only [awp]); (conv => whnf))
    (refine ⟨inr64 (by omega) (by omega), ?_⟩; (conv => whnf))
    refine ⟨i + 1, ?_, ?_, ?_⟩
    · exact ⟨hlt, by rw [hall, hn]; simp [fewG, h1, h2]⟩
    · refine ⟨?_, .mk ?_ trivial⟩
      · (repeat' (first | exact rfl | exact trivial | exact HWk.refl rfl | exact leRL_refl _ | (refine And.intro ?_ ?_)))
      · (repeat' (first | exact rfl | exact trivial | exact HWk.refl rfl | exact leRL_refl _ | (refine And.intro ?_ ?_)))
    · omega
  have hil : i = l.length := by have : ¬ i < l.length := by simpa using h
                                omega
  subst hil
  rw [List.take_length] at hn
  subst hR
  ((try dsimp only [awp]); (conv => whnf))
  (refine FinSpec.mono ?_; (conv => whnf); refine ⟨?_, rfl⟩; (conv => whnf))
  show _ ↔ _
  simp [fewR, hn]
  omega


theorem c_LightM (m : Md) (R : AV) (hR : R = .bool (lightM m)) : FnH Try.prog 23 [m.av] [] R [] := by
  refine FnH.intro lay mixed Try.func23 (by kernel_rfl) rfl (by kernel_rfl) rfl fun hok => ?_
  ((try dsimp only [argC, succC]); (try dsimp only [awp]); (conv => whnf))
  refine And.intro (fun h1 => ?_) (fun h1 => ?_)
  · have h1 : ¬ m.evs.length ≤ 60 := by simp only [List.length_map] at h1; omega
    obtain rfl : R = .bool false := by rw [hR]; congr 1; unfold lightM; rw [decide_eq_false h1]; simp
    ((try dsimp only [awp]); (conv => whnf))
    (refine FinSpec.mono ?_; (conv => whnf); refine ⟨?_, rfl⟩; (conv => whnf))
    (repeat' (first | exact rfl | exact trivial | exact HWk.refl rfl | exact leRL_refl _ | (refine And.intro ?_ ?_)))
  have h1 : m.evs.length ≤ 60 := by simp only [List.length_map] at h1; omega
  ((try dsimp only [awp]); (conv => whnf))
  refine And.intro (fun h2 => ?_) (fun h2 => ?_)
  · have h2 : ¬ m.hs.length ≤ 60 := by simp only [List.length_map] at h2; omega
    obtain rfl : R = .bool false := by rw [hR]; congr 1; unfold lightM; rw [decide_eq_false h2]; simp
    ((try dsimp only [awp]); (conv => whnf))
    (refine FinSpec.mono ?_; (conv => whnf); refine ⟨?_, rfl⟩; (conv => whnf))
    (repeat' (first | exact rfl | exact trivial | exact HWk.refl rfl | exact leRL_refl _ | (refine And.intro ?_ ?_)))
  have h2 : m.hs.length ≤ 60 := by simp only [List.length_map] at h2; omega
  ((try dsimp only [awp]); (conv => whnf))
  refine And.intro (fun h3 => ?_) (fun h3 => ?_)
  · have h3 : ¬ m.pages.length ≤ 30 := by simp only [List.length_map] at h3; omega
    obtain rfl : R = .bool false := by rw [hR]; congr 1; unfold lightM; rw [decide_eq_false h3]; simp
    ((try dsimp only [awp]); (conv => whnf))
    (refine FinSpec.mono ?_; (conv => whnf); refine ⟨?_, rfl⟩; (conv => whnf))
    (repeat' (first | exact rfl | exact trivial | exact HWk.refl rfl | exact leRL_refl _ | (refine And.intro ?_ ?_)))
  have h3 : m.pages.length ≤ 30 := by simp only [List.length_map] at h3; omega
  ((try dsimp only [awp]); (conv => whnf))
  refine And.intro (fun h4 => ?_) (fun h4 => ?_)
  · have h4 : ¬ m.grs.length ≤ 30 := by simp only [List.length_map] at h4; omega
    obtain rfl : R = .bool false := by rw [hR]; congr 1; unfold lightM; rw [decide_eq_false h4]; simp
    ((try dsimp only [awp]); (conv => whnf))
    (refine FinSpec.mono ?_; (conv => whnf); refine ⟨?_, rfl⟩; (conv => whnf))
    (repeat' (first | exact rfl | exact trivial | exact HWk.refl rfl | exact leRL_refl _ | (refine And.intro ?_ ?_)))
  have h4 : m.grs.length ≤ 30 := by simp only [List.length_map] at h4; omega
  ((try dsimp only [awp]); (conv => whnf))
  refine And.intro (fun h5 => ?_) (fun h5 => ?_)
  · have h5 : ¬ m.phs.length ≤ 30 := by simp only [List.length_map] at h5; omega
    obtain rfl : R = .bool false := by rw [hR]; congr 1; unfold lightM; rw [decide_eq_false h5]; simp
    ((try dsimp only [awp]); (conv => whnf))
    (refine FinSpec.mono ?_; (conv => whnf); refine ⟨?_, rfl⟩; (conv => whnf))
    (repeat' (first | exact rfl | exact trivial | exact HWk.refl rfl | exact leRL_refl _ | (refine And.intro ?_ ?_)))
  have h5 : m.phs.length ≤ 30 := by simp only [List.length_map] at h5; omega
  ((try dsimp only [awp]); (conv => whnf))
  refine .pure _ _ ?_ ⟨rfl, rfl⟩ (c_few m.gates _ rfl) fun _ => ?_
  · exact leL_refl _
  ((try dsimp only [awp]); (conv => whnf))
  refine And.intro (fun h6 => ?_) (fun h6 => ?_)
  · have h6 : fewR m.gates = false := by simpa using h6
    obtain rfl : R = .bool false := by rw [hR]; congr 1; unfold lightM; rw [h6]; simp
    ((try dsimp only [awp]); (conv => whnf))
    (refine FinSpec.mono ?_; (conv => whnf); refine ⟨?_, rfl⟩; (conv => whnf))
    (repeat' (first | exact rfl | exact trivial | exact HWk.refl rfl | exact leRL_refl _ | (refine And.intro ?_ ?_)))
  have h6 : fewR m.gates = true := by simpa using h6
  ((try dsimp only [awp]); (conv => whnf))
  refine LoopE.of <| LoopSpec.inv (.refl _ _) (fun (i : Nat) => i ≤ m.evs.length ∧ (m.evs.take i).all evS = true) (fun (i : Nat) => [(52, .int .i64 i)]) (fun _ => _) (fun (i : Nat) => m.evs.length - i) 0 ?_ (fun _ => rfl) ?_ ?_
  · exact ⟨Nat.zero_le _, by simp⟩
  · (repeat' (first | exact rfl | exact trivial | exact HWk.refl rfl | exact leRL_refl _ | (refine And.intro ?_ ?_)))
  rintro i ⟨hi, hn⟩ _
  ((try dsimp only [awp]); (conv => whnf))
  refine And.intro (fun h => ?_) (fun h => ?_)
  · have hlt : i < m.evs.length := by simpa using h
    have hall := all_take (p := evS) hlt
    have hmem := List.getElem_mem hlt
    ((try dsimp only [awp]); (conv => whnf))
    refine aidx hlt ?_
    generalize m.evs[i] = g at *
    ((try dsimp only [awp]); (conv => whnf))
    refine .pure _ _ ?_ ⟨rfl, rfl⟩ (c_Short g.p) fun _ => ?_
    · exact leL_refl _
    ((try dsimp only [awp]); (conv => whnf))
    refine And.intro (fun q1 => ?_) (fun q1 => ?_)
    · have q1 : shortR g.p = false := by simpa using q1
      obtain rfl : R = .bool false := by rw [hR]; congr 1; unfold lightM; rw [all_false hmem (show evS g = false by simp [evS, q1])]; simp
      ((try dsimp only [awp]); (conv => whnf))
      (refine FinSpec.mono ?_; (conv => whnf); refine ⟨?_, rfl⟩; (conv => whnf))
      (repeat' (first | exact rfl | exact trivial | exact HWk.refl rfl | exact leRL_refl _ | (refine And.intro ?_ ?_)))
    have q1 : shortR g.p = true := by simpa using q1
    ((try dsimp only [awp]); (conv => whnf))
    refine .pure _ _ ?_ ⟨rfl, rfl⟩ (c_Short g.fail) fun _ => ?_
    · exact leL_refl _
    ((try dsimp only [awp]); (conv => whnf))
    refine And.intro (fun q2 => ?_) (fun q2 => ?_)
    · have q2 : shortR g.fail = false := by simpa using q2
      obtain rfl : R = .bool false := by rw [hR]; congr 1; unfold lightM; rw [all_false hmem (show evS g = false by simp [evS, q2])]; simp
      ((try dsimp only [awp]); (conv => whnf))
      (refine FinSpec.mono ?_; (conv => whnf); refine ⟨?_, rfl⟩; (conv => whnf))
      (repeat' (first | exact rfl | exact trivial | exact HWk.refl rfl | exact leRL_refl _ | (refine And.intro ?_ ?_)))
    have q2 : shortR g.fail = true := by simpa using q2
    ((try dsimp only [awp]); (conv => whnf))
    refine .pure _ _ ?_ ⟨rfl, rfl⟩ (c_Short g.repair) fun _ => ?_
    · exact leL_refl _
    ((try dsimp only [awp]); (conv => whnf))
    refine And.intro (fun q3 => ?_) (fun q3 => ?_)
    · have q3 : shortR g.repair = false := by simpa using q3
      obtain rfl : R = .bool false := by rw [hR]; congr 1; unfold lightM; rw [all_false hmem (show evS g = false by simp [evS, q3])]; simp
      ((try dsimp only [awp]); (conv => whnf))
      (refine FinSpec.mono ?_; (conv => whnf); refine ⟨?_, rfl⟩; (conv => whnf))
      (repeat' (first | exact rfl | exact trivial | exact HWk.refl rfl | exact leRL_refl _ | (refine And.intro ?_ ?_)))
    have q3 : shortR g.repair = true := by simpa using q3
    ((try dsimp only [awp]); (conv => whnf))
    (refine ⟨inr64 (by omega) (by omega), ?_⟩; (conv => whnf))
    refine ⟨i + 1, ?_, ?_, ?_⟩
    · exact ⟨hlt, by rw [hall, hn]; simp [evS, q1, q2, q3]⟩
    · refine ⟨?_, .mk ?_ ⟨by simp, trivial⟩⟩
      · (repeat' (first | exact rfl | exact trivial | exact HWk.refl rfl | exact leRL_refl _ | (refine And.intro ?_ ?_)))
      · (repeat' (first | exact rfl | exact trivial | exact HWk.refl rfl | exact leRL_refl _ | (refine And.intro ?_ ?_)))
    · omega
  have hil : i = m.evs.length := by have : ¬ i < m.evs.length := by simpa using h
                                    omega
  subst hil
  rw [List.take_length] at hn
  have a1 := hn
  clear h hi hn
  ((try dsimp only [awp]); (conv => whnf))
  refine LoopE.of <| LoopSpec.inv (.refl _ _) (fun (i : Nat) => i ≤ m.pages.length ∧ (m.pages.take i).all (fun p => fewR p.gates) = true) (fun (i : Nat) => [(76, .int .i64 i)]) (fun _ => _) (fun (i : Nat) => m.pages.length - i) 0 ?_ (fun _ => rfl) ?_ ?_
  · exact ⟨Nat.zero_le _, by simp⟩
  · (repeat' (first | exact rfl | exact trivial | exact HWk.refl rfl | exact leRL_refl _ | (refine And.intro ?_ ?_)))
  rintro i ⟨hi, hn⟩ _
  ((try dsimp only [awp]); (conv => whnf))
  refine And.intro (fun h => ?_) (fun h => ?_)
  · have hlt : i < m.pages.length := by simpa using h
    have hall := all_take (p := fun p : Pg => fewR p.gates) hlt
    have hmem := List.getElem_mem hlt
    ((try dsimp only [awp]); (conv => whnf))
    refine aidx hlt ?_
    generalize m.pages[i] = g at *
    ((try dsimp only [awp]); (conv => whnf))
    refine .pure _ _ ?_ ⟨rfl, rfl⟩ (c_few g.gates _ rfl) fun _ => ?_
    · exact leL_refl _
    ((try dsimp only [awp]); (conv => whnf))
    refine And.intro (fun q1 => ?_) (fun q1 => ?_)
    · have q1 : fewR g.gates = false := by simpa using q1
      obtain rfl : R = .bool false := by rw [hR]; congr 1; unfold lightM; rw [all_false (p := fun p : Pg => fewR p.gates) hmem q1]; simp
      ((try dsimp only [awp]); (conv => whnf))
      (refine FinSpec.mono ?_; (conv => whnf); refine ⟨?_, rfl⟩; (conv => whnf))
      (repeat' (first | exact rfl | exact trivial | exact HWk.refl rfl | exact leRL_refl _ | (refine And.intro ?_ ?_)))
    have q1 : fewR g.gates = true := by simpa using q1
    ((try dsimp only [awp]); (conv => whnf))
    (refine ⟨inr64 (by omega) (by omega), ?_⟩; (conv => whnf))
    refine ⟨i + 1, ?_, ?_, ?_⟩
    · exact ⟨hlt, by rw [hall, hn]; simp [q1]⟩
    · refine ⟨?_, .mk ?_ ⟨by simp, trivial⟩⟩
      · (repeat' (first | exact rfl | exact trivial | exact HWk.refl rfl | exact leRL_refl _ | (refine And.intro ?_ ?_)))
      · (repeat' (first | exact rfl | exact trivial | exact HWk.refl rfl | exact leRL_refl _ | (refine And.intro ?_ ?_)))
    · omega
  have hil : i = m.pages.length := by have : ¬ i < m.pages.length := by simpa using h
                                      omega
  subst hil
  rw [List.take_length] at hn
  have a2 := hn
  clear h hi hn
  ((try dsimp only [awp]); (conv => whnf))
  refine LoopE.of <| LoopSpec.inv (.refl _ _) (fun (i : Nat) => i ≤ m.grs.length ∧ (m.grs.take i).all grS = true) (fun (i : Nat) => [(88, .int .i64 i)]) (fun _ => _) (fun (i : Nat) => m.grs.length - i) 0 ?_ (fun _ => rfl) ?_ ?_
  · exact ⟨Nat.zero_le _, by simp⟩
  · (repeat' (first | exact rfl | exact trivial | exact HWk.refl rfl | exact leRL_refl _ | (refine And.intro ?_ ?_)))
  rintro i ⟨hi, hn⟩ _
  ((try dsimp only [awp]); (conv => whnf))
  refine And.intro (fun h => ?_) (fun h => ?_)
  · have hlt : i < m.grs.length := by simpa using h
    have hall := all_take (p := grS) hlt
    have hmem := List.getElem_mem hlt
    ((try dsimp only [awp]); (conv => whnf))
    refine aidx hlt ?_
    generalize m.grs[i] = g at *
    ((try dsimp only [awp]); (conv => whnf))
    refine And.intro (fun q1 => ?_) (fun q1 => ?_)
    · have q1 : ¬ g.mem.length ≤ 60 := by simp only [List.length_map] at q1; omega
      obtain rfl : R = .bool false := by rw [hR]; congr 1; unfold lightM; rw [all_false hmem (show grS g = false by simp [grS, q1])]; simp
      ((try dsimp only [awp]); (conv => whnf))
      (refine FinSpec.mono ?_; (conv => whnf); refine ⟨?_, rfl⟩; (conv => whnf))
      (repeat' (first | exact rfl | exact trivial | exact HWk.refl rfl | exact leRL_refl _ | (refine And.intro ?_ ?_)))
    have q1 : g.mem.length ≤ 60 := by simp only [List.length_map] at q1; omega
    ((try dsimp only [awp]); (conv => whnf))
    refine And.intro (fun q2 => ?_) (fun q2 => ?_)
    · have q2 : ¬ g.fac.length ≤ 60 := by simp only [List.length_map] at q2; omega
      obtain rfl : R = .bool false := by rw [hR]; congr 1; unfold lightM; rw [all_false hmem (show grS g = false by simp [grS, q2])]; simp
      ((try dsimp only [awp]); (conv => whnf))
      (refine FinSpec.mono ?_; (conv => whnf); refine ⟨?_, rfl⟩; (conv => whnf))
      (repeat' (first | exact rfl | exact trivial | exact HWk.refl rfl | exact leRL_refl _ | (refine And.intro ?_ ?_)))
    have q2 : g.fac.length ≤ 60 := by simp only [List.length_map] at q2; omega
    ((try dsimp only [awp]); (conv => whnf))
    refine LoopE.of <| LoopSpec.inv (.refl _ _) (fun (j : Nat) => j ≤ g.fac.length ∧ (g.fac.take j).all shortR = true) (fun (j : Nat) => [(105, .int .i64 j)]) (fun _ => _) (fun (j : Nat) => g.fac.length - j) 0 ?_ (fun _ => rfl) ?_ ?_
    · exact ⟨Nat.zero_le _, by simp⟩
    · (repeat' (first | exact rfl | exact trivial | exact HWk.refl rfl | exact leRL_refl _ | (refine And.intro ?_ ?_)))
    rintro j ⟨hj, hnj⟩ _
    ((try dsimp only [awp]); (conv => whnf))
    refine And.intro (fun hh => ?_) (fun hh => ?_)
    · have hjl : j < g.fac.length := by simpa using hh
      have hallj := all_take (p := shortR) hjl
      have hmj := List.getElem_mem hjl
      ((try dsimp only [awp]); (conv => whnf))
      refine aidx hjl ?_
      generalize g.fac[j] = r at *
      ((try dsimp only [awp]); (conv => whnf))
      refine .pure _ _ ?_ ⟨rfl, rfl⟩ (c_Short r) fun _ => ?_
      · exact leL_refl _
      ((try dsimp only [awp]); (conv => whnf))
      refine And.intro (fun q3 => ?_) (fun q3 => ?_)
      · have q3 : shortR r = false := by simpa using q3
        obtain rfl : R = .bool false := by rw [hR]; congr 1; unfold lightM; rw [all_false hmem (show grS g = false by simp [grS, all_false hmj q3])]; simp
        ((try dsimp only [awp]); (conv => whnf))
        (refine FinSpec.mono ?_; (conv => whnf); refine ⟨?_, rfl⟩; (conv => whnf))
        (repeat' (first | exact rfl | exact trivial | exact HWk.refl rfl | exact leRL_refl _ | (refine And.intro ?_ ?_)))
      have q3 : shortR r = true := by simpa using q3
      ((try dsimp only [awp]); (conv => whnf))
      (refine ⟨inr64 (by omega) (by omega), ?_⟩; (conv => whnf))
      refine ⟨j + 1, ?_, ?_, ?_⟩
      · exact ⟨hjl, by rw [hallj, hnj, q3]; rfl⟩
      · refine ⟨?_, .mk ?_ ⟨by simp, by simp, trivial⟩⟩
        · (repeat' (first | exact rfl | exact trivial | exact HWk.refl rfl | exact leRL_refl _ | (refine And.intro ?_ ?_)))
        · (repeat' (first | exact rfl | exact trivial | exact HWk.refl rfl | exact leRL_refl _ | (refine And.intro ?_ ?_)))
      · omega
    have hjl : j = g.fac.length := by have : ¬ j < g.fac.length := by simpa using hh
                                      omega
    subst hjl
    rw [List.take_length] at hnj
    ((try dsimp only [awp]); (conv => whnf))
    (refine ⟨inr64 (by omega) (by omega), ?_⟩; (conv => whnf))
    refine ⟨i + 1, ?_, ?_, ?_⟩
    · exact ⟨hlt, by rw [hall, hn]; simp [grS, q1, q2, hnj]⟩
    · refine ⟨?_, .mk ?_ ⟨by simp, trivial⟩⟩
      · (repeat' (first | exact rfl | exact trivial | exact HWk.refl rfl | exact leRL_refl _ | (refine And.intro ?_ ?_)))
      · (repeat' (first | exact rfl | exact trivial | exact HWk.refl rfl | exact leRL_refl _ | (refine And.intro ?_ ?_)))
    · omega
  have hil : i = m.grs.length := by have : ¬ i < m.grs.length := by simpa using h
                                    omega
  subst hil
  rw [List.take_length] at hn
  have a3 := hn
  clear h hi hn
  ((try dsimp only [awp]); (conv => whnf))
  refine LoopE.of <| LoopSpec.inv (.refl _ _) (fun (i : Nat) => i ≤ m.phs.length ∧ (m.phs.take i).all phS = true) (fun (i : Nat) => [(117, .int .i64 i)]) (fun _ => _) (fun (i : Nat) => m.phs.length - i) 0 ?_ (fun _ => rfl) ?_ ?_
  · exact ⟨Nat.zero_le _, by simp⟩
  · (repeat' (first | exact rfl | exact trivial | exact HWk.refl rfl | exact leRL_refl _ | (refine And.intro ?_ ?_)))
  rintro i ⟨hi, hn⟩ _
  ((try dsimp only [awp]); (conv => whnf))
  refine And.intro (fun h => ?_) (fun h => ?_)
  · have hlt : i < m.phs.length := by simpa using h
    have hall := all_take (p := phS) hlt
    have hmem := List.getElem_mem hlt
    ((try dsimp only [awp]); (conv => whnf))
    refine aidx hlt ?_
    generalize m.phs[i] = g at *
    ((try dsimp only [awp]); (conv => whnf))
    refine And.intro (fun q1 => ?_) (fun q1 => ?_)
    · have q1 : ¬ g.vals.length ≤ 60 := by simp only [List.length_map] at q1; omega
      obtain rfl : R = .bool false := by rw [hR]; congr 1; unfold lightM; rw [all_false hmem (show phS g = false by simp [phS, q1])]; simp
      ((try dsimp only [awp]); (conv => whnf))
      (refine FinSpec.mono ?_; (conv => whnf); refine ⟨?_, rfl⟩; (conv => whnf))
      (repeat' (first | exact rfl | exact trivial | exact HWk.refl rfl | exact leRL_refl _ | (refine And.intro ?_ ?_)))
    have q1 : g.vals.length ≤ 60 := by simp only [List.length_map] at q1; omega
    ((try dsimp only [awp]); (conv => whnf))
    refine LoopE.of <| LoopSpec.inv (.refl _ _) (fun (j : Nat) => j ≤ g.vals.length ∧ (g.vals.take j).all (fun v => shortR v.p) = true) (fun (j : Nat) => [(128, .int .i64 j)]) (fun _ => _) (fun (j : Nat) => g.vals.length - j) 0 ?_ (fun _ => rfl) ?_ ?_
    · exact ⟨Nat.zero_le _, by simp⟩
    · (repeat' (first | exact rfl | exact trivial | exact HWk.refl rfl | exact leRL_refl _ | (refine And.intro ?_ ?_)))
    rintro j ⟨hj, hnj⟩ _
    ((try dsimp only [awp]); (conv => whnf))
    refine And.intro (fun hh => ?_) (fun hh => ?_)
    · have hjl : j < g.vals.length := by simpa using hh
      have hallj := all_take (p := fun v : Pv => shortR v.p) hjl
      have hmj := List.getElem_mem hjl
      ((try dsimp only [awp]); (conv => whnf))
      refine aidx hjl ?_
      generalize g.vals[j] = r at *
      ((try dsimp only [awp]); (conv => whnf))
      refine .pure _ _ ?_ ⟨rfl, rfl⟩ (c_Short r.p) fun _ => ?_
      · exact leL_refl _
      ((try dsimp only [awp]); (conv => whnf))
      refine And.intro (fun q3 => ?_) (fun q3 => ?_)
      · have q3 : shortR r.p = false := by simpa using q3
        have q4 := all_false (p := fun v : Pv => shortR v.p) hmj q3
        obtain rfl : R = .bool false := by rw [hR]; congr 1; unfold lightM; rw [all_false hmem (show phS g = false by unfold phS; rw [q4]; simp)]; simp
        ((try dsimp only [awp]); (conv => whnf))
        (refine FinSpec.mono ?_; (conv => whnf); refine ⟨?_, rfl⟩; (conv => whnf))
        (repeat' (first | exact rfl | exact trivial | exact HWk.refl rfl | exact leRL_refl _ | (refine And.intro ?_ ?_)))
      have q3 : shortR r.p = true := by simpa using q3
      ((try dsimp only [awp]); (conv => whnf))
      (refine ⟨inr64 (by omega) (by omega), ?_⟩; (conv => whnf))
      refine ⟨j + 1, ?_, ?_, ?_⟩
      · exact ⟨hjl, by rw [hallj, hnj, q3]; rfl⟩
      · refine ⟨?_, .mk ?_ ⟨by simp, by simp, trivial⟩⟩
        · (repeat' (first | exact rfl | exact trivial | exact HWk.refl rfl | exact leRL_refl _ | (refine And.intro ?_ ?_)))
        · (repeat' (first | exact rfl | exact trivial | exact HWk.refl rfl | exact leRL_refl _ | (refine And.intro ?_ ?_)))
      · omega
    have hjl : j = g.vals.length := by have : ¬ j < g.vals.length := by simpa using hh
                                       omega
    subst hjl
    rw [List.take_length] at hnj
    ((try dsimp only [awp]); (conv => whnf))
    (refine ⟨inr64 (by omega) (by omega), ?_⟩; (conv => whnf))
    refine ⟨i + 1, ?_, ?_, ?_⟩
    · exact ⟨hlt, by rw [hall, hn]; unfold phS; rw [hnj]; simp [q1]⟩
    · refine ⟨?_, .mk ?_ ⟨by simp, trivial⟩⟩
      · (repeat' (first | exact rfl | exact trivial | exact HWk.refl rfl | exact leRL_refl _ | (refine And.intro ?_ ?_)))
      · (repeat' (first | exact rfl | exact trivial | exact HWk.refl rfl | exact leRL_refl _ | (refine And.intro ?_ ?_)))
    · omega
  have hil : i = m.phs.length := by have : ¬ i < m.phs.length := by simpa using h
                                    omega
  subst hil
  rw [List.take_length] at hn
  obtain rfl : R = .bool true := by rw [hR]; congr 1; unfold lightM; rw [a1, a2, a3, hn, h6]; simp [h1, h2, h3, h4, h5]
  ((try dsimp only [awp]); (conv => whnf))
  (refine FinSpec.mono ?_; (conv => whnf); refine ⟨?_, rfl⟩; (conv => whnf))
  (repeat' (first | exact rfl | exact trivial | exact HWk.refl rfl | exact leRL_refl _ | (refine And.intro ?_ ?_)))

theorem few_B {l : List Mg} (h : fewR l = true) : l.length ≤ 100 ∧ (∀ x ∈ l, x.ins.length ≤ 40) ∧ mgC l := by
  unfold fewR at h
  simp only [Bool.and_eq_true, decide_eq_true_eq] at h
  refine ⟨h.2, fun x hx => ?_, fun x hx => ?_⟩
  · have := List.all_eq_true.1 h.1 x hx
    simp only [fewG, Bool.and_eq_true, decide_eq_true_eq] at this
    exact this.1
  · have := List.all_eq_true.1 h.1 x hx
    simp only [fewG, Bool.and_eq_true, decide_eq_true_eq] at this
    exact shortR_C this.2

theorem lightM_B {m : Md} (h : lightM m = true) : MdB m ∧ MdC m := by
  unfold lightM at h
  simp only [Bool.and_eq_true, decide_eq_true_eq] at h
  obtain ⟨⟨⟨⟨⟨⟨⟨⟨⟨h1, h2⟩, h3⟩, h4⟩, h5⟩, h6⟩, h7⟩, h8⟩, h9⟩, h10⟩ := h
  have f6 := few_B h6
  refine ⟨⟨h1, h2, ⟨f6.1, f6.2.1⟩, h3, fun p hp => ?_, h4, fun g hg => ?_, h5, fun p hp => ?_⟩, ⟨fun x hx => ?_, f6.2.2, fun p hp => ?_, fun g hg f hf => ?_, fun p hp v hv => ?_⟩⟩
  · have := few_B (List.all_eq_true.1 h8 p hp)
    exact ⟨this.1, this.2.1⟩
  · have := List.all_eq_true.1 h9 g hg
    simp only [grS, Bool.and_eq_true, decide_eq_true_eq] at this
    exact this.1
  · have := List.all_eq_true.1 h10 p hp
    simp only [phS, Bool.and_eq_true, decide_eq_true_eq] at this
    exact this.1
  · have := List.all_eq_true.1 h7 x hx
    simp only [evS, Bool.and_eq_true] at this
    exact ⟨shortR_C this.1.1, shortR_C this.1.2, shortR_C this.2⟩
  · exact (few_B (List.all_eq_true.1 h8 p hp)).2.2
  · have := List.all_eq_true.1 h9 g hg
    simp only [grS, Bool.and_eq_true, decide_eq_true_eq] at this
    exact shortR_C (List.all_eq_true.1 this.2 f hf)
  · have := List.all_eq_true.1 h10 p hp
    simp only [phS, Bool.and_eq_true, decide_eq_true_eq] at this
    exact shortR_C (List.all_eq_true.1 this.2 v hv)
end S

open Go Go.AL Go.Proofs
namespace Go.AL
section
variable {P : Program} {ops : Array Oper} {Q : Exit → Act → World → Prop} {a : Act} {w : World} {o : Oper} {l : List Oper}

theorem wpl_val (v : Value) (w' : World) (hg : o.guard = none) (hrun : (execOp a.eval o).run P w = .ok (.value v) w') (h : wpList P ops Q l (a.put o.dst v) w') : wpList P ops Q (o :: l) a w := by
  simp only [wpList]
  rw [if_pos (wanted_none hg)]
  refine .inl ?_
  unfold Oper.wp
  rw [hrun, Oper.upon_value]; exact h

theorem wpl_skip (w' : World) (hg : o.guard = none) (hrun : (execOp a.eval o).run P w = .ok .skip w') (h : wpList P ops Q l (a.put o.dst undef) w') : wpList P ops Q (o :: l) a w := by
  simp only [wpList]
  rw [if_pos (wanted_none hg)]
  refine .inl ?_
  unfold Oper.wp
  rw [hrun, Oper.upon_skip]; exact h

/-- Nothing that was there is changed. -/
structure Ext (w w' : World) : Prop where
  size : w.heap.size ≤ w'.heap.size
  old : ∀ b, b < w.heap.size → w'.heap[b]? = w.heap[b]?
  os : w'.os = w.os
  tape : w'.tape = w.tape
  output : w'.output = w.output

theorem Ext.refl (w : World) : Ext w w := ⟨Nat.le_refl _, fun _ _ => rfl, rfl, rfl, rfl⟩
theorem Ext.trans {w v u : World} (h : Ext w v) (g : Ext v u) : Ext w u :=
  ⟨Nat.le_trans h.size g.size, fun b hb => (g.old b (Nat.lt_of_lt_of_le hb h.size)).trans (h.old b hb), g.os.trans h.os, g.tape.trans h.tape, g.output.trans h.output⟩

theorem wpl_alloc (v : Value) (ob : Obj) (hg : o.guard = none) (hrun : (execOp a.eval o).run P w = .ok (.value v) (w.alloc ob))
    (h : ∀ w', Ext w w' → w'.heap.size = w.heap.size + 1 → w'.heap[w.heap.size]? = some ob → wpList P ops Q l (a.put o.dst v) w') : wpList P ops Q (o :: l) a w := by
  refine wpl_val v _ hg hrun (h _ ⟨?_, fun b hb => alloc_heap_old w ob hb, rfl, rfl, rfl⟩ ?_ (alloc_heap_new w ob))
  · show w.heap.size ≤ (w.heap.push ob).size
    rw [Array.size_push]; omega
  · show (w.heap.push ob).size = _
    rw [Array.size_push]

theorem load_agg {t : Nat} {i : TI} {cs : List Value} {b off : Nat} (hT : TIOk P t i) (hz : isAg i.zero = true) (hl : cs.length = flat i.zero)
    (hc : ∀ j v, cs[j]? = some v → w.cell? ⟨b, off + j, none⟩ = some v) : (loadVar t ⟨b, off, none⟩).run P w = .ok (.agg cs.toArray) w := by
  unfold loadVar
  simp only [Sem.run_bind, hT.run_isAgg, Result.andThen_ok]
  have := run_loadCells_list (P := P) w ⟨b, off, none⟩ cs (fun j v hj => by
    have := hc j v hj
    unfold Addr.add; split
    · rename_i h0; subst h0; simpa using this
    · simpa using this)
  simp only [hz, if_true, Sem.run_bind, hT.run_size, Result.andThen_ok, ← hl, this, Sem.run_pure]

theorem load_one {t : Nat} {i : TI} {v : Value} {b off : Nat} (hT : TIOk P t i) (hz : isAg i.zero = false) (hc : w.cell? ⟨b, off, none⟩ = some v) : (loadVar t ⟨b, off, none⟩).run P w = .ok v w := by
  unfold loadVar
  simp only [Sem.run_bind, hT.run_isAgg, Result.andThen_ok, hz, Bool.false_eq_true, if_false, run_load, hc]

theorem results_cell {fn : Func} {tmps : Array Value} {t ty : Nat} {ad : Addr} {v : Value} (hr : fn.results.toList = [.cell t ty]) (ha : tmps.getD t undef = .pointer (some ad)) (hl : (loadVar ty ad).run P w = .ok v w) :
    (results fn tmps).run P w = .ok v w := by
  have h1 : (fn.results.toList.mapM (fun | .tmp t => pure (tmps.getD t undef) | .cell b t => do loadVar t (← asAddr (tmps.getD b undef)) : ResultVar → Sem Value)).run P w = .ok [v] w := by
    rw [hr]
    have e2 : (asAddr (Value.pointer (some ad))).run P w = .ok ad w := rfl
    simp only [List.mapM_cons, List.mapM_nil, Sem.run_bind, ha, e2, hl, Sem.run_pure, Result.andThen_ok]
  unfold results
  rw [Array.mapM_eq_mapM_toList]
  simp only [Sem.run_bind, map_eq_pure_bind, Sem.run_pure, Result.andThen_ok]
  erw [h1]
  simp

theorem run_store' {t : Nat} {x y : Operand} {ad : Addr} {v : Value} {w' : World} (ho : o.op = .store t x y) (hx : a.eval x = .pointer (some ad)) (hy : a.eval y = v) (h : (storeVar t ad v).run P w = .ok () w') :
    (execOp a.eval o).run P w = .ok .skip w' := by
  subst hy
  exact run_store_op (c := cx0 w) ho hx h

theorem setRow_ext {w : World} {g : Nat} {cs : Array Value} {w0 : World} (h : Ext w0 w) (hg : w0.heap.size ≤ g) : Ext w0 (w.setRow g cs) :=
  ⟨by rw [setRow_size]; exact h.size, fun b hb => (setRow_other w g b cs (by omega)).trans (h.old b hb), h.os, h.tape, h.output⟩
end
end Go.AL

namespace S
set_option maxRecDepth 100000

def exEv : Array Value := #[.string ⟨#[97]⟩, .bool false, .slice none 0 0, .slice none 0 0, .bool false, .slice none 0 0, .slice none 0 0, .bool false, .slice none 0 0, .slice none 0 0, .int .i64 0, .string ⟨#[98]⟩, .bool false, .slice none 0 0, .slice none 0 0, .bool false, .slice none 0 0, .slice none 0 0, .bool false, .slice none 0 0, .slice none 0 0, .int .i64 0, .string ⟨#[99]⟩, .bool false, .slice none 0 0, .slice none 0 0, .bool false, .slice none 0 0, .slice none 0 0, .bool false, .slice none 0 0, .slice none 0 0, .int .i64 0]
def exI0 : Array Value := #[.string ⟨#[97]⟩, .string ⟨#[64, 112]⟩]
def exG0 (n : Nat) : Array Value := #[.string ⟨#[103]⟩, .int .i64 0, .int .i64 0, .slice (some ⟨n, 0, none⟩) 2 2, .bool false, .slice none 0 0, .slice none 0 0]
def exI1 : Array Value := #[.string ⟨#[98]⟩, .string ⟨#[99]⟩]
def exG1 (n : Nat) : Array Value := #[.string ⟨#[104]⟩, .int .i64 1, .int .i64 0, .slice (some ⟨n, 0, none⟩) 2 2, .bool false, .slice none 0 0, .slice none 0 0]
def exP (n : Nat) : Array Value := #[.string ⟨#[112]⟩, .string ⟨#[104]⟩, .slice (some ⟨n, 0, none⟩) 1 1]
def exM (a b c : Nat) : Array Value := #[.string ⟨#[109]⟩, .string ⟨#[103]⟩, .slice (some ⟨a, 0, none⟩) 3 3, .slice none 0 0, .slice (some ⟨b, 0, none⟩) 1 1, .slice (some ⟨c, 0, none⟩) 1 1, .slice none 0 0, .slice none 0 0]

/-- The memory of the example. -/
structure ExW (w w' : World) : Prop where
  ext : Ext w w'
  size : w'.heap.size = w.heap.size + 7
  ev : w'.heap[w.heap.size + 1]? = some (.cells exEv 77)
  i0 : w'.heap[w.heap.size + 2]? = some (.cells exI0 9)
  g0 : w'.heap[w.heap.size + 3]? = some (.cells (exG0 (w.heap.size + 2)) 73)
  i1 : w'.heap[w.heap.size + 4]? = some (.cells exI1 9)
  g1 : w'.heap[w.heap.size + 5]? = some (.cells (exG1 (w.heap.size + 4)) 73)
  pg : w'.heap[w.heap.size + 6]? = some (.cells (exP (w.heap.size + 5)) 81)

theorem raw_Ex (w : World) (R : Ending → World → Prop) (hR : ∀ w', ExW w w' → R (.returned (.agg (exM (w.heap.size + 1) (w.heap.size + 3) (w.heap.size + 6)))) w') : Calls Try.prog 51 #[] w R := by
  obtain ⟨iM, hTM, hiM⟩ : ∃ i, TIOk Try.prog 65 i ∧ flat i.zero = 8 ∧ isAg i.zero = true := Lay.getC_ok lay (k := fun i => flat i.zero = 8 ∧ isAg i.zero = true) (by (conv => whnf); exact ⟨rfl, rfl⟩)
  refine calls_of_wp Try.func51 rfl ?_
  refine wp_seq (wp_region_list ?_)
  refine wpl_alloc (.pointer (some ⟨w.heap.size, 0, none⟩)) (.cells #[.string ⟨#[]⟩, .string ⟨#[]⟩, .slice none 0 0, .slice none 0 0, .slice none 0 0, .slice none 0 0, .slice none 0 0, .slice none 0 0] 65) rfl (by kernel_rfl) fun w1 x1 s1 n1 => ?_
  refine wp_seq (wp_region_list ?_)
  refine wpl_val (.agg #[.string ⟨#[97]⟩, .bool false, .slice none 0 0, .slice none 0 0, .bool false, .slice none 0 0, .slice none 0 0, .bool false, .slice none 0 0, .slice none 0 0, .int .i64 0]) w1 rfl (by kernel_rfl) ?_
  refine wpl_val (.agg #[.string ⟨#[98]⟩, .bool false, .slice none 0 0, .slice none 0 0, .bool false, .slice none 0 0, .slice none 0 0, .bool false, .slice none 0 0, .slice none 0 0, .int .i64 0]) w1 rfl (by kernel_rfl) ?_
  refine wpl_val (.agg #[.string ⟨#[99]⟩, .bool false, .slice none 0 0, .slice none 0 0, .bool false, .slice none 0 0, .slice none 0 0, .bool false, .slice none 0 0, .slice none 0 0, .int .i64 0]) w1 rfl (by kernel_rfl) ?_
  refine wpl_alloc (.slice (some ⟨w1.heap.size, 0, none⟩) 3 3) (.cells exEv 77) rfl (by kernel_rfl) fun w2 x2 s2 n2 => ?_
  refine wpl_alloc (.slice (some ⟨w2.heap.size, 0, none⟩) 2 2) (.cells exI0 9) rfl (by kernel_rfl) fun w3 x3 s3 n3 => ?_
  refine wpl_val (.agg #[.string ⟨#[103]⟩, .int .i64 0, .int .i64 0, .slice (some ⟨w2.heap.size, 0, none⟩) 2 2, .bool false, .slice none 0 0, .slice none 0 0]) w3 rfl (by kernel_rfl) ?_
  refine wpl_alloc (.slice (some ⟨w3.heap.size, 0, none⟩) 1 1) (.cells #[.string ⟨#[103]⟩, .int .i64 0, .int .i64 0, .slice (some ⟨w2.heap.size, 0, none⟩) 2 2, .bool false, .slice none 0 0, .slice none 0 0] 73) rfl (by kernel_rfl) fun w4 x4 s4 n4 => ?_
  refine wpl_alloc (.slice (some ⟨w4.heap.size, 0, none⟩) 2 2) (.cells exI1 9) rfl (by kernel_rfl) fun w5 x5 s5 n5 => ?_
  refine wpl_val (.agg #[.string ⟨#[104]⟩, .int .i64 1, .int .i64 0, .slice (some ⟨w4.heap.size, 0, none⟩) 2 2, .bool false, .slice none 0 0, .slice none 0 0]) w5 rfl (by kernel_rfl) ?_
  refine wpl_alloc (.slice (some ⟨w5.heap.size, 0, none⟩) 1 1) (.cells #[.string ⟨#[104]⟩, .int .i64 1, .int .i64 0, .slice (some ⟨w4.heap.size, 0, none⟩) 2 2, .bool false, .slice none 0 0, .slice none 0 0] 73) rfl (by kernel_rfl) fun w6 x6 s6 n6 => ?_
  refine wpl_val (.agg #[.string ⟨#[112]⟩, .string ⟨#[104]⟩, .slice (some ⟨w5.heap.size, 0, none⟩) 1 1]) w6 rfl (by kernel_rfl) ?_
  refine wpl_alloc (.slice (some ⟨w6.heap.size, 0, none⟩) 1 1) (.cells #[.string ⟨#[112]⟩, .string ⟨#[104]⟩, .slice (some ⟨w5.heap.size, 0, none⟩) 1 1] 81) rfl (by kernel_rfl) fun w7 x7 s7 n7 => ?_
  refine wpl_val (.agg #[.string ⟨#[109]⟩, .string ⟨#[103]⟩, .slice (some ⟨w1.heap.size, 0, none⟩) 3 3, .slice none 0 0, .slice (some ⟨w3.heap.size, 0, none⟩) 1 1, .slice (some ⟨w6.heap.size, 0, none⟩) 1 1, .slice none 0 0, .slice none 0 0]) w7 rfl (by kernel_rfl) ?_
  have e17 : Ext w1 w7 := x2.trans (x3.trans (x4.trans (x5.trans (x6.trans x7))))
  have hbx : w7.heap[w.heap.size]? = some (.cells #[.string ⟨#[]⟩, .string ⟨#[]⟩, .slice none 0 0, .slice none 0 0, .slice none 0 0, .slice none 0 0, .slice none 0 0, .slice none 0 0] 65) := by
    rw [e17.old _ (by omega)]; exact n1
  have hst := run_storeVar (v := .agg (exM w1.heap.size w3.heap.size w6.heap.size)) (off := 0) hTM (by rw [hiM.1]; kernel_rfl) hbx (by show 0 + 8 ≤ 8; omega) (by
    intro u hu
    simp only [Value.cells, exM] at hu
    simp only [List.mem_cons, List.not_mem_nil, or_false] at hu
    rcases hu with rfl | rfl | rfl | rfl | rfl | rfl | rfl | rfl <;> rfl)
  have hrow : w7.setRow w.heap.size ((#[.string ⟨#[]⟩, .string ⟨#[]⟩, .slice none 0 0, .slice none 0 0, .slice none 0 0, .slice none 0 0, .slice none 0 0, .slice none 0 0] : Array Value).toList.take 0 ++ (Value.agg (exM w1.heap.size w3.heap.size w6.heap.size)).cells.toList ++ (#[.string ⟨#[]⟩, .string ⟨#[]⟩, .slice none 0 0, .slice none 0 0, .slice none 0 0, .slice none 0 0, .slice none 0 0, .slice none 0 0] : Array Value).toList.drop (0 + (Value.agg (exM w1.heap.size w3.heap.size w6.heap.size)).cells.size)).toArray = w7.setRow w.heap.size (exM w1.heap.size w3.heap.size w6.heap.size) := rfl
  rw [hrow] at hst
  have hw : ExW w (w7.setRow w.heap.size (exM w1.heap.size w3.heap.size w6.heap.size)) := by
    have o2 : ∀ b, b ≠ w.heap.size → (w7.setRow w.heap.size (exM w1.heap.size w3.heap.size w6.heap.size)).heap[b]? = w7.heap[b]? := fun b hb => setRow_other _ _ _ _ hb
    refine ⟨setRow_ext (x1.trans e17) (Nat.le_refl _), by rw [setRow_size]; omega, ?_, ?_, ?_, ?_, ?_, ?_⟩
    · rw [o2 _ (by omega), ← s1, (x3.trans (x4.trans (x5.trans (x6.trans x7)))).old _ (by omega)]; exact n2
    · rw [o2 _ (by omega), show w.heap.size + 2 = w2.heap.size by omega, (x4.trans (x5.trans (x6.trans x7))).old _ (by omega)]; exact n3
    · rw [o2 _ (by omega), show w.heap.size + 3 = w3.heap.size by omega, show w.heap.size + 2 = w2.heap.size by omega, (x5.trans (x6.trans x7)).old _ (by omega)]; exact n4
    · rw [o2 _ (by omega), show w.heap.size + 4 = w4.heap.size by omega, (x6.trans x7).old _ (by omega)]; exact n5
    · rw [o2 _ (by omega), show w.heap.size + 5 = w5.heap.size by omega, show w.heap.size + 4 = w4.heap.size by omega, x7.old _ (by omega)]; exact n6
    · rw [o2 _ (by omega), show w.heap.size + 6 = w6.heap.size by omega, show w.heap.size + 5 = w5.heap.size by omega]; exact n7
  have hld := load_agg (w := w7.setRow w.heap.size (exM w1.heap.size w3.heap.size w6.heap.size)) (b := w.heap.size) (off := 0) (cs := (exM w1.heap.size w3.heap.size w6.heap.size).toList) hTM hiM.2 (by rw [hiM.1]; rfl) (by
    intro j v hj
    rw [Nat.zero_add, cell_of_heap (setRow_heap w7 _ _ _ _ _ hbx), ← Array.getElem?_toList]; exact hj)
  rw [Array.toArray_toList] at hld
  have hR := hR _ hw
  rw [show w.heap.size + 1 = w1.heap.size by omega, show w.heap.size + 3 = w3.heap.size by omega, show w.heap.size + 6 = w6.heap.size by omega] at hR
  refine wpl_skip _ rfl (run_store' (v := .agg (exM w1.heap.size w3.heap.size w6.heap.size)) rfl (by kernel_rfl) (by kernel_rfl) hst) ?_
  refine wp_ret ⟨by kernel_rfl, _, results_cell rfl (by kernel_rfl) hld, hR⟩
end S

open Go Go.AL Go.Proofs
namespace Go.AL
section
variable {P : Program} {L : Lay} {ops : Array Oper} {Q : Exit → Act → World → Prop} {a : Act} {w : World} {o : Oper} {l : List Oper}

theorem wpl_call (f : Nat) (args : Array Value) (hg : o.guard = none) (hrun : (execOp a.eval o).run P w = .ok (.enter f args) w)
    (h : Calls P f args w fun e w' => ∃ v, e = .returned v ∧ wpList P ops Q l (a.put o.dst v) w') : wpList P ops Q (o :: l) a w := by
  simp only [wpList]
  rw [if_pos (wanted_none hg)]
  refine .inl ?_
  unfold Oper.wp
  rw [hrun, Oper.upon_enter]
  refine Calls.mono h ?_
  rintro _ w' ⟨v, rfl, h⟩
  exact h

theorem put_size {d : Option Nat} {v : Value} : (a.put d v).tmps.size = a.tmps.size := by
  cases d <;> simp [Act.put]

theorem put_defers {d : Option Nat} {v : Value} : (a.put d v).defers = a.defers := by
  cases d <;> rfl

theorem eval_put {d : Nat} {v : Value} (h : d < a.tmps.size) : (a.put (some d) v).eval (.tmp d) = v := by
  simp [Act.put, Act.eval, h]

theorem eval_put_ne {d t : Nat} {v : Value} (h : d ≠ t) : (a.put (some d) v).eval (.tmp t) = a.eval (.tmp t) := by
  simp [Act.put, Act.eval, Array.getElem?_setIfInBounds_ne h]

/-- What is known of the slots after one was written. -/
structure PutA (a a' : Act) (d : Nat) (v : Value) : Prop where
  size : a'.tmps.size = a.tmps.size
  defers : a'.defers = a.defers
  new : a'.eval (.tmp d) = v
  old : ∀ t : Nat, t ≠ d → a'.eval (.tmp t) = a.eval (.tmp t)

theorem wpl_valA (d : Nat) (v : Value) (w' : World) (hg : o.guard = none) (hd : o.dst = some d) (hlt : d < a.tmps.size) (hrun : (execOp a.eval o).run P w = .ok (.value v) w') (h : ∀ a', PutA a a' d v → wpList P ops Q l a' w') : wpList P ops Q (o :: l) a w := by
  refine wpl_val v w' hg hrun (h _ ?_)
  rw [hd]
  exact ⟨put_size, put_defers, eval_put hlt, fun t ht => eval_put_ne (Ne.symm ht)⟩

theorem exec_field {t f n : Nat} {x : Operand} {i : TI} {zs : List AV} {z : AV} {b off off' : Nat} (hoff : off' = off + flatL (zs.take f)) (ho : o.op = .fieldAddr t x f) (hT : TIOk P t i) (hd : ∃ fs, i.desc = .struct fs) (hz : i.zero = .ag zs) (hf : zs[f]? = some z) (hn : flat z = n + 1)
    (hp : a.eval x = .pointer (some ⟨b, off, none⟩)) : (execOp a.eval o).run P w = .ok (.value (.pointer (some ⟨b, off', none⟩))) w := by
  subst hoff
  obtain ⟨gs, fd, h1, h2, h3, h4⟩ := hT.field hd hz hf
  unfold execOp; rw [ho]
  simp only [Instr.fieldAt, hp, Instr.sureAddr, Sem.run_bind, run_underlying h1, Result.andThen_ok, h2, Sem.run_pure, fieldPlace, run_sizeOf_cells (h4.trans hn)]
  simp [addr_add, h3]

theorem exec_index {t el : Nat} {x y : Operand} {ei : TI} {b off off' : Nat} {n : Int} (hoff : off' = off + n.toNat * flat ei.zero) (ho : o.op = .indexAddr t x y) (ht : P.underlying t = some (.slice el)) (hE : TIOk P el ei) {len cap : Nat} {kd : IntKind}
    (hx : a.eval x = .slice (some ⟨b, off, none⟩) len cap) (hy : a.eval y = .int kd n) (h0 : 0 ≤ n) (h1 : n < (len : Int)) :
    (execOp a.eval o).run P w = .ok (.value (.pointer (some ⟨b, off', none⟩))) w := by
  subst hoff
  have := run_indexAddr_slice (P := P) (c := cx0 w) ho ht hE hx hy h0 h1
  rw [addr_add] at this
  exact this

theorem exec_load {t : Nat} {x : Operand} {i : TI} {b off : Nat} {v : Value} (ho : o.op = .load t x) (hT : TIOk P t i) (hz : isAg i.zero = false) (hx : a.eval x = .pointer (some ⟨b, off, none⟩)) (hc : w.cell? ⟨b, off, none⟩ = some v) :
    (execOp a.eval o).run P w = .ok (.value v) w := run_load_op (c := cx0 w) ho hx (load_one hT hz hc)

/-- The end of a function, as 'FnH.intro' has it. -/
theorem fin_of (hL : LayOk P L) {fn : Func} {c c1 : Cx} {H H1 H' : Heap} {R : AV} {e : Env} {a : Act} (hr : HR c H) (htr : Tr c H c1 H1) (ha1 : AOk fn.ntmps c1 e a) (h : FinSpec L fn.results.toList H R H' e H1) :
    a.defers = [] ∧ ∃ v, (results fn a.tmps).run P c1.w = .ok v c1.w ∧ (∃ v' d, Ending.returned v = .returned v' ∧ d.w = c1.w ∧ Tr c H d H' ∧ EV d R v') := by
  obtain ⟨e1, H2, hcv, hres⟩ := h
  obtain ⟨d, hw, htr', ha'⟩ := Cv_sound hcv htr.hr ha1
  obtain ⟨A, v, hrun, hA, hle, hbnd, hnx, hwk⟩ := results_sound hL htr'.hr ha' hres
  rw [hw] at hrun
  have hwk := hwk.to0 htr'.hr
  refine ⟨ha1.defers, v, hrun, v, d.cut H', rfl, hw, ?_, ?_⟩
  · exact (htr.trans htr').cut hwk (by rw [hr.nx]; exact hnx)
  · exact EV_cut (fun k n hn => by rw [htr'.hr.tp]; exact hwk.tp k n hn) hbnd (le_EV hle hA)

/-- A step of a walk that goes on by hand. -/
theorem seq_step (hL : LayOk P L) (hm : P.follows .mixedOrders = true) {n : Nat} {x y : Code} {Q : Exit → Act → World → Prop} {c : Cx} {H : Heap} {e : Env} {a : Act} (hc : codeB n x = true) (hr : HR c H) (ha : AOk n c e a)
    (h : awp (FnH P) Ok L x (fun x e1 H1 => x = .normal ∧ ∀ c' a', Tr c H c' H1 → AOk n c' e1 a' → y.wp P Q a' c'.w) e H) : (Code.seq x y).wp P Q a c.w := by
  refine wp_seq (wp_mono (awp_sound hL hm (fun _ _ _ _ _ h => h) x _ e H c a hc hr ha h) ?_)
  rintro ex a' w' ⟨x', e1, H1, c', rfl, ⟨rfl, k⟩, rfl, htr, ha', _⟩
  exact k c' a' htr ha'

/-- A slice whose memory is a row. -/
theorem sl_rd {Im : Nat → Nat → Prop} {sz b ty : Nat} {fr : Nat × Nat} {l : List AV} {arr : Array Value} (hrow : w.heap[b]? = some (.cells arr ty fr)) (hf : RdF w Im sz l arr.toList) (hIm : ∀ o, Im b o) (hl : l.length ≤ maxL) :
    Rd w Im (.sl sz l .no) [.slice (some ⟨b, 0, none⟩) l.length l.length] := by
  simp only [Rd]
  refine ⟨hl, .inr ⟨⟨b, 0, none⟩, l.length, rfl, Nat.le_refl _, hl, fun _ => rfl, RdE_of_RdF hf fun j v hj => ⟨?_, hIm _⟩⟩⟩
  rw [Nat.zero_add, cell_of_heap hrow, ← Array.getElem?_toList]
  exact hj
end
end Go.AL

namespace S
set_option maxRecDepth 100000

abbrev zq : Rat := ⟨false, [], []⟩
def exA (c : UInt8) : Ev := ⟨[c], zq, zq, zq, 0⟩
/-- The example, its last input being this one. -/
def mdE (s : Str) : Md := ⟨[109], [103], [exA 97, exA 98, exA 99], [], [⟨[103], 0, 0, [[97], [64, 112]], zq⟩], [⟨[112], [104], [⟨[104], 1, 0, [[98], s], zq⟩]⟩], [], []⟩

theorem c_Example22 : FnH Try.prog 51 [] [] (mdE [99]).av [] := by
  refine FnH.intro lay mixed Try.func51 (by kernel_rfl) rfl (by kernel_rfl) rfl fun hok => ?_
  ((try dsimp only [argC, succC]); (try dsimp only [awp]); (conv => whnf))
  (refine FinSpec.mono ?_; (conv => whnf); refine ⟨?_, rfl⟩; (conv => whnf))
  (repeat' (first | exact rfl | exact trivial | exact HWk.refl rfl | exact leRL_refl _ | (refine And.intro ?_ ?_)))

theorem ex_check : checkM (mdE [99]) = 0 := by decide +kernel
theorem ex_input : inputR (mdE [99]) (-1) [64, 112] = ((2, 0, 0), 0) := by decide +kernel
theorem ex_used : usedR (mdE [99]) = 7 := by decide +kernel
theorem ex_cycle : checkM (mdE [64, 112]) = 14 := by decide +kernel
theorem ex_light (s : Str) : lightM (mdE s) = true := by
  simp [lightM, mdE, fewR, fewG, evS, exA, shortR]
end S

open Go Go.AL Go.Proofs
namespace S
set_option maxRecDepth 100000
section
variable {w : World} {Im : Nat → Nat → Prop}

theorem rd_str (s : Str) (h : s.length ≤ maxL) : Rd w Im (.str s) [.string ⟨s.toArray⟩] := by simp only [Rd]; exact ⟨trivial, h⟩
theorem rd_int {n : Int} (h : InR .i64 n) : Rd w Im (.int .i64 n) [.int .i64 n] := by simp only [Rd]; exact ⟨trivial, h⟩
theorem rd_nil (sz : Nat) : Rd w Im (.sl sz [] .no) [.slice none 0 0] := by simp only [Rd]; refine ⟨by simp [maxL], .inl ⟨?_, ?_⟩⟩ <;> first | rfl | trivial
theorem rdL_nil : RdL w Im [] [] := by simp only [RdL]
theorem rdL_cons {x : AV} {l : List AV} {c d : List Value} (h : Rd w Im x c) (g : RdL w Im l d) : RdL w Im (x :: l) (c ++ d) := by simp only [RdL]; exact ⟨c, d, rfl, h, g⟩
theorem rd_ag {l : List AV} {c : List Value} (h : RdL w Im l c) : Rd w Im (.ag l) c := by simp only [Rd]; exact h
theorem rdF_nil (sz : Nat) : RdF w Im sz [] [] := rfl
theorem rdF_cons {sz : Nat} {x : AV} {l : List AV} {c d : List Value} (h : Rd w Im x c) (hl : c.length = sz) (g : RdF w Im sz l d) : RdF w Im sz (x :: l) (c ++ d) := ⟨c, d, rfl, hl, h, g⟩

theorem rd_zq : Rd w Im zq.av [.bool false, .slice none 0 0, .slice none 0 0] :=
  rd_ag (rdL_cons (c := [_]) (by simp only [Rd]) (rdL_cons (c := [_]) (rd_nil 1) (rdL_cons (c := [_]) (rd_nil 1) rdL_nil)))

theorem rd_exA (c : UInt8) : Rd w Im (exA c).av [.string ⟨#[c]⟩, .bool false, .slice none 0 0, .slice none 0 0, .bool false, .slice none 0 0, .slice none 0 0, .bool false, .slice none 0 0, .slice none 0 0, .int .i64 0] :=
  rd_ag (rdL_cons (c := [_]) (rd_str [c] (by simp [maxL])) (rdL_cons (c := [_, _, _]) rd_zq (rdL_cons (c := [_, _, _]) rd_zq (rdL_cons (c := [_, _, _]) rd_zq (rdL_cons (c := [_]) (rd_int (n := 0) (inr64 (by decide) (by decide))) rdL_nil)))))

theorem rd_gate {name : Str} {kind : Int} {ins : List Str} {v : Value} (hn : name.length ≤ maxL) (hk : InR .i64 kind) (h : Rd w Im (sL ins) [v]) : Rd w Im (Mg.av ⟨name, kind, 0, ins, zq⟩) [.string ⟨name.toArray⟩, .int .i64 kind, .int .i64 0, v, .bool false, .slice none 0 0, .slice none 0 0] :=
  rd_ag (rdL_cons (c := [_]) (rd_str name hn) (rdL_cons (c := [_]) (rd_int hk) (rdL_cons (c := [_]) (rd_int (n := 0) (inr64 (by decide) (by decide))) (rdL_cons (c := [_]) h (rdL_cons (c := [_, _, _]) rd_zq rdL_nil)))))

theorem rd_ex {n te ts tg tp : Nat} (E1 : w.heap[n + 1]? = some (.cells exEv te)) (E2 : w.heap[n + 2]? = some (.cells exI0 ts)) (E3 : w.heap[n + 3]? = some (.cells (exG0 (n + 2)) tg))
    (E4 : w.heap[n + 4]? = some (.cells #[.string ⟨#[98]⟩, .string ⟨#[64, 112]⟩] ts)) (E5 : w.heap[n + 5]? = some (.cells (exG1 (n + 4)) tg)) (E6 : w.heap[n + 6]? = some (.cells (exP (n + 5)) tp))
    (hIm : ∀ b o, n < b → b < n + 7 → Im b o) : Rd w Im (mdE [64, 112]).av (exM (n + 1) (n + 3) (n + 6)).toList := by
  have m2 : ∀ (l : List AV), l.length ≤ 3 → l.length ≤ maxL := fun l h => by simp [maxL]; omega
  have hi0 : Rd w Im (sL [[97], [64, 112]]) [.slice (some ⟨n + 2, 0, none⟩) 2 2] := sl_rd E2 (rdF_cons (c := [_]) (rd_str [97] (by simp [maxL])) rfl (rdF_cons (c := [_]) (rd_str [64, 112] (by simp [maxL])) rfl (rdF_nil 1))) (fun o => hIm _ o (by omega) (by omega)) (m2 _ (by simp))
  have hi1 : Rd w Im (sL [[98], [64, 112]]) [.slice (some ⟨n + 4, 0, none⟩) 2 2] := sl_rd E4 (rdF_cons (c := [_]) (rd_str [98] (by simp [maxL])) rfl (rdF_cons (c := [_]) (rd_str [64, 112] (by simp [maxL])) rfl (rdF_nil 1))) (fun o => hIm _ o (by omega) (by omega)) (m2 _ (by simp))
  have hg0 : Rd w Im (gL [⟨[103], 0, 0, [[97], [64, 112]], zq⟩]) [.slice (some ⟨n + 3, 0, none⟩) 1 1] := sl_rd E3 (rdF_cons (c := [_, _, _, _, _, _, _]) (rd_gate (kind := 0) (by simp [maxL]) (inr64 (by decide) (by decide)) hi0) rfl (rdF_nil 7)) (fun o => hIm _ o (by omega) (by omega)) (m2 _ (by simp))
  have hg1 : Rd w Im (gL [⟨[104], 1, 0, [[98], [64, 112]], zq⟩]) [.slice (some ⟨n + 5, 0, none⟩) 1 1] := sl_rd E5 (rdF_cons (c := [_, _, _, _, _, _, _]) (rd_gate (kind := 1) (by simp [maxL]) (inr64 (by decide) (by decide)) hi1) rfl (rdF_nil 7)) (fun o => hIm _ o (by omega) (by omega)) (m2 _ (by simp))
  have hp : Rd w Im (.sl 3 [Pg.av ⟨[112], [104], [⟨[104], 1, 0, [[98], [64, 112]], zq⟩]⟩] .no) [.slice (some ⟨n + 6, 0, none⟩) 1 1] :=
    sl_rd E6 (rdF_cons (c := [_, _, _]) (rd_ag (rdL_cons (c := [_]) (rd_str [112] (by simp [maxL])) (rdL_cons (c := [_]) (rd_str [104] (by simp [maxL])) (rdL_cons (c := [_]) hg1 rdL_nil)))) rfl (rdF_nil 3)) (fun o => hIm _ o (by omega) (by omega)) (m2 _ (by simp))
  have he : Rd w Im (.sl 11 [(exA 97).av, (exA 98).av, (exA 99).av] .no) [.slice (some ⟨n + 1, 0, none⟩) 3 3] :=
    sl_rd E1 (rdF_cons (c := [_, _, _, _, _, _, _, _, _, _, _]) (rd_exA 97) rfl (rdF_cons (c := [_, _, _, _, _, _, _, _, _, _, _]) (rd_exA 98) rfl (rdF_cons (c := [_, _, _, _, _, _, _, _, _, _, _]) (rd_exA 99) rfl (rdF_nil 11)))) (fun o => hIm _ o (by omega) (by omega)) (m2 _ (by simp))
  exact rd_ag (rdL_cons (c := [_]) (rd_str [109] (by simp [maxL])) (rdL_cons (c := [_]) (rd_str [103] (by simp [maxL])) (rdL_cons (c := [_]) he (rdL_cons (c := [_]) (rd_nil 2) (rdL_cons (c := [_]) hg0 (rdL_cons (c := [_]) hp (rdL_cons (c := [_]) (rd_nil 4) (rdL_cons (c := [_]) (rd_nil 3) rdL_nil))))))))
end
end S
