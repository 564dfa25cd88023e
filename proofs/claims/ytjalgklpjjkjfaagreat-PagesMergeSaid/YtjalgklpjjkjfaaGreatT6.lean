/-
  Contracts of functions of the program, over the logic of the texts before. Nothing is assumed.
-/
import Derived.Test.YtjalgklpjjkjfaaGreatT5

open Go Go.AL Go.Proofs
namespace S
set_option maxRecDepth 100000

theorem gIn_all : ∀ (l : List Mg), l.map (gIn id id) = l
 | [] => rfl
 | g :: l => by rw [List.map_cons, gIn_id, gIn_all l]

def erK (l : List Pg) (i k : Nat) : List Pg := (l.take k).eraseIdx i

theorem erK_succ {l : List Pg} {i k : Nat} (h : k < l.length) : erK l i (k + 1) = if k = i then erK l i k else erK l i k ++ [l[k]] := by
 unfold erK
 have hl : (l.take k).length = k := by simp; omega
 rw [take_one h]
 by_cases e : k = i
 ·subst e
  rw [if_pos rfl, List.eraseIdx_append_of_length_le (by omega), hl, Nat.sub_self, List.eraseIdx_of_length_le (l := l.take k) (by omega)]
  simp
 ·rw [if_neg e]
  by_cases h2 : i < k
  ·rw [List.eraseIdx_append_of_lt_length (by omega)]
  ·rw [List.eraseIdx_append_of_length_le (by omega), hl, List.eraseIdx_of_length_le (l := l.take k) (by omega)]
   rw [List.eraseIdx_of_length_le (by simp; omega)]

theorem erK_len {l : List Pg} {i k : Nat} (h : k ≤ l.length) : (erK l i k).length ≤ k := by
 unfold erK
 have := List.length_eraseIdx_le (l.take k) i
 simp at this
 omega

def mgAV (n : Md) (e : Int) : AV := if e = 0 then .tup [n.av, .nilI] else .tup [zMd, .ifc 90 (.int .i64 e)]

abbrev mbox (m : Md) (p : Pg) (t : Tk) (pages : AV) : AV := .ag [.str m.name, .str (inP p m.top), .sl 11 (m.evs.map Ev.av) .no, .sl 2 (m.hs.map Hs.av) .no, .sl 7 ((m.gates.map (gIn id (inP p))).map Mg.av ++ (p.gates.map (gIn (nmP p) (mvP p))).map Mg.av) t, pages, .sl 4 (m.grs.map Gr.av) .no, .sl 3 ((m.phs.map (phT (inP p))).map Ph.av) .no]

theorem c_merge (m : Md) (hm : PgB m) (i : Nat) (hi : i < m.pages.length) (hC : MdC m) (hn : ∀ g ∈ (pgA m i).gates, g.name.length ≤ 24) (ht : totalM m ≤ 64) (R : AV) (hR : R = mgAV (mgM m i (pgA m i)) (mgE m i)) :
  FnH Tryz.prog 79 [m.av, .int .i64 i] [] R [] := by
 have ci := c_inner m hm i
 have hB := hm.B
 have hX := hm.X
 have hpm := pg_mem hi
 have hpn : (pgA m i).name.length ≤ 24 := hm.names _ hpm
 have hpb := hB.pgates _ hpm
 have hpx := hX.pages _ hpm
 have cI := fun s => c_in (pgA m i) s ⟨hpn, hn⟩
 have cV := fun s => c_mv (pgA m i) s ⟨hpn, hn⟩
 have cN := fun s h => c_nm (pgA m i) s ⟨hpn, h⟩
 have cr := c_rest m 141 [.cp (pgA m i).av, .cp (fV (pgA m i))] (inP (pgA m i)) hB hX (cI _) (fun x _ => cI _) rfl
 have cg1 := c_pgatesO m.gates 76 141 [] [.cp (pgA m i).av, .cp (fV (pgA m i))] id (inP (pgA m i)) (by have := hB.gates.1; omega) (fun g hg => by have := hB.gates.2 g hg; omega) hX.gates (fun g _ => c_same25 _) (fun g _ s _ => cI s) rfl rfl
 have cg2 := c_pgates (pgA m i).gates 139 140 [.cp (pgA m i).av] [.cp (fO (pgA m i)), .cp (fN (pgA m i))] (nmP (pgA m i)) (mvP (pgA m i)) (by omega) (fun g hg => by have := hpb.2 g hg; omega) hpx (fun g hg => cN _ (hn g hg)) (fun g _ s _ => cV s) rfl rfl
 have hl1 := hB.gates.1
 have hl2 := hpb.1
 have hpl := hB.pages
 have cc2 := c_mCheck (mgM m i (pgA m i)) (mg_C hi hC) (mg_B hi hB ht) _ rfl
 unfold mgE at hR
 cases hin : innerP m i with
 | true =>
   rw [hin] at ci
   rw [hin, if_pos rfl] at hR
   have ci := ci.weak (R' := .tt) rfl
   subst hR
   refine FnH.intro lay mixed Tryz.func79 (by kernel_rfl) rfl (by kernel_rfl) rfl fun hok => ?_
   (try dsimp only[argC,succC]);(try dsimp only[awp]);conv=>whnf
   refine .pure _ _ ?_ ⟨rfl, rfl⟩ ci fun _ => ?_
   ·exact leL_refl _
   (try dsimp only[awp]);conv=>whnf
   refine fM ?_;(conv=>whnf);refine ⟨?_,rfl⟩;conv=>whnf
   repeat' first|exact rfl|exact trivial|exact wR|exact lR _|apply aI
 | false =>
 rw [hin] at ci
 rw [hin, if_neg (by simp)] at hR
 have ci := ci.weak (R' := .ff) rfl
 have hpa : pgA m i = m.pages[i] := getD_lt hi
 refine FnH.introF [0, 2, 3, 4, 5] 7 lay mixed Tryz.func79 (by kernel_rfl) rfl (by kernel_rfl) rfl fun hok => ?_
 (try dsimp only[argC,succC]);(try dsimp only[awp]);conv=>whnf
 refine .pure _ _ ?_ ⟨rfl, rfl⟩ ci fun _ => ?_
 ·exact leL_refl _
 (try dsimp only[awp]);conv=>whnf
 refine aidx hi ?_
 rw [← hpa]
 generalize pgA m i = p at *
 (try dsimp only[awp]);conv=>whnf
 repeat (refine And.intro ⟨rfl, rfl⟩ ?_; (conv=>whnf))
 refine .pure _ _ ?_ ⟨rfl, rfl⟩ cr fun _ => ?_
 ·exact leL_refl _
 (try dsimp only[awp]);conv=>whnf
 refine ADraw.mk ⟨[true, true, true, false, true, true, true, true, true, false, true, false], by kernel_rfl, ?_⟩
 conv=>whnf
 refine .gen _ _ (FnH.frame [] cg1 ⟨rfl, rfl, rfl, rfl⟩ ?_ ?_) fun _ => ?_
 ·repeat' first|exact rfl|exact trivial|exact wR|exact lR _|apply aI
 ·repeat' first|exact rfl|exact trivial|exact wR|exact lR _|apply aI
 (try dsimp only[awp]);conv=>whnf
 refine ACallP.pure _ _ ?_ ⟨rfl, rfl⟩ cg2 ?_
 ·exact leL_refl _
 (try dsimp only[awp]);conv=>whnf
 refine ⟨by simp, .mk (by simp [maxL]; omega) (by simp; omega) ?_⟩
 (try dsimp only[awp]);conv=>whnf
 refine LoopE.of <| LoopSpec.inv (.growF 6 [5] 3 [] (mbox m p (.own 7) .nils) .nils _ rfl rfl (.inl ⟨rfl, rfl⟩) rfl (.refl _ _)) (fun (k : Nat) => k ≤ m.pages.length)
  (fun k => [(48, .int .i64 k)]) (fun k => [(8, .tok 3 (erK m.pages i k).length), (7, .gone), (6, .box (mbox m p .no (.sl 3 ((erK m.pages i k).map Pg.av) (.own 8)))), (5, .gone), (4, .gone), (3, .gone), (2, .gone), (1, .box zMd), (0, .gone)]) (fun k => m.pages.length - k) 0 ?_ (fun _ => rfl) ?_ ?_
 ·exact Nat.zero_le _
 ·refine ⟨?_, .mk ?_ (by simp [idsOk])⟩
  ·repeat' first|exact rfl|exact trivial|exact wR|exact lR _|apply aI
  ·repeat' first|exact rfl|exact trivial|exact wR|exact lR _|apply aI
 intro k hk _
 have hel := erK_len (i := i) hk
 (try dsimp only[awp]);conv=>whnf
 refine And.intro (fun h => ?_) (fun h => ?_)
 ·have hkl : k < m.pages.length := by simpa using h
  have ht := erK_succ (i := i) hkl
  have hpk := hB.pgates _ (List.getElem_mem hkl)
  have cgp := c_pgates (m.pages[k]).gates 76 76 [] [] id id (by omega) (fun g hg => by have := hpk.2 g hg; omega) (hX.pages _ (List.getElem_mem hkl)) (fun g _ => c_same25 _) (fun g _ s _ => c_same25 s) rfl rfl
  rw [gIn_all] at cgp
  (try dsimp only[awp]);conv=>whnf
  refine aidx hkl ?_
  generalize m.pages[k] = x at *
  generalize erK m.pages i k = L at *
  (try dsimp only[awp]);conv=>whnf
  refine And.intro (fun h1 => ?_) (fun h1 => ?_)
  ·have h1 : ¬ k = i := by intro e; exact h1 (by rw [e])
   rw [if_neg h1] at ht
   (try dsimp only[awp]);conv=>whnf
   refine ADraw.auto (by kernel_rfl) ?_;conv=>whnf
   refine ACallP.pure _ _ ?_ ⟨rfl, rfl⟩ cgp ?_
   ·exact leL_refl _
   (try dsimp only[awp]);conv=>whnf
   refine ⟨by rw [List.length_map], .mk (by simp [maxL]; omega) (by simp; omega) ?_⟩
   (try dsimp only[awp]);conv=>whnf
   refine zA ?_;conv=>whnf
   refine ⟨k + 1, ?_, ?_, ?_⟩
   ·exact hkl
   ·rw [ht]
    refine ⟨?_, .mk ?_ (by simp [idsOk])⟩
    ·repeat' first|exact rfl|exact trivial|exact wR|exact lR _|apply aI
     all_goals first | (simp; done) | (simp; omega)
    ·repeat' first|exact rfl|exact trivial|exact wR|exact lR _|apply aI
     all_goals first | (refine leRL_of ?_; rw [List.map_append]; rfl) | (simp; done) | (simp; omega)
   ·omega
  ·have h1 : k = i := by
    by_cases e : k = i
    ·exact e
    ·exact absurd (fun (e2 : (k : Int) = i) => e (by omega)) h1
   rw [if_pos h1] at ht
   (try dsimp only[awp]);conv=>whnf
   refine zA ?_;conv=>whnf
   refine ⟨k + 1, ?_, ?_, ?_⟩
   ·exact hkl
   ·rw [ht]
    refine ⟨?_, .mk ?_ (by simp [idsOk])⟩
    ·repeat' first|exact rfl|exact trivial|exact wR|exact lR _|apply aI
     all_goals first | (simp; done) | (simp; omega)
    ·repeat' first|exact rfl|exact trivial|exact wR|exact lR _|apply aI
     all_goals first | (refine leRL_of ?_; rw [List.map_append]; rfl) | (simp; done) | (simp; omega)
   ·omega
 have hkl : k = m.pages.length := by have : ¬ k < m.pages.length := by simpa using h
                                     omega
 subst hkl
 rw [show erK m.pages i m.pages.length = m.pages.eraseIdx i by unfold erK; rw [List.take_length]]
 clear h
 (try dsimp only[awp]);conv=>whnf
 refine LoopE.of <| LoopSpec.inv (.refl _ _) (fun (k : Nat) => k ≤ p.gates.length ∧ ∀ (j : Nat) (hj : j < p.gates.length), j < k → ¬ 24 < (nmP p p.gates[j].name).length) (fun (k : Nat) => [(73, .int .i64 k)]) (fun _ => _) (fun (k : Nat) => p.gates.length - k) 0 ?_ (fun _ => rfl) ?_ ?_
 ·exact ⟨Nat.zero_le _, by omega⟩
 ·repeat' first|exact rfl|exact trivial|exact wR|exact lR _|apply aI
 rintro k ⟨hk, hno⟩ _
 (try dsimp only[awp]);conv=>whnf
 refine And.intro (fun h => ?_) (fun h => ?_)
 ·have hkl : k < p.gates.length := by simpa using h
  have cn := cN _ (hn _ (List.getElem_mem hkl))
  (try dsimp only[awp]);conv=>whnf
  refine aidx hkl ?_
  (try dsimp only[awp]);conv=>whnf
  refine .pure _ _ ?_ ⟨rfl, rfl⟩ cn fun _ => ?_
  ·exact leL_refl _
  (try dsimp only[awp]);conv=>whnf
  refine And.intro (fun h1 => ?_) (fun h1 => ?_)
  ·have h1 : 24 < (nmP p p.gates[k].name).length := by omega
   have hlong : longP p = true := List.any_eq_true.2 ⟨_, List.getElem_mem hkl, decide_eq_true h1⟩
   rw [hlong, if_pos rfl] at hR
   subst hR
   (try dsimp only[awp]);conv=>whnf
   refine fM ?_;(conv=>whnf);refine ⟨?_,rfl⟩;conv=>whnf
   repeat' first|exact rfl|exact trivial|exact wR|exact lR _|apply aI
  ·have h1 : ¬ 24 < (nmP p p.gates[k].name).length := by omega
   (try dsimp only[awp]);conv=>whnf
   refine zA ?_;conv=>whnf
   refine ⟨k + 1, ?_, ?_, ?_⟩
   ·refine ⟨hkl, fun j hj hjk => ?_⟩
    by_cases e : j = k
    ·subst e; exact h1
    ·exact hno j hj (by omega)
   ·refine ⟨?_, .mk ?_ (by simp [idsOk])⟩
    ·repeat' first|exact rfl|exact trivial|exact wR|exact lR _|apply aI
    ·repeat' first|exact rfl|exact trivial|exact wR|exact lR _|apply aI
   ·omega
 have hkl : k = p.gates.length := by have : ¬ k < p.gates.length := by simpa using h
                                     omega
 have hlong : longP p = false := by
  unfold longP
  rw [List.any_eq_false]
  intro x hx
  obtain ⟨j, hj, rfl⟩ := List.getElem_of_mem hx
  simpa using hno j hj (by omega)
 rw [hlong, if_neg (by simp)] at hR
 subst hkl
 clear h
 by_cases g1 : checkM (mgM m i p) = 0
 ·rw [g1, errAV_zero] at cc2
  rw [g1] at hR
  subst hR
  (try dsimp only[awp]);conv=>whnf
  refine .pure _ _ ?_ ⟨rfl, rfl⟩ cc2 fun _ => ?_
  ·repeat' first|exact rfl|exact trivial|exact wR|exact lR _|apply aI
   all_goals first | (refine leRL_of ?_; rw [← List.map_append]; rfl) | skip
  (try dsimp only[awp]);conv=>whnf
  refine fM ?_;(conv=>whnf);refine ⟨?_,rfl⟩;conv=>whnf
  repeat' first|exact rfl|exact trivial|exact wR|exact lR _|apply aI
  all_goals first | (refine leRL_of ?_; rw [← List.map_append]; rfl) | skip
 ·rw [errAV_ne g1] at cc2
  have hR : R = .tup [zMd, .ifc 90 (.int .i64 (checkM (mgM m i p)))] := by rw [hR]; unfold mgAV; rw [if_neg g1]
  subst hR
  (try dsimp only[awp]);conv=>whnf
  refine .pure _ _ ?_ ⟨rfl, rfl⟩ cc2 fun _ => ?_
  ·repeat' first|exact rfl|exact trivial|exact wR|exact lR _|apply aI
   all_goals first | (refine leRL_of ?_; rw [← List.map_append]; rfl) | skip
  (try dsimp only[awp]);conv=>whnf
  refine fM ?_;(conv=>whnf);refine ⟨?_,rfl⟩;conv=>whnf
  repeat' first|exact rfl|exact trivial|exact wR|exact lR _|apply aI

section
variable {σ : Type} (kids : Node → List Node) (step : σ → Node → σ) (V : σ → Node → Prop)

structure Inv (s : WS σ) : Prop where
 rank : ∃ rank : Node → Nat, ∀ x, look s.es x = 2 → ∀ y ∈ kids x, y.1 = 2 → look s.es y = 2 ∧ rank y < rank x
 met : ∀ x, look s.es x = 2 → V s.st x ∧ ∀ y ∈ kids x, y.1 ≠ 2 → V s.st y

structure On (s s' : WS σ) : Prop where
 one : ∀ y, look s'.es y = 1 ↔ look s.es y = 1
 two : ∀ y, look s.es y = 2 → look s'.es y = 2
 met : ∀ y, V s.st y → V s'.st y

theorem On.refl (s : WS σ) : On V s s := ⟨fun _ => Iff.rfl, fun _ h => h, fun _ h => h⟩
theorem On.trans {a b c : WS σ} (h : On V a b) (g : On V b c) : On V a c := ⟨fun y => (g.one y).trans (h.one y), fun y e => g.two y (h.two y e), fun y e => g.met y (h.met y e)⟩

structure After (x : Node) (s s' : WS σ) : Prop where
 inv : Inv kids V s'
 on : On V s s'
 done : x.1 = 2 → look s'.es x = 2
 leaf : x.1 ≠ 2 → V s'.st x

variable {kids step V}

theorem kids_after {f : Node → WS σ → Bool × WS σ} (ok : Node → Prop) (m : Nat) (fr : Marks → Nat) (hfr : ∀ y s, fr (f y s).2.es ≤ fr s.es)
  (hf : ∀ y s, ok y → fr s.es ≤ m → Inv kids V s → (f y s).1 = false → After kids V y s (f y s).2) :
  ∀ (l : List Node) (s : WS σ), (∀ y ∈ l, ok y) → fr s.es ≤ m → Inv kids V s → (kidsF f l s).1 = false →
    Inv kids V (kidsF f l s).2 ∧ On V s (kidsF f l s).2 ∧ ∀ y ∈ l, (y.1 = 2 → look (kidsF f l s).2.es y = 2) ∧ (y.1 ≠ 2 → V (kidsF f l s).2.st y)
 | [], s, _, _, hi, _ => ⟨hi, .refl V s, by simp⟩
 | y :: l, s, hl, hm, hi, h => by
   simp only [kidsF] at h ⊢
   by_cases hb : (f y s).1 = true
   ·rw [if_pos hb] at h
    rw [hb] at h; cases h
   ·rw [if_neg hb] at h ⊢
    have hy := hf y s (hl y (by simp)) hm hi (by simpa using hb)
    have hm2 := hfr y s
    obtain ⟨h1, h2, h3⟩ := kids_after ok m fr hfr hf l (f y s).2 (fun z hz => hl z (by simp [hz])) (by omega) hy.inv h
    refine ⟨h1, hy.on.trans V h2, fun z hz => ?_⟩
    rcases List.mem_cons.1 hz with rfl | hz
    ·exact ⟨fun e => h2.two _ (hy.done e), fun e => h2.met _ (hy.leaf e)⟩
    ·exact h3 z hz

theorem sum_ge {rank : Node → Nat} : ∀ {l : List Node} {y : Node}, y ∈ l → rank y ≤ (l.map rank).sum
 | [], _, h => by simp at h
 | x :: l, y, h => by
   simp only [List.map_cons, List.sum_cons]
   rcases List.mem_cons.1 h with rfl | h
   ·omega
   ·have := sum_ge (rank := rank) h; omega

theorem walk_after (all : List Node) (ok : Node → Prop) (hok : ∀ x, ok x → x.1 = 2 → x ∈ all ∧ ∀ y ∈ kids x, ok y) (hV1 : ∀ st x, V (step st x) x) (hV2 : ∀ st x y, V st y → V (step st x) y) :
  ∀ (n : Nat) (x : Node) (s : WS σ), ok x → free all s.es < n → Inv kids V s → (walkF kids step n x s).1 = false → After kids V x s (walkF kids step n x s).2
 | 0, _, _, _, h, _, _ => by omega
 | n + 1, x, s, hx, hf, hi, h => by
   simp only [walkF] at h ⊢
   by_cases h1 : x.1 ≠ 2
   ·rw [if_pos h1]
    exact ⟨⟨hi.rank, fun y hy => ⟨hV2 _ _ _ (hi.met y hy).1, fun z hz e => hV2 _ _ _ ((hi.met y hy).2 z hz e)⟩⟩, ⟨fun _ => Iff.rfl, fun _ h => h, fun y => hV2 _ _ _⟩, fun e => absurd e h1, fun _ => hV1 _ _⟩
   rw [if_neg h1] at h ⊢
   by_cases h2 : look s.es x = 1
   ·rw [if_pos h2] at h; cases h
   rw [if_neg h2] at h ⊢
   by_cases h3 : look s.es x = 2
   ·rw [if_pos h3]
    exact ⟨hi, .refl V s, fun _ => h3, fun e => absurd e h1⟩
   rw [if_neg h3] at h ⊢
   obtain ⟨hm, hk⟩ := hok x hx (by omega)
   have hlt := free_lt (all := all) (v := 1) hm h2 h3 (.inl rfl)
   have hi1 : Inv kids V ⟨mark s.es x 1, step s.st x⟩ := by
    obtain ⟨rank, hr⟩ := hi.rank
    refine ⟨⟨rank, fun y hy z hz e => ?_⟩, fun y hy => ?_⟩
    ·have hy : look (mark s.es x 1) y = 2 := hy
     rw [look_mark] at hy
     split at hy
     ·cases hy
     have := hr y hy z hz e
     refine ⟨?_, this.2⟩
     show look (mark s.es x 1) z = 2
     rw [look_mark, if_neg (fun e => h3 (by rw [e]; exact this.1))]
     exact this.1
    ·have hy : look (mark s.es x 1) y = 2 := hy
     rw [look_mark] at hy
     split at hy
     ·cases hy
     exact ⟨hV2 _ _ _ (hi.met y hy).1, fun z hz e => hV2 _ _ _ ((hi.met y hy).2 z hz e)⟩
   by_cases hb : (kidsF (walkF kids step n) (kids x) ⟨mark s.es x 1, step s.st x⟩).1 = true
   ·rw [if_pos hb] at h
    rw [hb] at h; cases h
   rw [if_neg hb]
   obtain ⟨k1, k2, k3⟩ := kids_after (kids := kids) (V := V) ok (n - 1) (free all) (fun y s => free_le (walkF_mle n y s)) (fun y s hy hs hi hb => walk_after all ok hok hV1 hV2 n y s hy (by omega) hi hb) (kids x) ⟨mark s.es x 1, step s.st x⟩ hk (by show free all (mark s.es x 1) ≤ n - 1; omega) hi1 (by simpa using hb)
   generalize kidsF (walkF kids step n) (kids x) ⟨mark s.es x 1, step s.st x⟩ = r at *
   obtain ⟨rb, rs⟩ := r
   dsimp only at k1 k2 k3 ⊢
   have hx1 : look rs.es x = 1 := (k2.one x).2 (by show look (mark s.es x 1) x = 1; rw [look_mark, if_pos rfl])
   refine ⟨⟨?_, fun y hy => ?_⟩, ⟨fun y => ?_, fun y hy => ?_, fun y hy => k2.met y (hV2 _ _ _ hy)⟩, fun _ => ?_, fun e => absurd e h1⟩
   ·obtain ⟨rank, hr⟩ := k1.rank
    refine ⟨fun z => if z = x then ((kids x).map rank).sum + 1 else rank z, fun y hy z hz e => ?_⟩
    show look (mark rs.es x 2) z = 2 ∧ _
    by_cases hyx : y = x
    ·subst hyx
     have hz2 := (k3 z hz).1 e
     have hzx : z ≠ y := fun e => by rw [e, hx1] at hz2; cases hz2
     rw [look_mark, if_neg (Ne.symm hzx)]
     refine ⟨hz2, ?_⟩
     simp only [if_neg hzx, if_true]
     have := sum_ge (rank := rank) hz
     omega
    ·have hy : look (mark rs.es x 2) y = 2 := hy
     rw [look_mark, if_neg (Ne.symm hyx)] at hy
     have := hr y hy z hz e
     have hzx : z ≠ x := fun e => by rw [e, hx1] at this; cases this.1
     rw [look_mark, if_neg (Ne.symm hzx)]
     refine ⟨this.1, ?_⟩
     simp only [if_neg hzx, if_neg hyx]
     exact this.2
   ·have hy : look (mark rs.es x 2) y = 2 := hy
    rw [look_mark] at hy
    split at hy
    ·rename_i e
     subst e
     exact ⟨k2.met _ (hV1 _ _), fun z hz e => (k3 z hz).2 e⟩
    ·exact k1.met y hy
   ·show look (mark rs.es x 2) y = 1 ↔ look s.es y = 1
    rw [look_mark]
    by_cases hyx : x = y
    ·subst hyx
     rw [if_pos rfl]
     exact ⟨fun e => absurd e (by decide), fun e => absurd e h2⟩
    ·rw [if_neg hyx, k2.one y]
     show look (mark s.es x 1) y = 1 ↔ _
     rw [look_mark, if_neg hyx]
   ·show look (mark rs.es x 2) y = 2
    rw [look_mark]
    split
    ·rfl
    ·rename_i hyx
     refine k2.two y ?_
     show look (mark s.es x 1) y = 2
     rw [look_mark, if_neg hyx]
     exact hy
   ·show look (mark rs.es x 2) x = 2
    rw [look_mark, if_pos rfl]

theorem walk_false (ok : Node → Prop) (hok : ∀ x, ok x → x.1 = 2 → ∀ y ∈ kids x, ok y) (rank : Node → Nat) (hr : ∀ x, ok x → x.1 = 2 → ∀ y ∈ kids x, y.1 = 2 → rank y < rank x) :
  ∀ (n : Nat) (x : Node) (s : WS σ), ok x → (x.1 = 2 → ∀ z, look s.es z = 1 → rank x < rank z) → (walkF kids step n x s).1 = false ∧ ∀ y, look (walkF kids step n x s).2.es y = 1 → look s.es y = 1
 | 0, _, _, _, _ => ⟨rfl, fun _ h => h⟩
 | n + 1, x, s, hx, hz => by
   simp only [walkF]
   by_cases h1 : x.1 ≠ 2
   ·rw [if_pos h1]; exact ⟨rfl, fun _ h => h⟩
   rw [if_neg h1]
   have h1 : x.1 = 2 := by omega
   by_cases h2 : look s.es x = 1
   ·have := hz h1 x h2; omega
   rw [if_neg h2]
   by_cases h3 : look s.es x = 2
   ·rw [if_pos h3]; exact ⟨rfl, fun _ h => h⟩
   rw [if_neg h3]
   have key : ∀ (l : List Node) (t : WS σ), (∀ y ∈ l, y ∈ kids x) → (∀ z, look t.es z = 1 → z = x ∨ look s.es z = 1) →
     (kidsF (walkF kids step n) l t).1 = false ∧ ∀ z, look (kidsF (walkF kids step n) l t).2.es z = 1 → z = x ∨ look s.es z = 1 := by
    intro l
    induction l with
    | nil => intro t _ ht; exact ⟨rfl, ht⟩
    | cons y l ih =>
      intro t hl ht
      have hy := hl y (by simp)
      obtain ⟨w1, w2⟩ := walk_false ok hok rank hr n y t (hok x hx h1 y hy) (fun e z hz1 => by
       have hyx := hr x hx h1 y hy e
       rcases ht z hz1 with rfl | hz2
       ·exact hyx
       ·have := hz h1 z hz2; omega)
      simp only [kidsF]
      rw [if_neg (by rw [w1]; simp)]
      exact ih _ (fun z hz => hl z (by simp [hz])) fun z hz1 => ht z (w2 z hz1)
   obtain ⟨k1, k2⟩ := key (kids x) ⟨mark s.es x 1, step s.st x⟩ (fun y hy => hy) (fun z hz1 => by
    have hz1 : look (mark s.es x 1) z = 1 := hz1
    rw [look_mark] at hz1
    split at hz1
    ·rename_i e; exact .inl e.symm
    ·exact .inr hz1)
   rw [if_neg (by rw [k1]; simp)]
   refine ⟨rfl, fun y hy => ?_⟩
   have hy : look (mark (kidsF (walkF kids step n) (kids x) ⟨mark s.es x 1, step s.st x⟩).2.es x 2) y = 1 := hy
   rw [look_mark] at hy
   split at hy
   ·cases hy
   ·rename_i hne
    rcases k2 y hy with e | e
    ·exact absurd e.symm hne
    ·exact e
end

theorem okN_kids {m : Md} (hc : ClosedM m) {x : Node} (hx : okN m x) (h2 : x.1 = 2) : x ∈ allNodes m ∧ ∀ y ∈ kidsM m x, okN m y := by
 have hm : x ∈ allNodes m := by
  rcases hx with h | h | h
  ·have := h.1; omega
  ·have := h.1; omega
  ·exact h
 refine ⟨hm, fun y hy => ?_⟩
 unfold kidsM at hy
 obtain ⟨s, hs, rfl⟩ := List.mem_map.1 hy
 exact (hc x hm s hs).2.2

def RankM (m : Md) (rank : Node → Nat) : Prop := ∀ x, okN m x → x.1 = 2 → ∀ y ∈ kidsM m x, y.1 = 2 → rank y < rank x

theorem cyc_rank {m : Md} (hc : ClosedM m) (h : cycR m = false) : ∃ rank, RankM m rank := by
 have hi : Inv (kidsM m) (fun (_ : Unit) _ => True) ⟨[], ()⟩ := ⟨⟨fun _ => 0, fun x hx => by simp [look] at hx⟩, fun x hx => by simp [look] at hx⟩
 obtain ⟨k1, _, k3⟩ := kids_after (kids := kidsM m) (V := fun (_ : Unit) _ => True) (okN m) (allNodes m).length (free (allNodes m)) (f := walk0 m) (fun y s => free_le (walkF_mle _ y s))
  (fun y s hy hs hi hb => walk_after (allNodes m) (okN m) (fun x hx h2 => okN_kids hc hx h2) (fun _ _ => trivial) (fun _ _ _ _ => trivial) (fuelM m) y s hy (by unfold fuelM; omega) hi hb)
  (allNodes m) ⟨[], ()⟩ (fun y hy => .inr (.inr hy)) (by have := free_fuel m []; unfold fuelM at this; show free (allNodes m) [] ≤ _; omega) hi h
 obtain ⟨rank, hr⟩ := k1.rank
 refine ⟨rank, fun x hx h2 y hy e => (hr x ?_ y hy e).2⟩
 exact (k3 x (okN_kids hc hx h2).1).1 h2


structure GateOk (m : Md) (a : Int) (k : Nat) (x : Mg) : Prop where
 name : nameR x.name = true
 noEv : i_event m.evs x.name < 0
 noHs : i_house m.hs x.name < 0
 first : (k : Int) ≤ i_gate (gatesM m a) x.name
 own : mgErr x = 0

theorem idxP_le {α : Type} {p : α → Bool} {l : List α} {k : Nat} (hk : k < l.length) (hp : p l[k] = true) : 0 ≤ idxP p l ∧ idxP p l ≤ k := by
 rcases idxP_cases p l with ⟨_, h2⟩ | ⟨i, hi, h1, _, h3⟩
 ·have := h2 _ (List.getElem_mem hk)
  rw [hp] at this; cases this
 ·refine ⟨by omega, ?_⟩
  rw [h1]
  rcases Nat.lt_or_ge k i with h | h
  ·have := h3 k h
   rw [hp] at this; cases this
  ·omega

theorem name_noAt {s : Str} (h : nameR s = true) : atS s = false := by
 unfold nameR at h
 simp only [Bool.and_eq_true, decide_eq_true_eq] at h
 unfold atS
 rw [Bool.and_eq_false_iff]
 right
 apply decide_eq_false
 intro e
 have := h.1.2
 rw [e] at this
 revert this
 decide

structure Local (m : Md) (a : Int) (s : Str) (r : Node) : Prop where
 idx : 0 ≤ r.2.2
 kind : r.1 = 0 ∨ r.1 = 1 ∨ r.1 = 2
 ev : r.1 = 0 → r.2.2 < (m.evs.length : Int) ∧ (atS s = false → (m.evs.getD r.2.2.toNat default).name = s)
 hs : r.1 = 1 → r.2.2 < (m.hs.length : Int) ∧ (m.hs.getD r.2.2.toNat default).name = s
 gate : r.1 = 2 → (r.2.1 = -1 ∨ (0 ≤ r.2.1 ∧ r.2.1 < (m.pages.length : Int))) ∧ r.2.2 < ((gatesM m r.2.1).length : Int) ∧
  (atS s = false → r.2.1 = a ∧ ((gatesM m r.2.1).getD r.2.2.toNat default).name = s) ∧
  (atS s = true → 0 ≤ r.2.1 ∧ (m.pages.getD r.2.1.toNat default).name = s.drop 1 ∧ (m.pages.getD r.2.1.toNat default).top = ((gatesM m r.2.1).getD r.2.2.toNat default).name)


def Fr (old new s : Str) : Prop := s = new → new = old

structure FreshM (m : Md) (old new : Str) : Prop where
 ev : 0 ≤ i_event m.evs old
 evs : ∀ x ∈ m.evs, Fr old new x.name
 top : Fr old new m.top
 gates : ∀ g ∈ m.gates, ∀ s ∈ g.ins, Fr old new s
 pages : ∀ p ∈ m.pages, Fr old new p.top ∧ ∀ g ∈ p.gates, ∀ s ∈ g.ins, Fr old new s
 grs : ∀ g ∈ m.grs, ∀ s ∈ g.mem, Fr old new s
 phs : ∀ p ∈ m.phs, Fr old new p.top ∧ ∀ v ∈ p.vals, Fr old new v.ev
 nold : nameR old = true
 nnew : nameR new = true


theorem gate_ok {m : Md} (hg : gatesErrAll m = 0) {a : Int} (ha : a = -1 ∨ (0 ≤ a ∧ a < (m.pages.length : Int))) {k : Nat} (hk : k < (gatesM m a).length) : GateOk m a k (gatesM m a)[k] := by
 have h := gatesErrAll_zero hg ha k hk
 unfold gateErrM at h
 split at h
 ·cases h
 rename_i h1
 split at h
 ·cases h
 rename_i h2
 split at h
 ·cases h
 rename_i h3
 split at h
 ·cases h
 rename_i h4
 exact ⟨by simpa using h1, by omega, by omega, by omega, h⟩

theorem page_idx {m : Md} (hM : MOk m) {k : Nat} (hk : k < m.pages.length) : nameR m.pages[k].name = true ∧ i_page m.pages m.pages[k].name = k := by
 have h := hM.pages
 unfold pagesErr at h
 split at h
 ·cases h
 split at h
 ·cases h
 have h := errL_zero.1 h k hk
 unfold pgErr at h
 split at h
 ·cases h
 rename_i h1
 split at h
 ·cases h
 rename_i h2
 have h3 := (idxP_le (p := fun x : Pg => decide (x.name = m.pages[k].name)) hk (by simp)).2
 refine ⟨by simpa using h1, ?_⟩
 unfold i_page at h2 ⊢
 omega

structure Mrg (m : Md) (i : Nat) : Prop where
 ok : MOk m
 lt : i < m.pages.length
 free : ∀ q ∈ m.pages, atN (pgA m i) ∉ insG q.gates
 new : gatesErrAll (mgM m i (pgA m i)) = 0

abbrev mgN (m : Md) (i : Nat) : Md := mgM m i (pgA m i)

section
variable {m : Md} {i : Nat}

theorem gates_page {a : Nat} : gatesM m (a : Int) = (m.pages.getD a default).gates := by
 unfold gatesM
 rw [if_neg (by omega), Int.toNat_natCast]

theorem mg_pages (h : i < m.pages.length) : (mgN m i).pages.length = m.pages.length - 1 := by
 show (m.pages.eraseIdx i).length = _
 rw [List.length_eraseIdx, if_pos h]

theorem page_gates : gatesM m (i : Int) = (pgA m i).gates := gates_page

theorem pg_gate {k : Nat} (h1 : k < (gatesM m (i : Int)).length) (h2 : k < (pgA m i).gates.length) : (gatesM m (i : Int))[k] = (pgA m i).gates[k] := by
 simp only [page_gates]

theorem pg_ok (hg : gatesErrAll m = 0) (hi : i < m.pages.length) {k : Nat} (hk : k < (pgA m i).gates.length) : GateOk m i k (pgA m i).gates[k] := by
 have hkg : k < (gatesM m (i : Int)).length := by rw [page_gates]; exact hk
 have h := gate_ok hg (a := (i : Int)) (.inr ⟨by omega, by omega⟩) hkg
 have e := pg_gate hkg hk
 generalize (gatesM m (i : Int))[k] = y at h e
 subst e; exact h

end

theorem pgB_of {m : Md} (hB : MdB m) (hX : MdX m) (hM : MOk m) : PgB m := by
 refine ⟨hB, hX, fun p hp => ?_⟩
 obtain ⟨k, hk, rfl⟩ := List.getElem_of_mem hp
 have := (page_idx hM hk).1
 unfold nameR at this
 simp only [Bool.and_eq_true, decide_eq_true_eq] at this
 exact this.1.1.2

theorem pg_names {m : Md} (hM : MOk m) {i : Nat} (hi : i < m.pages.length) : ∀ g ∈ (pgA m i).gates, g.name.length ≤ 24 := by
 intro g hg
 obtain ⟨k, hk, rfl⟩ := List.getElem_of_mem hg
 have := (pg_ok hM.gates hi hk).name
 unfold nameR at this
 simp only [Bool.and_eq_true, decide_eq_true_eq] at this
 exact this.1.1.2

def mergeAV (m : Md) (page : Int) : AV :=
 if checkM m ≠ 0 then .tup [zMd, .ifc 90 (.int .i64 (checkM m))]
 else if page < 0 ∨ (m.pages.length : Int) ≤ page then .tup [zMd, .ifc 90 (.int .i64 10)]
 else mgAV (mgN m page.toNat) (mgE m page.toNat)

theorem c_Merge (m : Md) (page : Int) (hC : MdC m) (hB : MdB m) (hX : MdX m) (R : AV) (hR : R = mergeAV m page) : FnH Tryz.prog 34 [m.av, .int .i64 page] [] R [] := by
 have cc := c_mCheck m hC hB _ rfl
 unfold mergeAV at hR
 by_cases h0 : checkM m ≠ 0
 ·rw [errAV_ne h0] at cc
  rw [if_pos h0] at hR
  subst hR
  refine FnH.intro lay mixed Tryz.func34 (by kernel_rfl) rfl (by kernel_rfl) rfl fun hok => ?_
  (try dsimp only[argC,succC]);(try dsimp only[awp]);conv=>whnf
  refine .pure _ _ ?_ ⟨rfl, rfl⟩ cc fun _ => ?_
  ·exact leL_refl _
  (try dsimp only[awp]);conv=>whnf
  refine fM ?_;(conv=>whnf);refine ⟨?_,rfl⟩;conv=>whnf
  repeat' first|exact rfl|exact trivial|exact wR|exact lR _|apply aI
 have h0 : checkM m = 0 := by simpa using h0
 rw [h0, errAV_zero] at cc
 rw [if_neg (by rw [h0]; simp)] at hR
 have hM := checkM_ok h0
 have hm := pgB_of hB hX hM
 by_cases h1 : page < 0 ∨ (m.pages.length : Int) ≤ page
 ·rw [if_pos h1] at hR
  subst hR
  refine FnH.intro lay mixed Tryz.func34 (by kernel_rfl) rfl (by kernel_rfl) rfl fun hok => ?_
  (try dsimp only[argC,succC]);(try dsimp only[awp]);conv=>whnf
  refine .pure _ _ ?_ ⟨rfl, rfl⟩ cc fun _ => ?_
  ·exact leL_refl _
  (try dsimp only[awp]);conv=>whnf
  refine And.intro (fun h2 => ?_) (fun h2 => ?_)
  ·(try dsimp only[awp]);conv=>whnf
   refine fM ?_;(conv=>whnf);refine ⟨?_,rfl⟩;conv=>whnf
   repeat' first|exact rfl|exact trivial|exact wR|exact lR _|apply aI
  (try dsimp only[awp]);conv=>whnf
  refine And.intro (fun h3 => ?_) (fun h3 => ?_)
  ·(try dsimp only[awp]);conv=>whnf
   refine fM ?_;(conv=>whnf);refine ⟨?_,rfl⟩;conv=>whnf
   repeat' first|exact rfl|exact trivial|exact wR|exact lR _|apply aI
  ·exfalso
   simp at h3
   omega
 rw [if_neg h1] at hR
 obtain ⟨i, rfl⟩ : ∃ i : Nat, page = i := ⟨page.toNat, by omega⟩
 have hi : i < m.pages.length := by omega
 rw [Int.toNat_natCast] at hR
 have cm := c_merge m hm i hi hC (pg_names hM hi) (total64 h0) _ rfl
 refine FnH.intro lay mixed Tryz.func34 (by kernel_rfl) rfl (by kernel_rfl) rfl fun hok => ?_
 (try dsimp only[argC,succC]);(try dsimp only[awp]);conv=>whnf
 refine .pure _ _ ?_ ⟨rfl, rfl⟩ cc fun _ => ?_
 ·exact leL_refl _
 (try dsimp only[awp]);conv=>whnf
 refine And.intro (fun h2 => ?_) (fun h2 => ?_)
 ·exfalso; omega
 (try dsimp only[awp]);conv=>whnf
 refine And.intro (fun h3 => ?_) (fun h3 => ?_)
 ·exfalso
  simp at h3
  omega
 unfold mgAV at cm hR
 by_cases h4 : mgE m i = 0
 ·rw [if_pos h4] at cm hR
  subst hR
  (try dsimp only[awp]);conv=>whnf
  refine .pure _ _ ?_ ⟨rfl, rfl⟩ cm fun _ => ?_
  ·exact leL_refl _
  (try dsimp only[awp]);conv=>whnf
  refine fM ?_;(conv=>whnf);refine ⟨?_,rfl⟩;conv=>whnf
  repeat' first|exact rfl|exact trivial|exact wR|exact lR _|apply aI
 ·rw [if_neg h4] at cm hR
  subst hR
  (try dsimp only[awp]);conv=>whnf
  refine .pure _ _ ?_ ⟨rfl, rfl⟩ cm fun _ => ?_
  ·exact leL_refl _
  (try dsimp only[awp]);conv=>whnf
  refine fM ?_;(conv=>whnf);refine ⟨?_,rfl⟩;conv=>whnf
  repeat' first|exact rfl|exact trivial|exact wR|exact lR _|apply aI

abbrev lL (l : List (List Int)) : AV := .sl 1 (l.map iL) .no

theorem c_Uses (m : Md) (hC : MdC m) (hB : MdB m) (hX : MdX m) (R : AV) (hR : R = if checkM m ≠ 0 then .tup [.nils, .ifc 90 (.int .i64 (checkM m))] else .tup [lL (usesP m), .nilI]) : FnH Tryz.prog 31 [m.av] [] R [] := by
 have cc := c_mCheck m hC hB _ rfl
 by_cases h0 : checkM m ≠ 0
 ·rw [errAV_ne h0] at cc
  rw [if_pos h0] at hR
  subst hR
  refine FnH.intro lay mixed Tryz.func31 (by kernel_rfl) rfl (by kernel_rfl) rfl fun hok => ?_
  (try dsimp only[argC,succC]);(try dsimp only[awp]);conv=>whnf
  refine .pure _ _ ?_ ⟨rfl, rfl⟩ cc fun _ => ?_
  ·exact leL_refl _
  (try dsimp only[awp]);conv=>whnf
  refine fM ?_;(conv=>whnf);refine ⟨?_,rfl⟩;conv=>whnf
  repeat' first|exact rfl|exact trivial|exact wR|exact lR _|apply aI
 have h0 : checkM m = 0 := by simpa using h0
 rw [h0, errAV_zero] at cc
 rw [if_neg (by rw [h0]; simp)] at hR
 have hM := checkM_ok h0
 have hm := pgB_of hB hX hM
 have hnm : ∀ p ∈ m.pages, p.name.length ≤ 1000 := fun p hp => by have := hm.names p hp; omega
 have hph := hB.phs
 have hpl := hB.pages
 have cu := c_uses25 m m.gates (othM m) hB.gates.1 hB.gates.2 (by simp [othM]; omega) hB.pages hnm
 have cup := fun (x : Pg) (hx : x ∈ m.pages) => c_uses25 m x.gates [] (hB.pgates x hx).1 (hB.pgates x hx).2 (by simp) hB.pages hnm
 simp only [List.append_nil] at cup
 subst hR
 refine FnH.intro lay mixed Tryz.func31 (by kernel_rfl) rfl (by kernel_rfl) rfl fun hok => ?_
 (try dsimp only[argC,succC]);(try dsimp only[awp]);conv=>whnf
 refine .pure _ _ ?_ ⟨rfl, rfl⟩ cc fun _ => ?_
 ·exact leL_refl _
 (try dsimp only[awp]);conv=>whnf
 refine LoopE.of <| LoopSpec.inv (.grow 5 1 [.str m.top] _ rfl (.inr rfl) (.refl _ _)) (fun (k : Nat) => k ≤ m.phs.length)
  (fun k => [(22, .int .i64 k), (5, .sl 1 ((m.top :: (m.phs.take k).map Ph.top).map .str) (.own 1))]) (fun k => [(1, .tok 1 (k + 1)), (0, .box m.av)]) (fun k => m.phs.length - k) 0 ?_ (fun _ => rfl) ?_ ?_
 ·exact Nat.zero_le _
 ·refine ⟨?_, .mk ?_ (by simp [idsOk])⟩
  ·repeat' first|exact rfl|exact trivial|exact wR|exact lR _|apply aI
  ·repeat' first|exact rfl|exact trivial|exact wR|exact lR _|apply aI
 intro k hk _
 (try dsimp only[awp]);conv=>whnf
 refine And.intro (fun h => ?_) (fun h => ?_)
 ·have hkl : k < m.phs.length := by simpa using h
  have ht := take_map (f := Ph.top) hkl
  have hlen := take_len (f := Ph.top) hk
  (try dsimp only[awp]);conv=>whnf
  refine aidx hkl ?_
  generalize m.phs[k] = x at *
  generalize (m.phs.take k).map Ph.top = L at *
  (try dsimp only[awp]);conv=>whnf
  refine ⟨by simp; omega, .mk (by simp [maxL]; omega) (by simp; omega) ?_⟩
  (try dsimp only[awp]);conv=>whnf
  refine zA ?_;conv=>whnf
  refine ⟨k + 1, ?_, ?_, ?_⟩
  ·exact hkl
  ·rw [ht]
   refine ⟨?_, .mk ?_ (by simp [idsOk])⟩
   ·repeat' first|exact rfl|exact trivial|exact wR|exact lR _|apply aI
    all_goals first | (refine leRL_of ?_; rw [List.map_append]; rfl) | (refine leRL_of ?_; simp; done) | (simp; done) | (simp; omega)
   ·repeat' first|exact rfl|exact trivial|exact wR|exact lR _|apply aI
    all_goals first | (simp; done) | (simp; omega)
  ·omega
 have hkl : k = m.phs.length := by have : ¬ k < m.phs.length := by simpa using h
                                   omega
 subst hkl
 rw [List.take_length]
 clear h
 rw [show m.top :: m.phs.map Ph.top = othM m from rfl]
 (try dsimp only[awp]);conv=>whnf
 refine .pure _ _ ?_ ⟨rfl, rfl⟩ cu fun _ => ?_
 ·repeat' first|exact rfl|exact trivial|exact wR|exact lR _|apply aI
 (try dsimp only[awp]);conv=>whnf
 generalize hu0 : usN m (insG m.gates ++ othM m) = u0 at *
 refine LoopE.of <| LoopSpec.inv (.grow 8 1 [iL u0] _ rfl (.inr rfl) (.refl _ _)) (fun (k : Nat) => k ≤ m.pages.length)
  (fun k => [(41, .int .i64 k), (8, .sl 1 ((u0 :: (m.pages.take k).map fun p => usN m (insG p.gates)).map iL) (.own 2))]) (fun k => [(2, .tok 1 (k + 1)), (1, .gone), (0, .box m.av)]) (fun k => m.pages.length - k) 0 ?_ (fun _ => rfl) ?_ ?_
 ·exact Nat.zero_le _
 ·refine ⟨?_, .mk ?_ (by simp [idsOk])⟩
  ·repeat' first|exact rfl|exact trivial|exact wR|exact lR _|apply aI
  ·repeat' first|exact rfl|exact trivial|exact wR|exact lR _|apply aI
 intro k hk _
 (try dsimp only[awp]);conv=>whnf
 refine And.intro (fun h => ?_) (fun h => ?_)
 ·have hkl : k < m.pages.length := by simpa using h
  have ht := take_map (f := fun p : Pg => usN m (insG p.gates)) hkl
  have hlen := take_len (f := fun p : Pg => usN m (insG p.gates)) hk
  have c1 := cup _ (List.getElem_mem hkl)
  (try dsimp only[awp]);conv=>whnf
  refine aidx hkl ?_
  generalize m.pages[k] = x at *
  generalize (m.pages.take k).map (fun p : Pg => usN m (insG p.gates)) = L at *
  (try dsimp only[awp]);conv=>whnf
  refine .pure _ _ ?_ ⟨rfl, rfl⟩ c1 fun _ => ?_
  ·repeat' first|exact rfl|exact trivial|exact wR|exact lR _|apply aI
  (try dsimp only[awp]);conv=>whnf
  refine ⟨by simp; omega, .mk (by simp [maxL]; omega) (by simp; omega) ?_⟩
  (try dsimp only[awp]);conv=>whnf
  refine zA ?_;conv=>whnf
  refine ⟨k + 1, ?_, ?_, ?_⟩
  ·exact hkl
  ·rw [ht]
   refine ⟨?_, .mk ?_ (by simp [idsOk])⟩
   ·repeat' first|exact rfl|exact trivial|exact wR|exact lR _|apply aI
    all_goals first | (refine leRL_of ?_; rw [List.map_append]; rfl) | (refine leRL_of ?_; simp; done) | (simp; done) | (simp; omega)
   ·repeat' first|exact rfl|exact trivial|exact wR|exact lR _|apply aI
    all_goals first | (simp; done) | (simp; omega)
  ·omega
 have hkl : k = m.pages.length := by have : ¬ k < m.pages.length := by simpa using h
                                     omega
 subst hkl
 rw [List.take_length]
 clear h
 (try dsimp only[awp]);conv=>whnf
 refine fM ?_;(conv=>whnf);refine ⟨?_,rfl⟩;conv=>whnf
 subst hu0
 repeat' first|exact rfl|exact trivial|exact wR|exact lR _|apply aI

def inlAV (r : Md × Int) : AV := if r.2 = 0 then .tup [r.1.av, .nilI] else .tup [zMd, .ifc 90 (.int .i64 r.2)]
def inlineAV (m : Md) : AV := if checkM m ≠ 0 then .tup [zMd, .ifc 90 (.int .i64 (checkM m))] else inlAV (inlP m.pages.length m)

theorem phT_all : ∀ (l : List Ph), l.map (phT id) = l
 | [] => rfl
 | x :: l => by rw [List.map_cons, phT_all l]; rfl

abbrev inBox (m : Md) (gates pages : AV) : AV := .ag [.str m.name, .str m.top, .sl 11 (m.evs.map Ev.av) .no, .sl 2 (m.hs.map Hs.av) .no, gates, pages, .sl 4 (m.grs.map Gr.av) .no, .sl 3 (m.phs.map Ph.av) .no]

theorem idxN_step {m : Md} {k : Nat} (h : k < m.pages.length) : freeP.idxN m k (m.pages.length - k) = if innerP m k = true then freeP.idxN m (k + 1) (m.pages.length - (k + 1)) else k := by
 obtain ⟨n, hn⟩ : ∃ n, m.pages.length - k = n + 1 := ⟨m.pages.length - k - 1, by omega⟩
 rw [hn, show m.pages.length - (k + 1) = n by omega]
 rfl

theorem idxN_end {m : Md} {k n : Nat} (h : n = 0) : freeP.idxN m k n = k := by subst h; rfl

theorem inlP_end {m : Md} (h : m.pages.length = 0) : inlP m.pages.length m = (m, 0) := by rw [h]; rfl

theorem inlP_step {m : Md} (h : m.pages.length ≠ 0) : inlP m.pages.length m = if freeP m = m.pages.length then (m, 14) else
      if mgE m (freeP m) = 0 then inlP (m.pages.length - 1) (mgN m (freeP m)) else (m, mgE m (freeP m)) := by
 obtain ⟨n, hn⟩ : ∃ n, m.pages.length = n + 1 := ⟨m.pages.length - 1, by omega⟩
 rw [hn]
 show (if m.pages.length = 0 then _ else _) = _
 rw [if_neg (by omega), hn]
 rfl

theorem mgE_zero {m : Md} {i : Nat} (h : mgE m i = 0) : innerP m i = false ∧ longP (pgA m i) = false ∧ checkM (mgN m i) = 0 := by
 unfold mgE at h
 split at h
 ·cases h
 rename_i h1
 split at h
 ·cases h
 rename_i h2
 exact ⟨by simpa using h1, by simpa using h2, h⟩

theorem c_Inline (m : Md) (hC : MdC m) (hB : MdB m) (hX : MdX m) (R : AV) (hR : R = inlineAV m) : FnH Tryz.prog 29 [m.av] [] R [] := by
 have cc := c_mCheck m hC hB _ rfl
 unfold inlineAV at hR
 by_cases h0 : checkM m ≠ 0
 ·rw [errAV_ne h0] at cc
  rw [if_pos h0] at hR
  subst hR
  refine FnH.intro lay mixed Tryz.func29 (by kernel_rfl) rfl (by kernel_rfl) rfl fun hok => ?_
  (try dsimp only[argC,succC]);(try dsimp only[awp]);conv=>whnf
  refine .pure _ _ ?_ ⟨rfl, rfl⟩ cc fun _ => ?_
  ·exact leL_refl _
  (try dsimp only[awp]);conv=>whnf
  refine fM ?_;(conv=>whnf);refine ⟨?_,rfl⟩;conv=>whnf
  repeat' first|exact rfl|exact trivial|exact wR|exact lR _|apply aI
 have h0 : checkM m = 0 := by simpa using h0
 rw [h0, errAV_zero] at cc
 rw [if_neg (by rw [h0]; simp)] at hR
 have hM := checkM_ok h0
 have hm := pgB_of hB hX hM
 have hpl := hB.pages
 have cr := c_rest m 76 [] id hB hX (c_same25 _) (fun x _ => c_same25 _) rfl
 unfold rsAV rsBox at cr
 rw [phT_all] at cr
 have cg := c_pgates m.gates 76 76 [] [] id id (by have := hB.gates.1; omega) (fun g hg => by have := hB.gates.2 g hg; omega) hX.gates (fun g _ => c_same25 _) (fun g _ s _ => c_same25 s) rfl rfl
 rw [gIn_all] at cg
 refine FnH.intro lay mixed Tryz.func29 (by kernel_rfl) rfl (by kernel_rfl) rfl fun hok => ?_
 (try dsimp only[argC,succC]);(try dsimp only[awp]);conv=>whnf
 refine .pure _ _ ?_ ⟨rfl, rfl⟩ cc fun _ => ?_
 ·exact leL_refl _
 (try dsimp only[awp]);conv=>whnf
 refine .pure _ _ ?_ ⟨rfl, rfl⟩ cr fun _ => ?_
 ·exact leL_refl _
 (try dsimp only[awp]);conv=>whnf
 refine .pure _ _ ?_ ⟨rfl, rfl⟩ cg fun _ => ?_
 ·exact leL_refl _
 (try dsimp only[awp]);conv=>whnf
 refine LoopE.of <| LoopSpec.inv (.growF 2 [5] 3 [] (inBox m (gL m.gates) .nils) .nils _ rfl rfl (.inl ⟨rfl, rfl⟩) rfl (.refl _ _)) (fun (k : Nat) => k ≤ m.pages.length)
  (fun k => [(26, .int .i64 k)]) (fun k => [(3, .tok 3 k), (2, .box (inBox m (gL m.gates) (.sl 3 ((m.pages.take k).map Pg.av) (.own 3)))), (1, .box zMd), (0, .box m.av)]) (fun k => m.pages.length - k) 0 ?_ (fun _ => rfl) ?_ ?_
 ·exact Nat.zero_le _
 ·refine ⟨?_, .mk ?_ (by simp [idsOk])⟩
  ·repeat' first|exact rfl|exact trivial|exact wR|exact lR _|apply aI
  ·repeat' first|exact rfl|exact trivial|exact wR|exact lR _|apply aI
 intro k hk _
 (try dsimp only[awp]);conv=>whnf
 refine And.intro (fun h => ?_) (fun h => ?_)
 ·have hkl : k < m.pages.length := by simpa using h
  have ht := take_one hkl
  have hlen := take_len1 hk
  have hpk := hB.pgates _ (List.getElem_mem hkl)
  have cgp := c_pgates (m.pages[k]).gates 76 76 [] [] id id (by omega) (fun g hg => by have := hpk.2 g hg; omega) (hX.pages _ (List.getElem_mem hkl)) (fun g _ => c_same25 _) (fun g _ s _ => c_same25 s) rfl rfl
  rw [gIn_all] at cgp
  (try dsimp only[awp]);conv=>whnf
  refine aidx hkl ?_
  generalize m.pages[k] = x at *
  generalize m.pages.take k = L at *
  (try dsimp only[awp]);conv=>whnf
  refine ADraw.auto (by kernel_rfl) ?_;conv=>whnf
  refine ACallP.pure _ _ ?_ ⟨rfl, rfl⟩ cgp ?_
  ·exact leL_refl _
  (try dsimp only[awp]);conv=>whnf
  refine ⟨by rw [List.length_map]; omega, .mk (by simp [maxL]; omega) (by simp; omega) ?_⟩
  (try dsimp only[awp]);conv=>whnf
  refine zA ?_;conv=>whnf
  refine ⟨k + 1, ?_, ?_, ?_⟩
  ·exact hkl
  ·rw [ht]
   refine ⟨?_, .mk ?_ (by simp [idsOk])⟩
   ·repeat' first|exact rfl|exact trivial|exact wR|exact lR _|apply aI
    all_goals first | (simp; done) | (simp; omega)
   ·repeat' first|exact rfl|exact trivial|exact wR|exact lR _|apply aI
    all_goals first | (refine leRL_of ?_; rw [List.map_append]; rfl) | (simp; done) | (simp; omega)
  ·omega
 have hkl : k = m.pages.length := by have : ¬ k < m.pages.length := by simpa using h
                                     omega
 subst hkl
 rw [List.take_length]
 clear h
 (try dsimp only[awp]);conv=>whnf
 refine LoopE.of <| LoopSpec.inv (.refl _ _) (fun (q : Md) => PgB q ∧ MdC q ∧ checkM q = 0 ∧ inlP m.pages.length m = inlP q.pages.length q)
  (fun _ => []) (fun q => [(3, .gone), (2, .box q.av), (1, .box zMd), (0, .box m.av)]) (fun q => q.pages.length) m ?_ (fun _ => rfl) ?_ ?_
 ·exact ⟨hm, hC, h0, rfl⟩
 ·refine ⟨?_, .mk ?_ (by simp [idsOk])⟩
  ·repeat' first|exact rfl|exact trivial|exact wR|exact lR _|apply aI
  ·repeat' first|exact rfl|exact trivial|exact wR|exact lR _|apply aI
 rintro q ⟨hq, hqC, hq0, hqI⟩ _
 rw [hqI] at hR
 have hqM := checkM_ok hq0
 have hql := hq.B.pages
 (try dsimp only[awp]);conv=>whnf
 refine And.intro (fun h => ?_) (fun h => ?_)
 ·have hq1 : q.pages.length ≠ 0 := by simp at h; intro e; rw [e] at h; simp at h
  rw [inlP_step hq1] at hR
  (try dsimp only[awp]);conv=>whnf
  refine LoopE.of <| LoopSpec.inv (.refl _ _) (fun (k : Nat) => k ≤ q.pages.length ∧ freeP q = freeP.idxN q k (q.pages.length - k)) (fun (k : Nat) => [(8, .int .i64 k)]) (fun _ => _) (fun (k : Nat) => q.pages.length - k) 0 ?_ (fun _ => rfl) ?_ ?_
  ·exact ⟨Nat.zero_le _, rfl⟩
  ·repeat' first|exact rfl|exact trivial|exact wR|exact lR _|apply aI
  rintro k ⟨hk, hfr⟩ _
  (try dsimp only[awp]);conv=>whnf
  refine And.intro (fun h2 => ?_) (fun h2 => ?_)
  ·have hkl : k < q.pages.length := by simpa using h2
   rw [idxN_step hkl] at hfr
   have ci := c_inner q hq k
   cases hin : innerP q k with
   | true =>
     rw [hin] at ci
     have ci := ci.weak (R' := .tt) rfl
     rw [hin, if_pos rfl] at hfr
     (try dsimp only[awp]);conv=>whnf
     refine .pure _ _ ?_ ⟨rfl, rfl⟩ ci fun _ => ?_
     ·exact leL_refl _
     (try dsimp only[awp]);conv=>whnf
     refine zA ?_;conv=>whnf
     refine ⟨k + 1, ?_, ?_, ?_⟩
     ·exact ⟨hkl, hfr⟩
     ·repeat' first|exact rfl|exact trivial|exact wR|exact lR _|apply aI
     ·omega
   | false =>
     rw [hin] at ci
     have ci := ci.weak (R' := .ff) rfl
     rw [hin, if_neg (by simp)] at hfr
     rw [hfr, if_neg (by omega)] at hR
     have cm := c_merge q hq k hkl hqC (pg_names hqM hkl) (total64 hq0) _ rfl
     unfold mgAV at cm
     (try dsimp only[awp]);conv=>whnf
     refine .pure _ _ ?_ ⟨rfl, rfl⟩ ci fun _ => ?_
     ·exact leL_refl _
     (try dsimp only[awp]);conv=>whnf
     refine And.intro (fun h3 => ?_) (fun h3 => ?_)
     ·exfalso; simp at h3; omega
     by_cases h4 : mgE q k = 0
     ·rw [if_pos h4] at cm hR
      obtain ⟨_, _, h5⟩ := mgE_zero h4
      have hn := checkM_ok h5
      have nB := mg_B hkl hq.B (total64 hq0)
      have nl := mg_pages hkl
      (try dsimp only[awp]);conv=>whnf
      refine .pure _ _ ?_ ⟨rfl, rfl⟩ cm fun _ => ?_
      ·exact leL_refl _
      (try dsimp only[awp]);conv=>whnf
      refine ⟨mgN q k, ?_, ?_, ?_⟩
      ·exact ⟨pgB_of nB (mg_X hkl hq.X) hn, mg_C hkl hqC, h5, by rw [hqI, inlP_step hq1, hfr, if_neg (by omega), if_pos h4, nl]⟩
      ·refine ⟨?_, .mk ?_ (by simp [idsOk])⟩
       ·repeat' first|exact rfl|exact trivial|exact wR|exact lR _|apply aI
       ·repeat' first|exact rfl|exact trivial|exact wR|exact lR _|apply aI
      ·omega
     ·rw [if_neg h4] at cm hR
      (try dsimp only[awp]);conv=>whnf
      refine .pure _ _ ?_ ⟨rfl, rfl⟩ cm fun _ => ?_
      ·exact leL_refl _
      have hR : R = .tup [zMd, .ifc 90 (.int .i64 (mgE q k))] := by rw [hR]; unfold inlAV; rw [if_neg h4]
      subst hR
      (try dsimp only[awp]);conv=>whnf
      refine fM ?_;(conv=>whnf);refine ⟨?_,rfl⟩;conv=>whnf
      repeat' first|exact rfl|exact trivial|exact wR|exact lR _|apply aI
  ·have hkl : k = q.pages.length := by have : ¬ k < q.pages.length := by simpa using h2
                                       omega
   rw [idxN_end (by omega), hkl] at hfr
   rw [if_pos hfr] at hR
   have hR : R = .tup [zMd, .ifc 90 (.int .i64 14)] := by rw [hR]; unfold inlAV; rw [if_neg (show ¬ ((14 : Int) = 0) by decide)]
   subst hR
   (try dsimp only[awp]);conv=>whnf
   refine And.intro (fun h3 => ?_) (fun h3 => ?_)
   ·(try dsimp only[awp]);conv=>whnf
    refine fM ?_;(conv=>whnf);refine ⟨?_,rfl⟩;conv=>whnf
    repeat' first|exact rfl|exact trivial|exact wR|exact lR _|apply aI
   ·exfalso; simp at h3; omega
 ·have hq1 : q.pages.length = 0 := by simp at h; rw [h]; rfl
  rw [inlP_end hq1] at hR
  have hR : R = .tup [q.av, .nilI] := hR
  subst hR
  (try dsimp only[awp]);conv=>whnf
  refine fM ?_;(conv=>whnf);refine ⟨?_,rfl⟩;conv=>whnf
  repeat' first|exact rfl|exact trivial|exact wR|exact lR _|apply aI


theorem c_rParts (r : Rat) (l1 : r.num.length ≤ 300000) (l2 : r.den.length ≤ 300000) :
  FnH Tryz.prog 173 [r.av] [] (if valid r = true ∧ r.num ≠ [] then .tup [.bool r.neg, wL r.num, wL r.den] else .tup [.bool false, wL [], wL [1]]) [] := by
 have cv := c_rValid r l1 l2
 generalize hR : (if valid r = true ∧ r.num ≠ [] then AV.tup [.bool r.neg, wL r.num, wL r.den] else .tup [.bool false, wL [], wL [1]]) = R
 refine FnH.intro lay mixed Tryz.func173 (by kernel_rfl) rfl (by kernel_rfl) rfl fun hok => ?_
 have en : (((r.num.map (AV.int .u32)).length : Nat) : Int) = (r.num.length : Int) := by simp
 (try dsimp only[argC,succC]);(try dsimp only[awp]);conv=>whnf
 refine .pure _ _ ?_ ⟨rfl, rfl⟩ cv fun _ => ?_
 ·exact leL_refl _
 (try dsimp only[awp]);conv=>whnf
 refine And.intro (fun p1 => ?_) (fun p1 => ?_)
 ·have p1 : valid r = false := by simpa using p1
  rw [if_neg (by simp [p1])] at hR
  subst hR
  (try dsimp only[awp]);conv=>whnf
  refine fM ?_;(conv=>whnf);refine ⟨?_,rfl⟩;conv=>whnf
  repeat' first|exact rfl|exact trivial|exact wR|exact lR _|apply aI
 ·have p1 : valid r = true := by simpa using p1
  (try dsimp only[awp]);conv=>whnf
  refine And.intro (fun p2 => ?_) (fun p2 => ?_)
  ·have p2 : r.num = [] := List.eq_nil_of_length_eq_zero (by rw [en] at p2; omega)
   rw [if_neg (by simp [p2])] at hR
   subst hR
   (try dsimp only[awp]);conv=>whnf
   refine fM ?_;(conv=>whnf);refine ⟨?_,rfl⟩;conv=>whnf
   repeat' first|exact rfl|exact trivial|exact wR|exact lR _|apply aI
  ·have p2 : ¬ r.num = [] := fun e => p2 (by rw [e]; rfl)
   rw [if_pos ⟨p1, p2⟩] at hR
   subst hR
   (try dsimp only[awp]);conv=>whnf
   refine ADraw.auto (by kernel_rfl) ?_;conv=>whnf
   refine fM ?_;(conv=>whnf);refine ⟨?_,rfl⟩;conv=>whnf
   repeat' first|exact rfl|exact trivial|exact wR|exact lR _|apply aI

theorem c_rFrom (neg : Bool) (n d : Nat) (hn : (wd n).length ≤ 300000) (hd : (wd d).length ≤ 300000) (h0 : d ≠ 0) : FnH Tryz.prog 185 [.bool neg, wL (wd n), wL (wd d)] [] (.tup [(formR neg n d).av, .int .i64 0]) [] := by
 have cb := c_rBits (wd n) (by omega)
 have cd := c_rBits (wd d) (by omega)
 rw [val_wd] at cb cd
 have hbd : blen d ≠ 0 := fun h => h0 (blen_zero.1 h)
 by_cases hz : n = 0
 ·have hb : blen n = 0 := blen_zero.2 hz
  rw [hb] at cb
  rw [show formR neg n d = ⟨false, [], []⟩ from if_pos hz]
  refine FnH.intro lay mixed Tryz.func185 (by kernel_rfl) rfl (by kernel_rfl) rfl fun hok => ?_
  (try dsimp only[argC,succC]);(try dsimp only[awp]);conv=>whnf
  refine .pure _ _ ?_ ⟨rfl, rfl⟩ cd fun _ => ?_
  ·exact leL_refl _
  (try dsimp only[awp]);conv=>whnf
  refine And.intro (fun h => by exfalso; omega) (fun _ => ?_)
  (try dsimp only[awp]);conv=>whnf
  refine .pure _ _ ?_ ⟨rfl, rfl⟩ cb fun _ => ?_
  ·exact leL_refl _
  (try dsimp only[awp]);conv=>whnf
  refine And.intro (fun _ => ?_) (fun h => absurd rfl h)
  (try dsimp only[awp]);conv=>whnf
  refine fM ?_;(conv=>whnf);refine ⟨?_,rfl⟩;conv=>whnf
  repeat' first|exact rfl|exact trivial|exact wR|exact lR _|apply aI
 have hb : blen n ≠ 0 := fun h => hz (blen_zero.1 h)
 have hg0 : Nat.gcd n d ≠ 0 := by
  have := Nat.gcd_pos_of_pos_left d (show 0 < n by omega)
  omega
 have hgn : Nat.gcd n d ≤ n := Nat.gcd_le_left d (by omega)
 have hgl := wd_len_mono hgn
 have cg := c_rGcd (wd n) (wd d) (by omega) (by omega)
 rw [val_wd, val_wd] at cg
 have d1 := c_rDiv (wd n) (wd (Nat.gcd n d)) (by omega) (by omega) (by rw [val_wd]; exact hg0)
 have d2 := c_rDiv (wd d) (wd (Nat.gcd n d)) (by omega) (by omega) (by rw [val_wd]; exact hg0)
 rw [val_wd, val_wd] at d1 d2
 rw [show formR neg n d = ⟨neg, wd (n / Nat.gcd n d), wd (d / Nat.gcd n d)⟩ from if_neg hz]
 generalize Nat.gcd n d = g at *
 refine FnH.intro lay mixed Tryz.func185 (by kernel_rfl) rfl (by kernel_rfl) rfl fun hok => ?_
 (try dsimp only[argC,succC]);(try dsimp only[awp]);conv=>whnf
 refine .pure _ _ ?_ ⟨rfl, rfl⟩ cd fun _ => ?_
 ·exact leL_refl _
 (try dsimp only[awp]);conv=>whnf
 refine And.intro (fun h => by exfalso; omega) (fun _ => ?_)
 (try dsimp only[awp]);conv=>whnf
 refine .pure _ _ ?_ ⟨rfl, rfl⟩ cb fun _ => ?_
 ·exact leL_refl _
 (try dsimp only[awp]);conv=>whnf
 refine And.intro (fun h => by exfalso; omega) (fun _ => ?_)
 (try dsimp only[awp]);conv=>whnf
 refine .pure _ _ ?_ ⟨rfl, rfl⟩ cg fun _ => ?_
 ·exact leL_refl _
 (try dsimp only[awp]);conv=>whnf
 refine .pure _ _ ?_ ⟨rfl, rfl⟩ d1 fun _ => ?_
 ·exact leL_refl _
 (try dsimp only[awp]);conv=>whnf
 refine .pure _ _ ?_ ⟨rfl, rfl⟩ d2 fun _ => ?_
 ·exact leL_refl _
 (try dsimp only[awp]);conv=>whnf
 refine fM ?_;(conv=>whnf);refine ⟨?_,rfl⟩;conv=>whnf
 repeat' first|exact rfl|exact trivial|exact wR|exact lR _|apply aI

theorem partsLe {r : Rat} (w1 : Ws r.num) (w2 : Ws r.den) (l1 : r.num.length ≤ 100000) (l2 : r.den.length ≤ 100000) : (wd (partsR r).2.1).length ≤ 100000 ∧ (wd (partsR r).2.2).length ≤ 100000 := by
 by_cases h : valid r = true ∧ r.num ≠ []
 ·have hp : partsR r = (r.neg, val r.num, val r.den) := if_pos h
  obtain ⟨h1, h2⟩ := h
  unfold valid at h1
  rw [if_neg (fun h => h2 h.1)] at h1
  simp only [Bool.and_eq_true] at h1
  obtain ⟨e1, _⟩ := plain_wd h1.1.1 w1
  obtain ⟨e2, n2⟩ := plain_wd h1.1.2 w2
  rw [hp, show wd (r.neg, val r.num, val r.den).2.1 = r.num from e1, show wd (r.neg, val r.num, val r.den).2.2 = r.den from e2]
  exact ⟨l1, l2⟩
 ·have hp : partsR r = (false, 0, 1) := if_neg h
  have e1 : wd 1 = [1] := wd_small (by omega) (by omega)
  rw [hp, show wd ((false, 0, 1) : Bool × Nat × Nat).2.1 = [] from wd_zero, show wd ((false, 0, 1) : Bool × Nat × Nat).2.2 = [1] from e1]
  simp

theorem c_words (a b : List Int) : FnH Tryz.prog 110 [wL a, wL b] [] (.bool (decide (a = b))) [] := by
 refine FnH.intro lay mixed Tryz.func110 (by kernel_rfl) rfl (by kernel_rfl) rfl fun hok => ?_
 have ha : a.length ≤ 9223372036854775807 := by simpa [OkL, Ok, maxL] using hok.1.1
 (try dsimp only[argC,succC]);(try dsimp only[awp]);conv=>whnf
 refine And.intro (fun h => ?_) (fun h => ?_)
 ·have h : a ≠ b := by intro e; apply h; rw [e]
  conv=>whnf
  refine fM ?_;(conv=>whnf);refine ⟨?_,rfl⟩;conv=>whnf
  simpa using h
 have h : a.length = b.length := by simp only [List.length_map] at h; omega
 (try dsimp only[awp]);conv=>whnf
 refine LoopE.of <| LoopSpec.inv (.refl _ _) (fun (i : Nat) => i ≤ a.length ∧ (a = b ↔ a.drop i = b.drop i)) (fun (i : Nat) => [(13, .int .i64 i)]) (fun _ => _) (fun (i : Nat) => a.length - i) 0 ?_ (fun _ => rfl) ?_ ?_
 ·exact ⟨Nat.zero_le _, by simp⟩
 ·repeat' first|exact rfl|exact trivial|exact wR|exact lR _|apply aI
 rintro i ⟨hi, hx⟩ _
 (try dsimp only[awp]);conv=>whnf
 refine And.intro (fun h1 => ?_) (fun h1 => ?_)
 ·have hlt : i < a.length := by simpa using h1
  have hlt2 : i < b.length := by omega
  rw [List.drop_eq_getElem_cons hlt, List.drop_eq_getElem_cons hlt2] at hx
  (try dsimp only[awp]);conv=>whnf
  refine ADraw.auto (by kernel_rfl) ?_;conv=>whnf
  refine aidx hlt ?_
  (try dsimp only[awp]);conv=>whnf
  refine aidx hlt2 ?_
  (try dsimp only[awp]);conv=>whnf
  refine And.intro (fun h2 => ?_) (fun h2 => ?_)
  ·(try dsimp only[awp]);conv=>whnf
   refine fM ?_;(conv=>whnf);refine ⟨?_,rfl⟩;conv=>whnf
   have : ¬ a = b := fun e => h2 (by simpa using (List.cons.inj (hx.1 e)).1)
   simpa using this
  ·have h2 : a[i] = b[i] := by simpa using h2
   (try dsimp only[awp]);conv=>whnf
   refine zA ?_;conv=>whnf
   refine ⟨i + 1, ?_, ?_, ?_⟩
   ·refine ⟨hlt, ?_⟩
    rw [hx, h2]
    exact ⟨fun e => (List.cons.inj e).2, fun e => by rw [e]⟩
   ·repeat' first|exact rfl|exact trivial|exact wR|exact lR _|apply aI
   ·omega
 ·have hil : i = a.length := by have : ¬ i < a.length := by simpa using h1
                                omega
  (try dsimp only[awp]);conv=>whnf
  refine fM ?_;(conv=>whnf);refine ⟨?_,rfl⟩;conv=>whnf
  have : a = b := hx.2 (by rw [hil, List.drop_length, h, List.drop_length])
  simpa using this

theorem c_ratEq (a b : Rat) : FnH Tryz.prog 59 [a.av, b.av] [] (.bool (decide (a = b))) [] := by
 have c1 := c_words a.num b.num
 have c2 := c_words a.den b.den
 have e : a = b ↔ a.neg = b.neg ∧ a.num = b.num ∧ a.den = b.den := by cases a; cases b; simp
 refine FnH.intro lay mixed Tryz.func59 (by kernel_rfl) rfl (by kernel_rfl) rfl fun hok => ?_
 (try dsimp only[argC,succC]);(try dsimp only[awp]);conv=>whnf
 refine And.intro (fun h1 => ?_) (fun h1 => ?_)
 ·(try dsimp only[awp]);conv=>whnf
  refine .pure _ _ ?_ ⟨rfl, rfl⟩ c1 fun _ => ?_
  ·exact leL_refl _
  (try dsimp only[awp]);conv=>whnf
  refine And.intro (fun h2 => ?_) (fun h2 => ?_)
  ·have h2 : a.num = b.num := by simpa using h2
   (try dsimp only[awp]);conv=>whnf
   refine .pure _ _ ?_ ⟨rfl, rfl⟩ c2 fun _ => ?_
   ·exact leL_refl _
   (try dsimp only[awp]);conv=>whnf
   refine fM ?_;(conv=>whnf);refine ⟨?_,rfl⟩;conv=>whnf
   simp [e, h1, h2]
  ·have h2 : ¬ a.num = b.num := by simpa using h2
   (try dsimp only[awp]);conv=>whnf
   refine fM ?_;(conv=>whnf);refine ⟨?_,rfl⟩;conv=>whnf
   simp [e, h2]
 ·(try dsimp only[awp]);conv=>whnf
  refine fM ?_;(conv=>whnf);refine ⟨?_,rfl⟩;conv=>whnf
  simp [e, h1]


theorem c_Num (e : Int) : FnH Tryz.prog 17 [errAV e] [] (.int .i64 e) [] := by
 by_cases h0 : e = 0
 ·subst h0
  rw [errAV_zero]
  refine FnH.intro lay mixed Tryz.func17 (by kernel_rfl) rfl (by kernel_rfl) rfl fun hok => ?_
  (try dsimp only[argC,succC]);(try dsimp only[awp]);conv=>whnf
  refine fM ?_;(conv=>whnf);refine ⟨?_,rfl⟩;conv=>whnf
  repeat' first|exact rfl|exact trivial|exact wR|exact lR _|apply aI
 ·rw [errAV_ne h0]
  refine FnH.intro lay mixed Tryz.func17 (by kernel_rfl) rfl (by kernel_rfl) rfl fun hok => ?_
  (try dsimp only[argC,succC]);(try dsimp only[awp]);conv=>whnf
  refine fM ?_;(conv=>whnf);refine ⟨?_,rfl⟩;conv=>whnf
  repeat' first|exact rfl|exact trivial|exact wR|exact lR _|apply aI

def boundsR (k : Int) : Int × Int :=
 if k = 0 ∨ k = 1 ∨ k = 4 ∨ k = 2 then (1, 16) else if k = 3 then (1, 1) else if k = 5 then (2, 2) else if k = 6 ∨ k = 7 ∨ k = 8 then (2, 16) else (0, 0)


theorem radd_arith {p x y c s va vb D : Nat} (hD : x + y + c = D) (h : s + p * c = va + vb) : s + p * (D % 4294967296) + p * 4294967296 * (D / 4294967296) = va + p * x + (vb + p * y) := by
 have e : D = D % 4294967296 + 4294967296 * (D / 4294967296) := (Nat.mod_add_div _ _).symm
 have e2 : p * D = p * (D % 4294967296) + p * (4294967296 * (D / 4294967296)) := by rw [← Nat.mul_add, ← e]
 have e3 : p * D = p * x + p * y + p * c := by rw [← hD, Nat.mul_add, Nat.mul_add]
 rw [← Nat.mul_assoc] at e2
 omega

theorem radd_fin {B m la lb a b s c : Nat} (hB : 2 ≤ B) (ha : a < B ^ la) (hb : b < B ^ lb) (hla : la < m) (hlb : lb < m) (h : s + B ^ m * c = a + b) : s = a + b := by
 have h1 : B ^ la ≤ B ^ (m - 1) := Nat.pow_le_pow_right (by omega) (by omega)
 have h2 : B ^ lb ≤ B ^ (m - 1) := Nat.pow_le_pow_right (by omega) (by omega)
 have h3 : B ^ m = B ^ (m - 1) * B := by rw [← Nat.pow_succ]; congr 1; omega
 have h4 : B ^ (m - 1) * 2 ≤ B ^ (m - 1) * B := Nat.mul_le_mul_left _ hB
 cases c with
 | zero => simpa using h
 | succ c =>
   exfalso
   have h5 : B ^ m * 1 ≤ B ^ m * (c + 1) := Nat.mul_le_mul_left _ (by omega)
   rw [h3] at h5 h
   omega

theorem c_r1Add (a b : List Int) (ha : a.length ≤ 900000) (hb : b.length ≤ 900000) : FnH Tryz.prog 194 [wL a, wL b] [] (wL (wd (val a + val b))) [] := by
 refine FnH.intro lay mixed Tryz.func194 (by kernel_rfl) rfl (by kernel_rfl) rfl fun hok => ?_
 have wa : Ws a := Ws.ok hok.1.2
 have wb : Ws b := Ws.ok hok.2.1.2
 (try dsimp only[argC,succC]);(try dsimp only[awp]);conv=>whnf
 obtain ⟨m, hm⟩ : ∃ m, max a.length b.length + 1 = m := ⟨_, rfl⟩
 have em : max (((a.map (AV.int .u32)).length : Nat) : Int) (((b.map (AV.int .u32)).length : Nat) : Int) + 1 = (m : Int) := by simp only [List.length_map]; omega
 refine And.intro (by rw [em]; exact inr64 (by omega) (by omega)) ?_
 rw [em]
 conv=>whnf
 refine LoopE.of <| LoopSpec.inv (.grow 5 1 [] _ rfl (.inl ⟨rfl, rfl⟩) (.refl _ _)) (fun x : Nat × Nat × List Int => x.1 ≤ m ∧ x.2.1 ≤ 1 ∧ Ws x.2.2 ∧ x.2.2.length = x.1 ∧ val x.2.2 + 4294967296 ^ x.1 * x.2.1 = val (a.take x.1) + val (b.take x.1))
  (fun | (i, c, s) => [(15, .int .i64 i), (6, .int .u64 c), (5, .sl 1 (s.map (.int .u32)) (.own 0))]) (fun | (_, _, s) => [(0, .tok 1 s.length)])
  (fun x => m - x.1) (0, 0, []) ?_ (fun _ => rfl) ?_ ?_
 ·exact ⟨Nat.zero_le _, by simp, Ws.nil, rfl, by simp [val]⟩
 ·refine ⟨?_, .mk ?_ ⟨by simp, trivial⟩⟩
  ·repeat' first|exact rfl|exact trivial|exact wR|exact lR _|apply aI
  ·repeat' first|exact rfl|exact trivial|exact wR|exact lR _|apply aI
 rintro ⟨i, c, s⟩ ⟨hi, hc, hws, hsl, hv⟩ _
 simp only at hi hc hws hsl hv
 (try dsimp only[awp]);conv=>whnf
 refine And.intro (fun h => ?_) (fun h => ?_)
 ·have hlt : i < m := by omega
  have ca := c_rWord a i
  have cb := c_rWord b i
  have hva := val_take_getD (l := a) (i := i)
  have hvb := val_take_getD (l := b) (i := i)
  have hxa := wa.getD (i := i)
  have hxb := wb.getD (i := i)
  generalize a.getD i 0 = x0 at *
  generalize b.getD i 0 = y0 at *
  obtain ⟨x, rfl⟩ : ∃ x : Nat, x0 = x := ⟨x0.toNat, by omega⟩
  obtain ⟨w, rfl⟩ : ∃ x : Nat, y0 = x := ⟨y0.toNat, by omega⟩
  rw [Int.toNat_natCast] at hva hvb
  (try dsimp only[awp]);conv=>whnf
  refine .gen _ _ (FnH.ofPure ca (leL_refl _) ⟨rfl, rfl⟩) fun _ => ?_
  (try dsimp only[awp]);conv=>whnf
  refine .gen _ _ (FnH.ofPure cb (leL_refl _) ⟨rfl, rfl⟩) fun _ => ?_
  conv=>whnf
  rw [show ((x : Int) + (w : Int)) = ((x + w : Nat) : Int) from (Int.natCast_add x w).symm, wrap_u64 (n := ((x + w : Nat) : Int)) (by omega) (by omega)]
  rw [show (((x + w : Nat) : Int) + (c : Int)) = ((x + w + c : Nat) : Int) from (Int.natCast_add (x + w) c).symm, wrap_u64 (n := ((x + w + c : Nat) : Int)) (by omega) (by omega)]
  obtain ⟨D, hD⟩ : ∃ D, x + w + c = D := ⟨_, rfl⟩
  rw [hD]
  conv=>whnf
  rw [wrapu32_mod (a := D)]
  refine ⟨by rw [List.length_map], ?_⟩
  refine ⟨by simp [maxL]; omega, by simp; omega, ?_⟩
  conv=>whnf
  refine ⟨by decide, ?_⟩
  rw [shr_word rfl]
  conv=>whnf
  refine zA ?_;conv=>whnf
  refine ⟨(i + 1, D / 4294967296, s ++ [((D % 4294967296 : Nat) : Int)]), ?_, ?_, ?_⟩
  ·refine ⟨hlt, (by omega : D / 4294967296 ≤ 1), hws.append (Ws.cons (by omega) Ws.nil), by simp [hsl], ?_⟩
   show val (s ++ [((D % 4294967296 : Nat) : Int)]) + 4294967296 ^ (i + 1) * (D / 4294967296) = val (a.take (i + 1)) + val (b.take (i + 1))
   have e1 : val (s ++ [((D % 4294967296 : Nat) : Int)]) = val s + 4294967296 ^ i * (D % 4294967296) := by
    rw [val_append, hsl]
    show _ + _ * ((((D % 4294967296 : Nat) : Int)).toNat + 4294967296 * 0) = _
    rw [Int.toNat_natCast]; rfl
   rw [hva, hvb, e1, Nat.pow_succ]
   exact radd_arith hD hv
  ·refine ⟨?_, .mk ?_ ⟨by simp, trivial⟩⟩
   ·repeat' first|exact rfl|exact trivial|exact wR|exact lR _|apply aI
    all_goals first | (refine leRL_of ?_; simp [strip]; done) | simp
   ·repeat' first|exact rfl|exact trivial|exact wR|exact lR _|apply aI
    all_goals simp
  ·show m - (i + 1) < m - i
   omega
 ·have hil : i = m := by omega
  subst hil
  rw [List.take_of_length_le (by omega), List.take_of_length_le (by omega)] at hv
  have hfin : val s = val a + val b := radd_fin (by omega) (val_lt wa) (val_lt wb) (by omega) (by omega) hv
  have ct := c_rTrim s (by omega)
  rw [hfin] at ct
  (try dsimp only[awp]);conv=>whnf
  refine .pure _ _ ?_ ⟨rfl, rfl⟩ ct fun _ => ?_
  ·repeat' first|exact rfl|exact trivial|exact wR|exact lR _|apply aI
  (try dsimp only[awp]);conv=>whnf
  refine fM ?_;(conv=>whnf);refine ⟨?_,rfl⟩;conv=>whnf
  repeat' first|exact rfl|exact trivial|exact wR|exact lR _|apply aI

def negR (a : Rat) : Rat := formR (!(partsR a).1) (partsR a).2.1 (partsR a).2.2

def sumR (s t : Bool) (x y d : Nat) : Rat := if s = t then formR s (x + y) d else if x < y then formR t (y - x) d else formR s (x - y) d

def addR (a b : Rat) : Rat := sumR (partsR a).1 (partsR b).1 ((partsR a).2.1 * (partsR b).2.2) ((partsR b).2.1 * (partsR a).2.2) ((partsR a).2.2 * (partsR b).2.2)

theorem c_rNeg (a : Rat) (a1 : a.num.length ≤ 100000) (a2 : a.den.length ≤ 100000) : FnH Tryz.prog 184 [a.av] [] (negR a).av [] := by
 have ca := c_rParts a (by omega) (by omega)
 refine FnH.intro lay mixed Tryz.func184 (by kernel_rfl) rfl (by kernel_rfl) rfl fun hok => ?_
 have pa := partsOk (ratWs hok).1 (ratWs hok).2 (by omega) (by omega)
 have qa := partsLe (ratWs hok).1 (ratWs hok).2 a1 a2
 rw [pa.eq] at ca
 have cf := c_rFrom (!(partsR a).1) (partsR a).2.1 (partsR a).2.2 (by omega) (by omega) pa.den
 have hm : negR a = formR (!(partsR a).1) (partsR a).2.1 (partsR a).2.2 := rfl
 rw [← hm] at cf
 generalize negR a = R at *
 (try dsimp only[argC,succC]);(try dsimp only[awp]);conv=>whnf
 refine .pure _ _ ?_ ⟨rfl, rfl⟩ ca fun _ => ?_
 ·exact leL_refl _
 (try dsimp only[awp]);conv=>whnf
 refine .pure _ _ ?_ ⟨rfl, rfl⟩ cf fun _ => ?_
 ·repeat' first|exact rfl|exact trivial|exact wR|exact lR _|apply aI
 (try dsimp only[awp]);conv=>whnf
 refine fM ?_;(conv=>whnf);refine ⟨?_,rfl⟩;conv=>whnf
 repeat' first|exact rfl|exact trivial|exact wR|exact lR _|apply aI

theorem wd_eq_nil {x : Nat} : wd x = [] ↔ x = 0 := by
 constructor
 ·intro h
  apply Classical.byContradiction
  intro h0
  rw [wd_pos h0] at h; cases h
 ·rintro rfl; exact wd_zero

theorem wd_len_add {x y k : Nat} (hx : (wd x).length ≤ k) (hy : (wd y).length ≤ k) : (wd (x + y)).length ≤ k + 1 := by
 refine wd_len_lt ?_
 have h1 := val_lt (wd_Ws x)
 have h2 := val_lt (wd_Ws y)
 rw [val_wd] at h1 h2
 have h3 : 4294967296 ^ (wd x).length ≤ 4294967296 ^ k := Nat.pow_le_pow_right (by omega) hx
 have h4 : 4294967296 ^ (wd y).length ≤ 4294967296 ^ k := Nat.pow_le_pow_right (by omega) hy
 rw [Nat.pow_succ]
 generalize 4294967296 ^ k = p at *
 generalize 4294967296 ^ (wd x).length = q at *
 generalize 4294967296 ^ (wd y).length = r at *
 omega

theorem c_rAdd (a b : Rat) (a1 : a.num.length ≤ 100000) (a2 : a.den.length ≤ 100000) (b1 : b.num.length ≤ 100000) (b2 : b.den.length ≤ 100000) : FnH Tryz.prog 183 [a.av, b.av] [] (addR a b).av [] := by
 have ca := c_rParts a (by omega) (by omega)
 have cb := c_rParts b (by omega) (by omega)
 refine FnH.intro lay mixed Tryz.func183 (by kernel_rfl) rfl (by kernel_rfl) rfl fun hok => ?_
 have pa := partsOk (ratWs hok).1 (ratWs hok).2 (by omega) (by omega)
 have pb := partsOk (ratWs hok.2).1 (ratWs hok.2).2 (by omega) (by omega)
 have qa := partsLe (ratWs hok).1 (ratWs hok).2 a1 a2
 have qb := partsLe (ratWs hok.2).1 (ratWs hok.2).2 b1 b2
 rw [pa.eq] at ca
 rw [pb.eq] at cb
 have hR : addR a b = sumR (partsR a).1 (partsR b).1 ((partsR a).2.1 * (partsR b).2.2) ((partsR b).2.1 * (partsR a).2.2) ((partsR a).2.2 * (partsR b).2.2) := rfl
 have m1 := c_rMul (wd (partsR a).2.1) (wd (partsR b).2.2) pa.ln pb.ld
 have m2 := c_rMul (wd (partsR b).2.1) (wd (partsR a).2.2) pb.ln pa.ld
 have m3 := c_rMul (wd (partsR a).2.2) (wd (partsR b).2.2) pa.ld pb.ld
 rw [val_wd, val_wd] at m1 m2 m3
 have l1 := wd_len_mul qa.1 qb.2
 have l2 := wd_len_mul qb.1 qa.2
 have l3 := wd_len_mul qa.2 qb.2
 have hne : (partsR a).2.2 * (partsR b).2.2 ≠ 0 := Nat.mul_ne_zero pa.den pb.den
 generalize addR a b = R at *
 generalize (partsR a).2.1 * (partsR b).2.2 = x at *
 generalize (partsR b).2.1 * (partsR a).2.2 = y at *
 generalize (partsR a).2.2 * (partsR b).2.2 = d at *
 have l4 := wd_len_add l1 l2
 have l5 := wd_len_mono (Nat.sub_le x y)
 have l6 := wd_len_mono (Nat.sub_le y x)
 have cA := c_r1Add (wd x) (wd y) (by omega) (by omega)
 have cC := c_rCmp (wd x) (wd y) (by omega) (by omega)
 have cS := c_rSub (wd x) (wd y) (by omega) (by omega) _ rfl
 have cS2 := c_rSub (wd y) (wd x) (by omega) (by omega) _ rfl
 rw [val_wd, val_wd] at cA cC cS cS2
 have cf1 := c_rFrom (partsR a).1 (x + y) d (by omega) (by omega) hne
 have cf2 := c_rFrom (partsR a).1 (x - y) d (by omega) (by omega) hne
 have cf3 := c_rFrom (partsR b).1 (y - x) d (by omega) (by omega) hne
 unfold sumR at hR
 generalize (partsR a).1 = s at *
 generalize (partsR b).1 = t at *
 (try dsimp only[argC,succC]);(try dsimp only[awp]);conv=>whnf
 refine .pure _ _ ?_ ⟨rfl, rfl⟩ ca fun _ => ?_
 ·exact leL_refl _
 (try dsimp only[awp]);conv=>whnf
 refine .pure _ _ ?_ ⟨rfl, rfl⟩ cb fun _ => ?_
 ·exact leL_refl _
 (try dsimp only[awp]);conv=>whnf
 refine .pure _ _ ?_ ⟨rfl, rfl⟩ m1 fun _ => ?_
 ·exact leL_refl _
 (try dsimp only[awp]);conv=>whnf
 refine .pure _ _ ?_ ⟨rfl, rfl⟩ m2 fun _ => ?_
 ·exact leL_refl _
 (try dsimp only[awp]);conv=>whnf
 refine .pure _ _ ?_ ⟨rfl, rfl⟩ m3 fun _ => ?_
 ·exact leL_refl _
 (try dsimp only[awp]);conv=>whnf
 refine And.intro (fun hst => ?_) (fun hst => ?_)
 ·have hst : s = t := by simpa using hst
  rw [if_pos hst] at hR
  subst hR
  (try dsimp only[awp]);conv=>whnf
  refine .pure _ _ ?_ ⟨rfl, rfl⟩ cA fun _ => ?_
  ·exact leL_refl _
  (try dsimp only[awp]);conv=>whnf
  refine .pure _ _ ?_ ⟨rfl, rfl⟩ cf1 fun _ => ?_
  ·exact leL_refl _
  (try dsimp only[awp]);conv=>whnf
  refine fM ?_;(conv=>whnf);refine ⟨?_,rfl⟩;conv=>whnf
  repeat' first|exact rfl|exact trivial|exact wR|exact lR _|apply aI
 have hst : ¬ s = t := by simpa using hst
 rw [if_neg hst] at hR
 (try dsimp only[awp]);conv=>whnf
 refine .pure _ _ ?_ ⟨rfl, rfl⟩ cC fun _ => ?_
 ·exact leL_refl _
 (try dsimp only[awp]);conv=>whnf
 refine And.intro (fun hxy => ?_) (fun hxy => ?_)
 ·have hlt : x < y := by
   unfold cmpN at hxy
   split at hxy
   ·assumption
   ·split at hxy <;> omega
  rw [if_pos hlt] at hR
  subst hR
  rw [if_neg (by omega)] at cS2
  (try dsimp only[awp]);conv=>whnf
  refine .pure _ _ ?_ ⟨rfl, rfl⟩ cS2 fun _ => ?_
  ·exact leL_refl _
  (try dsimp only[awp]);conv=>whnf
  refine .pure _ _ ?_ ⟨rfl, rfl⟩ cf3 fun _ => ?_
  ·exact leL_refl _
  (try dsimp only[awp]);conv=>whnf
  refine fM ?_;(conv=>whnf);refine ⟨?_,rfl⟩;conv=>whnf
  repeat' first|exact rfl|exact trivial|exact wR|exact lR _|apply aI
 ·have hlt : ¬ x < y := by
   intro hlt
   unfold cmpN at hxy
   rw [if_pos hlt] at hxy
   omega
  rw [if_neg hlt] at hR
  subst hR
  rw [if_neg hlt] at cS
  (try dsimp only[awp]);conv=>whnf
  refine .pure _ _ ?_ ⟨rfl, rfl⟩ cS fun _ => ?_
  ·exact leL_refl _
  (try dsimp only[awp]);conv=>whnf
  refine .pure _ _ ?_ ⟨rfl, rfl⟩ cf2 fun _ => ?_
  ·exact leL_refl _
  (try dsimp only[awp]);conv=>whnf
  refine fM ?_;(conv=>whnf);refine ⟨?_,rfl⟩;conv=>whnf
  repeat' first|exact rfl|exact trivial|exact wR|exact lR _|apply aI

def signR (r : Rat) : Int := if (partsR r).2.1 = 0 then 0 else if (partsR r).1 = true then -1 else 1

theorem c_rSign (a : Rat) (a1 : a.num.length ≤ 300000) (a2 : a.den.length ≤ 300000) : FnH Tryz.prog 148 [a.av] [] (.int .i64 (signR a)) [] := by
 have ca := c_rParts a (by omega) (by omega)
 have hR : signR a = if (partsR a).2.1 = 0 then 0 else if (partsR a).1 = true then -1 else 1 := rfl
 refine FnH.intro lay mixed Tryz.func148 (by kernel_rfl) rfl (by kernel_rfl) rfl fun hok => ?_
 have pa := partsOk (ratWs hok).1 (ratWs hok).2 (by omega) (by omega)
 rw [pa.eq] at ca
 have hz := wd_eq_nil (x := (partsR a).2.1)
 generalize signR a = R at *
 generalize (partsR a).2.1 = x at *
 generalize (partsR a).1 = s at *
 (try dsimp only[argC,succC]);(try dsimp only[awp]);conv=>whnf
 refine .pure _ _ ?_ ⟨rfl, rfl⟩ ca fun _ => ?_
 ·exact leL_refl _
 (try dsimp only[awp]);conv=>whnf
 refine And.intro (fun h => ?_) (fun h => ?_)
 ·have h0 : x = 0 := hz.1 (List.eq_nil_of_length_eq_zero (by simpa using h))
  rw [if_pos h0] at hR
  subst hR
  (try dsimp only[awp]);conv=>whnf
  refine fM ?_;(conv=>whnf);refine ⟨?_,rfl⟩;conv=>whnf
  repeat' first|exact rfl|exact trivial|exact wR|exact lR _|apply aI
 have h0 : ¬ x = 0 := by
  intro h0
  apply h
  rw [hz.2 h0]; rfl
 rw [if_neg h0] at hR
 (try dsimp only[awp]);conv=>whnf
 refine And.intro (fun hs => ?_) (fun hs => ?_)
 ·rw [if_pos hs] at hR
  subst hR
  (try dsimp only[awp]);conv=>whnf
  refine fM ?_;(conv=>whnf);refine ⟨?_,rfl⟩;conv=>whnf
  repeat' first|exact rfl|exact trivial|exact wR|exact lR _|apply aI
 ·rw [if_neg (by simp [hs])] at hR
  subst hR
  (try dsimp only[awp]);conv=>whnf
  refine fM ?_;(conv=>whnf);refine ⟨?_,rfl⟩;conv=>whnf
  repeat' first|exact rfl|exact trivial|exact wR|exact lR _|apply aI


theorem plain_of_wd {x : Nat} (h : x ≠ 0) : plainR (wd x) = true := by
 have h1 : wd x ≠ [] := fun e => h (wd_eq_nil.1 e)
 have h2 : (wd x).getLastD 0 ≠ 0 := by
  rcases wd_Pl x with h2 | h2
  ·exact absurd h2 h1
  ·exact h2
 simp only [plainR, Bool.and_eq_true, decide_eq_true_eq]
 exact ⟨h1, h2⟩

theorem parts_form {neg : Bool} {x d : Nat} (hx : x ≠ 0) (hd : d ≠ 0) : partsR (formR neg x d) = (neg, x / Nat.gcd x d, d / Nat.gcd x d) ∧ x / Nat.gcd x d ≠ 0 := by
 have hg : 0 < Nat.gcd x d := Nat.gcd_pos_of_pos_left d (by omega)
 have h1 : x / Nat.gcd x d ≠ 0 := by
  have := Nat.div_pos (Nat.gcd_le_left d (by omega : 0 < x)) hg
  omega
 have h2 : d / Nat.gcd x d ≠ 0 := by
  have := Nat.div_pos (Nat.gcd_le_right x (by omega : 0 < d)) hg
  omega
 have hc : Nat.gcd (x / Nat.gcd x d) (d / Nat.gcd x d) = 1 := Nat.gcd_div_gcd_div_gcd_of_pos_left (by omega)
 unfold formR
 rw [if_neg hx]
 generalize x / Nat.gcd x d = a at *
 generalize d / Nat.gcd x d = b at *
 refine ⟨?_, h1⟩
 have hn : wd a ≠ [] := fun e => h1 (wd_eq_nil.1 e)
 have hv : valid ⟨neg, wd a, wd b⟩ = true := by
  unfold valid
  rw [if_neg (fun h => hn h.1)]
  show (plainR (wd a) && plainR (wd b) && decide (Nat.gcd (val (wd a)) (val (wd b)) = 1)) = true
  rw [plain_of_wd h1, plain_of_wd h2, val_wd, val_wd]
  simpa using hc
 unfold partsR
 rw [if_pos ⟨hv, hn⟩]
 show (neg, val (wd a), val (wd b)) = _
 rw [val_wd, val_wd]

theorem sign_form {neg : Bool} {x d : Nat} (hd : d ≠ 0) : signR (formR neg x d) = if x = 0 then 0 else if neg = true then -1 else 1 := by
 by_cases hx : x = 0
 ·rw [if_pos hx]
  unfold formR
  rw [if_pos hx]
  have e : partsR ⟨false, [], []⟩ = (false, 0, 1) := if_neg (fun h => h.2 rfl)
  unfold signR
  rw [e]
  rfl
 ·rw [if_neg hx]
  obtain ⟨h1, h2⟩ := parts_form (neg := neg) hx hd
  unfold signR
  rw [h1, if_neg h2]

theorem signR_eq {r : Rat} (w1 : Ws r.num) : signR r = sign r := by
 unfold signR sign partsR
 by_cases h : valid r = true ∧ r.num ≠ []
 ·rw [if_pos h, if_pos h]
  obtain ⟨h1, h2⟩ := h
  unfold valid at h1
  rw [if_neg (fun h => h2 h.1)] at h1
  simp only [Bool.and_eq_true] at h1
  rw [if_neg (plain_wd h1.1.1 w1).2]
 ·rw [if_neg h, if_neg h]; rfl

abbrev oneR : Rat := ⟨false, [1], [1]⟩

theorem wd_one : wd 1 = [1] := wd_small (by omega) (by omega)

theorem parts_one (neg : Bool) : partsR ⟨neg, [1], [1]⟩ = (neg, 1, 1) := by
 have h := (parts_form (neg := neg) (x := 1) (d := 1) (by omega) (by omega)).1
 have e : formR neg 1 1 = ⟨neg, [1], [1]⟩ := by
  unfold formR
  rw [if_neg (by omega)]
  simp [wd_one]
 rw [e] at h
 simpa using h

theorem neg_one : negR oneR = ⟨true, [1], [1]⟩ := by
 unfold negR
 rw [parts_one]
 unfold formR
 rw [if_neg (by simp)]
 simp [wd_one]

theorem prob_law {r : Rat} (w1 : Ws r.num) (w2 : Ws r.den) : (valid r && decide (0 ≤ sign r) && decide (signR (addR r (negR oneR)) ≤ 0)) = prob r := by
 unfold prob
 cases hv : valid r with
 | false => simp
 | true =>
   rw [neg_one]
   unfold addR
   rw [parts_one]
   have hp : partsR r = if r.num ≠ [] then (r.neg, val r.num, val r.den) else (false, 0, 1) := by
    unfold partsR; simp [hv]
   have hs : sign r = if r.num ≠ [] then (if r.neg then -1 else 1) else 0 := by
    unfold sign; simp [hv]
   have hv' := hv
   unfold valid at hv'
   by_cases hn : r.num = []
   ·rw [hp, hs, if_neg (by simp [hn]), if_neg (by simp [hn])]
    have hdn : r.den = [] := by
     apply Classical.byContradiction
     intro hd
     rw [if_neg (fun h => hd h.2), hn] at hv'
     simp [plainR] at hv'
    rw [if_pos ⟨hn, hdn⟩] at hv'
    have hneg : r.neg = false := by simpa using hv'
    have e : sumR false true (0 * 1) (1 * 1) (1 * 1) = formR true 1 1 := rfl
    show (true && decide ((0 : Int) ≤ 0) && decide (signR (sumR false true (0 * 1) (1 * 1) (1 * 1)) ≤ 0)) = _
    rw [e, sign_form (by omega), hn, hdn, hneg]
    decide
   ·rw [hp, hs, if_pos hn, if_pos hn]
    rw [if_neg (fun h => hn h.1)] at hv'
    simp only [Bool.and_eq_true] at hv'
    obtain ⟨e1, n1⟩ := plain_wd hv'.1.1 w1
    obtain ⟨e2, n2⟩ := plain_wd hv'.1.2 w2
    cases hneg : r.neg with
    | true => simp
    | false =>
      show (true && decide ((0 : Int) ≤ 1) && decide (signR (sumR false true (val r.num * 1) (1 * val r.den) (val r.den * 1)) ≤ 0)) = (true && !false && decide (val r.num ≤ val r.den))
      rw [Nat.mul_one, Nat.one_mul, Nat.mul_one]
      unfold sumR
      rw [if_neg (by decide)]
      by_cases hlt : val r.num < val r.den
      ·rw [if_pos hlt, sign_form n2, if_neg (by omega)]
       simp; omega
      ·rw [if_neg hlt, sign_form n2]
       by_cases h0 : val r.num - val r.den = 0
       ·rw [if_pos h0]; simp; omega
       ·rw [if_neg h0]; simp; omega

theorem c_rSub1 (a : Rat) (a1 : a.num.length ≤ 90000) (a2 : a.den.length ≤ 90000) : FnH Tryz.prog 174 [a.av, oneR.av] [] (addR a (negR oneR)).av [] := by
 have c1 := c_rNeg oneR (by simp) (by simp)
 have n1 : (negR oneR).num.length ≤ 90000 := by rw [neg_one]; simp
 have n2 : (negR oneR).den.length ≤ 90000 := by rw [neg_one]; simp
 have c2 := c_rAdd a (negR oneR) (by omega) (by omega) (by omega) (by omega)
 generalize addR a (negR oneR) = R at *
 generalize negR oneR = N at *
 refine FnH.intro lay mixed Tryz.func174 (by kernel_rfl) rfl (by kernel_rfl) rfl fun hok => ?_
 (try dsimp only[argC,succC]);(try dsimp only[awp]);conv=>whnf
 refine ADraw.auto (by kernel_rfl) ?_;conv=>whnf
 refine ACallP.pure _ _ ?_ ⟨rfl, rfl⟩ c1 ?_
 ·exact leL_refl _
 (try dsimp only[awp]);conv=>whnf
 refine ACallP.pure _ _ ?_ ⟨rfl, rfl⟩ c2 ?_
 ·exact leL_refl _
 (try dsimp only[awp]);conv=>whnf
 refine fM ?_;(conv=>whnf);refine ⟨?_,rfl⟩;conv=>whnf
 repeat' first|exact rfl|exact trivial|exact wR|exact lR _|apply aI

theorem form_len {neg : Bool} {x d k : Nat} (hx : (wd x).length ≤ k) (hd : (wd d).length ≤ k) : (formR neg x d).num.length ≤ k ∧ (formR neg x d).den.length ≤ k := by
 unfold formR
 split
 ·simp
 ·have h1 := wd_len_mono (Nat.div_le_self x (Nat.gcd x d))
  have h2 := wd_len_mono (Nat.div_le_self d (Nat.gcd x d))
  exact ⟨by show (wd _).length ≤ k; omega, by show (wd _).length ≤ k; omega⟩

theorem add_len {a b : Rat} (wa : Ws a.num ∧ Ws a.den) (wb : Ws b.num ∧ Ws b.den) (a1 : a.num.length ≤ 100000) (a2 : a.den.length ≤ 100000) (b1 : b.num.length ≤ 100000) (b2 : b.den.length ≤ 100000) :
  (addR a b).num.length ≤ 200001 ∧ (addR a b).den.length ≤ 200001 := by
 have qa := partsLe wa.1 wa.2 a1 a2
 have qb := partsLe wb.1 wb.2 b1 b2
 have l1 := wd_len_mul qa.1 qb.2
 have l2 := wd_len_mul qb.1 qa.2
 have l3 := wd_len_mul qa.2 qb.2
 unfold addR sumR
 generalize (partsR a).2.1 * (partsR b).2.2 = x at *
 generalize (partsR b).2.1 * (partsR a).2.2 = y at *
 generalize (partsR a).2.2 * (partsR b).2.2 = d at *
 have l4 := wd_len_add l1 l2
 have l5 := wd_len_mono (Nat.sub_le x y)
 have l6 := wd_len_mono (Nat.sub_le y x)
 split
 ·exact form_len (by omega) (by omega)
 ·split
  ·exact form_len (by omega) (by omega)
  ·exact form_len (by omega) (by omega)

theorem c_rCmp1 (a : Rat) (a1 : a.num.length ≤ 90000) (a2 : a.den.length ≤ 90000) : FnH Tryz.prog 149 [a.av, oneR.av] [] (.int .i64 (signR (addR a (negR oneR)))) [] := by
 have c1 := c_rSub1 a a1 a2
 refine FnH.intro lay mixed Tryz.func149 (by kernel_rfl) rfl (by kernel_rfl) rfl fun hok => ?_
 have w := ratWs hok
 have hl := add_len w (b := negR oneR) (by rw [neg_one]; exact ⟨Ws.cons (by omega) Ws.nil, Ws.cons (by omega) Ws.nil⟩) (by omega) (by omega) (by rw [neg_one]; simp) (by rw [neg_one]; simp)
 have c2 := c_rSign (addR a (negR oneR)) (by omega) (by omega)
 generalize addR a (negR oneR) = R at *
 (try dsimp only[argC,succC]);(try dsimp only[awp]);conv=>whnf
 refine .pure _ _ ?_ ⟨rfl, rfl⟩ c1 fun _ => ?_
 ·exact leL_refl _
 (try dsimp only[awp]);conv=>whnf
 refine .pure _ _ ?_ ⟨rfl, rfl⟩ c2 fun _ => ?_
 ·exact leL_refl _
 (try dsimp only[awp]);conv=>whnf
 refine fM ?_;(conv=>whnf);refine ⟨?_,rfl⟩;conv=>whnf
 repeat' first|exact rfl|exact trivial|exact wR|exact lR _|apply aI

theorem c_rProb (h1 : OneC) (a : Rat) (a1 : a.num.length ≤ 90000) (a2 : a.den.length ≤ 90000) : FnH Tryz.prog 96 [a.av] [] (.bool (prob a)) [] := by
 have cv := c_rValid a (by omega) (by omega)
 have cs := c_rSign a (by omega) (by omega)
 have cc := c_rCmp1 a a1 a2
 refine FnH.intro lay mixed Tryz.func96 (by kernel_rfl) rfl (by kernel_rfl) rfl fun hok => ?_
 have w := ratWs hok
 have hl := prob_law w.1 w.2
 rw [signR_eq w.1] at cs
 generalize signR (addR a (negR oneR)) = z at *
 rw [← hl]
 (try dsimp only[argC,succC]);(try dsimp only[awp]);conv=>whnf
 refine ADraw.auto (by kernel_rfl) ?_;conv=>whnf
 refine ACallP.pure _ _ ?_ ⟨rfl, rfl⟩ cv ?_
 ·exact leL_refl _
 (try dsimp only[awp]);conv=>whnf
 refine And.intro (fun p1 => ?_) (fun p1 => ?_)
 ·(try dsimp only[awp]);conv=>whnf
  refine ACallP.pure _ _ ?_ ⟨rfl, rfl⟩ cs ?_
  ·exact leL_refl _
  (try dsimp only[awp]);conv=>whnf
  refine And.intro (fun p2 => ?_) (fun p2 => ?_)
  ·(try dsimp only[awp]);conv=>whnf
   refine ACallP.pure _ _ ?_ ⟨rfl, rfl⟩ h1 ?_
   ·exact leL_refl _
   (try dsimp only[awp]);conv=>whnf
   refine ACallP.pure _ _ ?_ ⟨rfl, rfl⟩ cc ?_
   ·exact leL_refl _
   (try dsimp only[awp]);conv=>whnf
   refine fM ?_;(conv=>whnf);refine ⟨?_,rfl⟩;conv=>whnf
   show _ ↔ _
   simp [p1, p2]
  ·(try dsimp only[awp]);conv=>whnf
   refine fM ?_;(conv=>whnf);refine ⟨?_,rfl⟩;conv=>whnf
   simp [p1, p2]
 ·(try dsimp only[awp]);conv=>whnf
  refine fM ?_;(conv=>whnf);refine ⟨?_,rfl⟩;conv=>whnf
  simp [p1]

theorem c_revent (m : Md) (s : Str) : FnH Tryz.prog 95 [m.av, .str s] [] (.int .i64 (i_event m.evs s)) [] := by
 refine FnH.intro lay mixed Tryz.func95 (by kernel_rfl) rfl (by kernel_rfl) rfl fun hok => ?_
 have hl : m.evs.length ≤ 9223372036854775807 := by
  have := hok.1
  simp only [Ok, OkL] at this
  have : (m.evs.map Ev.av).length ≤ maxL := by simp only [this]
  simpa [maxL] using this
 (try dsimp only[argC,succC]);(try dsimp only[awp]);conv=>whnf
 refine LoopE.of <| LoopSpec.inv (.refl _ _) (fun (i : Nat) => i ≤ m.evs.length ∧ ∀ (j : Nat) (hj : j < m.evs.length), j < i → decide ((m.evs)[j].name = s) = false) (fun (i : Nat) => [(10, .int .i64 i)]) (fun _ => _) (fun (i : Nat) => m.evs.length - i) 0 ?_ (fun _ => rfl) ?_ ?_
 ·exact ⟨Nat.zero_le _, by omega⟩
 ·repeat' first|exact rfl|exact trivial|exact wR|exact lR _|apply aI
 rintro i ⟨hi, hn⟩ _
 (try dsimp only[awp]);conv=>whnf
 refine And.intro (fun h => ?_) (fun h => ?_)
 ·have hlt : i < m.evs.length := by simpa using h
  have hyes : (m.evs)[i].name = s → i_event m.evs s = i := fun e => (by unfold i_event; exact idxP_some (p := fun x => decide (x.name = s)) hlt (by simpa using e) fun j hj => hn j (by omega) hj)
  have hno : (m.evs)[i].name ≠ s → ∀ (j : Nat) (hj : j < m.evs.length), j < i + 1 → decide ((m.evs)[j].name = s) = false := by
   intro e j hj hji
   by_cases e2 : j = i
   ·subst e2; exact decide_eq_false e
   ·exact hn j hj (by omega)
  (try dsimp only[awp]);conv=>whnf
  refine aidx hlt ?_
  generalize (m.evs)[i] = x at *
  (try dsimp only[awp]);conv=>whnf
  refine And.intro (fun h1 => ?_) (fun h1 => ?_)
  ·rw [hyes h1]
   (try dsimp only[awp]);conv=>whnf
   refine fM ?_;(conv=>whnf);refine ⟨?_,rfl⟩;conv=>whnf
   repeat' first|exact rfl|exact trivial|exact wR|exact lR _|apply aI
  ·(try dsimp only[awp]);conv=>whnf
   refine zA ?_;conv=>whnf
   refine ⟨i + 1, ?_, ?_, ?_⟩
   ·exact ⟨hlt, hno h1⟩
   ·refine ⟨?_, .mk ?_ ⟨by simp, trivial⟩⟩
    ·repeat' first|exact rfl|exact trivial|exact wR|exact lR _|apply aI
    ·repeat' first|exact rfl|exact trivial|exact wR|exact lR _|apply aI
   ·omega
 ·have hlt : ¬ i < m.evs.length := by simpa using h
  rw [show i_event m.evs s = -1 from by unfold i_event; exact idxP_none (p := fun x => decide (x.name = s)) fun j hj => hn j hj (by omega)]
  (try dsimp only[awp]);conv=>whnf
  refine fM ?_;(conv=>whnf);refine ⟨?_,rfl⟩;conv=>whnf
  repeat' first|exact rfl|exact trivial|exact wR|exact lR _|apply aI
theorem c_rhouse (m : Md) (s : Str) : FnH Tryz.prog 98 [m.av, .str s] [] (.int .i64 (i_house m.hs s)) [] := by
 refine FnH.intro lay mixed Tryz.func98 (by kernel_rfl) rfl (by kernel_rfl) rfl fun hok => ?_
 have hl : m.hs.length ≤ 9223372036854775807 := by
  have := hok.1
  simp only [Ok, OkL] at this
  have : (m.hs.map Hs.av).length ≤ maxL := by simp only [this]
  simpa [maxL] using this
 (try dsimp only[argC,succC]);(try dsimp only[awp]);conv=>whnf
 refine LoopE.of <| LoopSpec.inv (.refl _ _) (fun (i : Nat) => i ≤ m.hs.length ∧ ∀ (j : Nat) (hj : j < m.hs.length), j < i → decide ((m.hs)[j].name = s) = false) (fun (i : Nat) => [(10, .int .i64 i)]) (fun _ => _) (fun (i : Nat) => m.hs.length - i) 0 ?_ (fun _ => rfl) ?_ ?_
 ·exact ⟨Nat.zero_le _, by omega⟩
 ·repeat' first|exact rfl|exact trivial|exact wR|exact lR _|apply aI
 rintro i ⟨hi, hn⟩ _
 (try dsimp only[awp]);conv=>whnf
 refine And.intro (fun h => ?_) (fun h => ?_)
 ·have hlt : i < m.hs.length := by simpa using h
  have hyes : (m.hs)[i].name = s → i_house m.hs s = i := fun e => (by unfold i_house; exact idxP_some (p := fun x => decide (x.name = s)) hlt (by simpa using e) fun j hj => hn j (by omega) hj)
  have hno : (m.hs)[i].name ≠ s → ∀ (j : Nat) (hj : j < m.hs.length), j < i + 1 → decide ((m.hs)[j].name = s) = false := by
   intro e j hj hji
   by_cases e2 : j = i
   ·subst e2; exact decide_eq_false e
   ·exact hn j hj (by omega)
  (try dsimp only[awp]);conv=>whnf
  refine aidx hlt ?_
  generalize (m.hs)[i] = x at *
  (try dsimp only[awp]);conv=>whnf
  refine And.intro (fun h1 => ?_) (fun h1 => ?_)
  ·rw [hyes h1]
   (try dsimp only[awp]);conv=>whnf
   refine fM ?_;(conv=>whnf);refine ⟨?_,rfl⟩;conv=>whnf
   repeat' first|exact rfl|exact trivial|exact wR|exact lR _|apply aI
  ·(try dsimp only[awp]);conv=>whnf
   refine zA ?_;conv=>whnf
   refine ⟨i + 1, ?_, ?_, ?_⟩
   ·exact ⟨hlt, hno h1⟩
   ·refine ⟨?_, .mk ?_ ⟨by simp, trivial⟩⟩
    ·repeat' first|exact rfl|exact trivial|exact wR|exact lR _|apply aI
    ·repeat' first|exact rfl|exact trivial|exact wR|exact lR _|apply aI
   ·omega
 ·have hlt : ¬ i < m.hs.length := by simpa using h
  rw [show i_house m.hs s = -1 from by unfold i_house; exact idxP_none (p := fun x => decide (x.name = s)) fun j hj => hn j hj (by omega)]
  (try dsimp only[awp]);conv=>whnf
  refine fM ?_;(conv=>whnf);refine ⟨?_,rfl⟩;conv=>whnf
  repeat' first|exact rfl|exact trivial|exact wR|exact lR _|apply aI
theorem c_rpage (m : Md) (s : Str) : FnH Tryz.prog 99 [m.av, .str s] [] (.int .i64 (i_page m.pages s)) [] := by
 refine FnH.intro lay mixed Tryz.func99 (by kernel_rfl) rfl (by kernel_rfl) rfl fun hok => ?_
 have hl : m.pages.length ≤ 9223372036854775807 := by
  have := hok.1
  simp only [Ok, OkL] at this
  have : (m.pages.map Pg.av).length ≤ maxL := by simp only [this]
  simpa [maxL] using this
 (try dsimp only[argC,succC]);(try dsimp only[awp]);conv=>whnf
 refine LoopE.of <| LoopSpec.inv (.refl _ _) (fun (i : Nat) => i ≤ m.pages.length ∧ ∀ (j : Nat) (hj : j < m.pages.length), j < i → decide ((m.pages)[j].name = s) = false) (fun (i : Nat) => [(10, .int .i64 i)]) (fun _ => _) (fun (i : Nat) => m.pages.length - i) 0 ?_ (fun _ => rfl) ?_ ?_
 ·exact ⟨Nat.zero_le _, by omega⟩
 ·repeat' first|exact rfl|exact trivial|exact wR|exact lR _|apply aI
 rintro i ⟨hi, hn⟩ _
 (try dsimp only[awp]);conv=>whnf
 refine And.intro (fun h => ?_) (fun h => ?_)
 ·have hlt : i < m.pages.length := by simpa using h
  have hyes : (m.pages)[i].name = s → i_page m.pages s = i := fun e => (by unfold i_page; exact idxP_some (p := fun x => decide (x.name = s)) hlt (by simpa using e) fun j hj => hn j (by omega) hj)
  have hno : (m.pages)[i].name ≠ s → ∀ (j : Nat) (hj : j < m.pages.length), j < i + 1 → decide ((m.pages)[j].name = s) = false := by
   intro e j hj hji
   by_cases e2 : j = i
   ·subst e2; exact decide_eq_false e
   ·exact hn j hj (by omega)
  (try dsimp only[awp]);conv=>whnf
  refine aidx hlt ?_
  generalize (m.pages)[i] = x at *
  (try dsimp only[awp]);conv=>whnf
  refine And.intro (fun h1 => ?_) (fun h1 => ?_)
  ·rw [hyes h1]
   (try dsimp only[awp]);conv=>whnf
   refine fM ?_;(conv=>whnf);refine ⟨?_,rfl⟩;conv=>whnf
   repeat' first|exact rfl|exact trivial|exact wR|exact lR _|apply aI
  ·(try dsimp only[awp]);conv=>whnf
   refine zA ?_;conv=>whnf
   refine ⟨i + 1, ?_, ?_, ?_⟩
   ·exact ⟨hlt, hno h1⟩
   ·refine ⟨?_, .mk ?_ ⟨by simp, trivial⟩⟩
    ·repeat' first|exact rfl|exact trivial|exact wR|exact lR _|apply aI
    ·repeat' first|exact rfl|exact trivial|exact wR|exact lR _|apply aI
   ·omega
 ·have hlt : ¬ i < m.pages.length := by simpa using h
  rw [show i_page m.pages s = -1 from by unfold i_page; exact idxP_none (p := fun x => decide (x.name = s)) fun j hj => hn j hj (by omega)]
  (try dsimp only[awp]);conv=>whnf
  refine fM ?_;(conv=>whnf);refine ⟨?_,rfl⟩;conv=>whnf
  repeat' first|exact rfl|exact trivial|exact wR|exact lR _|apply aI

theorem c_rgate (l : List Mg) (s : Str) : FnH Tryz.prog 101 [gL l, .str s] [] (.int .i64 (i_gate l s)) [] := by
 refine FnH.intro lay mixed Tryz.func101 (by kernel_rfl) rfl (by kernel_rfl) rfl fun hok => ?_
 have hl : l.length ≤ 9223372036854775807 := by have := hok.1.1; simpa [maxL] using this
 (try dsimp only[argC,succC]);(try dsimp only[awp]);conv=>whnf
 refine LoopE.of <| LoopSpec.inv (.refl _ _) (fun (i : Nat) => i ≤ l.length ∧ ∀ (j : Nat) (hj : j < l.length), j < i → decide (l[j].name = s) = false) (fun (i : Nat) => [(9, .int .i64 i)]) (fun _ => _) (fun (i : Nat) => l.length - i) 0 ?_ (fun _ => rfl) ?_ ?_
 ·exact ⟨Nat.zero_le _, by omega⟩
 ·repeat' first|exact rfl|exact trivial|exact wR|exact lR _|apply aI
 rintro i ⟨hi, hn⟩ _
 (try dsimp only[awp]);conv=>whnf
 refine And.intro (fun h => ?_) (fun h => ?_)
 ·have hlt : i < l.length := by simpa using h
  have hyes : l[i].name = s → i_gate l s = i := fun e => (by unfold i_gate; exact idxP_some (p := fun x => decide (x.name = s)) hlt (by simpa using e) fun j hj => hn j (by omega) hj)
  have hno : l[i].name ≠ s → ∀ (j : Nat) (hj : j < l.length), j < i + 1 → decide (l[j].name = s) = false := by
   intro e j hj hji
   by_cases e2 : j = i
   ·subst e2; exact decide_eq_false e
   ·exact hn j hj (by omega)
  (try dsimp only[awp]);conv=>whnf
  refine aidx hlt ?_
  generalize l[i] = x at *
  (try dsimp only[awp]);conv=>whnf
  refine And.intro (fun h1 => ?_) (fun h1 => ?_)
  ·rw [hyes h1]
   (try dsimp only[awp]);conv=>whnf
   refine fM ?_;(conv=>whnf);refine ⟨?_,rfl⟩;conv=>whnf
   repeat' first|exact rfl|exact trivial|exact wR|exact lR _|apply aI
  ·(try dsimp only[awp]);conv=>whnf
   refine zA ?_;conv=>whnf
   refine ⟨i + 1, ?_, ?_, ?_⟩
   ·exact ⟨hlt, hno h1⟩
   ·refine ⟨?_, .mk ?_ trivial⟩
    ·repeat' first|exact rfl|exact trivial|exact wR|exact lR _|apply aI
    ·repeat' first|exact rfl|exact trivial|exact wR|exact lR _|apply aI
   ·omega
 ·have hlt : ¬ i < l.length := by simpa using h
  rw [show i_gate l s = -1 from by unfold i_gate; exact idxP_none (p := fun x => decide (x.name = s)) fun j hj => hn j hj (by omega)]
  (try dsimp only[awp]);conv=>whnf
  refine fM ?_;(conv=>whnf);refine ⟨?_,rfl⟩;conv=>whnf
  repeat' first|exact rfl|exact trivial|exact wR|exact lR _|apply aI

theorem c_letter21 (n : Int) : FnH Tryz.prog 145 [.int .u8 n] [] (.bool (letterN n)) [] := by
 refine FnH.intro lay mixed Tryz.func145 (by kernel_rfl) rfl (by kernel_rfl) rfl fun hok => ?_
 (try dsimp only[argC,succC]);(try dsimp only[awp]);conv=>whnf
 repeat' (first | (refine And.intro (fun _ => ?_) (fun _ => ?_) <;> ((try dsimp only[awp]);(conv=>whnf))))
 all_goals
  refine fM ?_;(conv=>whnf);refine ⟨?_,rfl⟩;conv=>whnf
  try simp_all [letterN]
 all_goals omega

theorem c_digit21 (n : Int) : FnH Tryz.prog 170 [.int .u8 n] [] (.bool (digitN n)) [] := by
 refine FnH.intro lay mixed Tryz.func170 (by kernel_rfl) rfl (by kernel_rfl) rfl fun hok => ?_
 (try dsimp only[argC,succC]);(try dsimp only[awp]);conv=>whnf
 repeat' (first | (refine And.intro (fun _ => ?_) (fun _ => ?_) <;> ((try dsimp only[awp]);(conv=>whnf))))
 all_goals
  refine fM ?_;(conv=>whnf);refine ⟨?_,rfl⟩;conv=>whnf
  try simp_all [digitN]
 all_goals omega

theorem c_inside (n : Int) : FnH Tryz.prog 146 [.int .u8 n] [] (.bool (inN n)) [] := by
 refine FnH.intro lay mixed Tryz.func146 (by kernel_rfl) rfl (by kernel_rfl) rfl fun hok => ?_
 (try dsimp only[argC,succC]);(try dsimp only[awp]);conv=>whnf
 refine .pure _ _ ?_ ⟨rfl, rfl⟩ (c_letter21 n) fun _ => ?_
 ·exact leL_refl _
 (try dsimp only[awp]);conv=>whnf
 refine And.intro (fun h1 => ?_) (fun h1 => ?_)
 ·(try dsimp only[awp]);conv=>whnf
  refine fM ?_;(conv=>whnf);refine ⟨?_,rfl⟩;conv=>whnf
  simp [inN, h1]
 (try dsimp only[awp]);conv=>whnf
 refine .pure _ _ ?_ ⟨rfl, rfl⟩ (c_digit21 n) fun _ => ?_
 ·exact leL_refl _
 (try dsimp only[awp]);conv=>whnf
 refine And.intro (fun h2 => ?_) (fun h2 => ?_)
 ·(try dsimp only[awp]);conv=>whnf
  refine fM ?_;(conv=>whnf);refine ⟨?_,rfl⟩;conv=>whnf
  simp [inN, h2]
 (try dsimp only[awp]);conv=>whnf
 refine And.intro (fun h3 => ?_) (fun h3 => ?_)
 ·(try dsimp only[awp]);conv=>whnf
  refine fM ?_;(conv=>whnf);refine ⟨?_,rfl⟩;conv=>whnf
  simp [inN, h3]
 (try dsimp only[awp]);conv=>whnf
 refine fM ?_;(conv=>whnf);refine ⟨?_,rfl⟩;conv=>whnf
 simp [inN, h1, h2, h3]

theorem c_Name21 (s : Str) : FnH Tryz.prog 94 [.str s] [] (.bool (nameR s)) [] := by
 have cl := c_letter21 (s.getD 0 0).toNat
 obtain ⟨R, hR⟩ : ∃ R, AV.bool (nameR s) = R := ⟨_, rfl⟩
 rw [hR]
 refine FnH.intro lay mixed Tryz.func94 (by kernel_rfl) rfl (by kernel_rfl) rfl fun hok => ?_
 have hl : s.length ≤ 9223372036854775807 := by have := hok.1; simpa [maxL, Ok] using this
 (try dsimp only[argC,succC]);(try dsimp only[awp]);conv=>whnf
 refine And.intro (fun h1 => ?_) (fun h1 => ?_)
 ·obtain rfl : R = .bool false := by rw [← hR]; congr 1; unfold nameR; rw [decide_eq_false (show ¬ 0 < s.length by omega)]; rfl
  (try dsimp only[awp]);conv=>whnf
  refine fM ?_;(conv=>whnf);refine ⟨?_,rfl⟩;conv=>whnf
  repeat' first|exact rfl|exact trivial|exact wR|exact lR _|apply aI
 have h1 : 0 < s.length := by omega
 (try dsimp only[awp]);conv=>whnf
 refine And.intro (fun h2 => ?_) (fun h2 => ?_)
 ·obtain rfl : R = .bool false := by rw [← hR]; congr 1; unfold nameR; rw [decide_eq_false (show ¬ s.length ≤ 24 by omega)]; simp
  (try dsimp only[awp]);conv=>whnf
  refine fM ?_;(conv=>whnf);refine ⟨?_,rfl⟩;conv=>whnf
  repeat' first|exact rfl|exact trivial|exact wR|exact lR _|apply aI
 have h2 : s.length ≤ 24 := by omega
 (try dsimp only[awp]);conv=>whnf
 refine sidx0 h1 ?_
 (try dsimp only[awp]);conv=>whnf
 refine .pure _ _ ?_ ⟨rfl, rfl⟩ cl fun _ => ?_
 ·exact leL_refl _
 (try dsimp only[awp]);conv=>whnf
 refine And.intro (fun h3 => ?_) (fun h3 => ?_)
 ·have h3 : letterN (s.getD 0 0).toNat = false := by simpa using h3
  obtain rfl : R = .bool false := by rw [← hR]; congr 1; unfold nameR; rw [h3]; simp
  (try dsimp only[awp]);conv=>whnf
  refine fM ?_;(conv=>whnf);refine ⟨?_,rfl⟩;conv=>whnf
  repeat' first|exact rfl|exact trivial|exact wR|exact lR _|apply aI
 have h3 : letterN (s.getD 0 0).toNat = true := by simpa using h3
 have hna : nameR s = s.all fun c => inN c.toNat := by unfold nameR; rw [decide_eq_true h1, decide_eq_true h2, h3]; rfl
 (try dsimp only[awp]);conv=>whnf
 refine LoopE.of <| LoopSpec.inv (.refl _ _) (fun (i : Nat) => i ≤ s.length ∧ (s.take i).all (fun c => inN c.toNat) = true) (fun (i : Nat) => [(20, .int .i64 i)]) (fun _ => _) (fun (i : Nat) => s.length - i) 0 ?_ (fun _ => rfl) ?_ ?_
 ·exact ⟨Nat.zero_le _, by simp⟩
 ·repeat' first|exact rfl|exact trivial|exact wR|exact lR _|apply aI
 rintro i ⟨hi, hn⟩ _
 (try dsimp only[awp]);conv=>whnf
 refine And.intro (fun h => ?_) (fun h => ?_)
 ·have hlt : i < s.length := by omega
  have hall := all_take (p := fun c : UInt8 => inN c.toNat) hlt
  have hmem := List.getElem_mem hlt
  have cin := c_inside s[i].toNat
  (try dsimp only[awp]);conv=>whnf
  refine sidx hlt ?_
  (try dsimp only[awp]);conv=>whnf
  refine .pure _ _ ?_ ⟨rfl, rfl⟩ cin fun _ => ?_
  ·exact leL_refl _
  (try dsimp only[awp]);conv=>whnf
  refine And.intro (fun h4 => ?_) (fun h4 => ?_)
  ·have h4 : inN s[i].toNat = false := by simpa using h4
   obtain rfl : R = .bool false := by rw [← hR, hna, all_false (p := fun c : UInt8 => inN c.toNat) hmem h4]
   (try dsimp only[awp]);conv=>whnf
   refine fM ?_;(conv=>whnf);refine ⟨?_,rfl⟩;conv=>whnf
   repeat' first|exact rfl|exact trivial|exact wR|exact lR _|apply aI
  ·have h4 : inN s[i].toNat = true := by simpa using h4
   (try dsimp only[awp]);conv=>whnf
   refine zA ?_;conv=>whnf
   refine ⟨i + 1, ?_, ?_, ?_⟩
   ·exact ⟨hlt, by rw [hall, hn, h4]; rfl⟩
   ·repeat' first|exact rfl|exact trivial|exact wR|exact lR _|apply aI
   ·omega
 ·have hil : i = s.length := by omega
  rw [hil, List.take_length] at hn
  obtain rfl : R = .bool true := by rw [← hR, hna, hn]
  (try dsimp only[awp]);conv=>whnf
  refine fM ?_;(conv=>whnf);refine ⟨?_,rfl⟩;conv=>whnf
  repeat' first|exact rfl|exact trivial|exact wR|exact lR _|apply aI

theorem c_rrate (x : Rat) (hx : shortX x) : FnH Tryz.prog 97 [x.av] [] (.bool (rateB x)) [] := by
 have cv := c_rValid x (by have := hx.1; omega) (by have := hx.2; omega)
 have cs := c_rSign x (by have := hx.1; omega) (by have := hx.2; omega)
 refine FnH.intro lay mixed Tryz.func97 (by kernel_rfl) rfl (by kernel_rfl) rfl fun hok => ?_
 have w := ratWs hok
 rw [signR_eq w.1] at cs
 (try dsimp only[argC,succC]);(try dsimp only[awp]);conv=>whnf
 refine .pure _ _ ?_ ⟨rfl, rfl⟩ cv fun _ => ?_
 ·exact leL_refl _
 (try dsimp only[awp]);conv=>whnf
 refine And.intro (fun h1 => ?_) (fun h1 => ?_)
 ·(try dsimp only[awp]);conv=>whnf
  refine .pure _ _ ?_ ⟨rfl, rfl⟩ cs fun _ => ?_
  ·exact leL_refl _
  (try dsimp only[awp]);conv=>whnf
  refine fM ?_;(conv=>whnf);refine ⟨?_,rfl⟩;conv=>whnf
  simp [rateB, h1]
 ·(try dsimp only[awp]);conv=>whnf
  refine fM ?_;(conv=>whnf);refine ⟨?_,rfl⟩;conv=>whnf
  simp [rateB, h1]

theorem c_rzero (r : Rat) : FnH Tryz.prog 102 [r.av] [] (.bool (zeroR r)) [] := by
 refine FnH.intro lay mixed Tryz.func102 (by kernel_rfl) rfl (by kernel_rfl) rfl fun hok => ?_
 (try dsimp only[argC,succC]);(try dsimp only[awp]);conv=>whnf
 refine And.intro (fun h => ?_) (fun h => ?_)
 all_goals
  (try dsimp only[awp]);conv=>whnf
  (repeat' (first|(refine aI (fun _ => ?_) (fun _ => ?_)<;>(conv=>whnf))|(refine ADraw.auto (by kernel_rfl) ?_;(conv=>whnf))|(refine fM ?_;(conv=>whnf);refine ⟨?_,rfl⟩;(conv=>whnf))|(refine aI (inr64 (by omega) (by omega)) ?_;(conv=>whnf))|(refine aI (by decide) ?_;(conv=>whnf))))
 all_goals (simp_all [zeroR]; done)


theorem c_rProbX (h1 : OneC) (x : Rat) (hx : shortX x) : FnH Tryz.prog 96 [x.av] [] (.bool (prob x)) [] := c_rProb h1 x (by have := hx.1; omega) (by have := hx.2; omega)

def firstR (m : Md) : Int := if nameR m.name = false then 5 else if eventsErr m ≠ 0 then eventsErr m else pagesErr m

theorem c_first (h1 : OneC) (m : Md) (hX : MdX m) (hB : MdB m) (R : AV) (hR : R = .int .i64 (firstR m)) : FnH Tryz.prog 45 [m.av] [] R [] := by
 have ce := fun s => c_revent m s
 have ch := fun s => c_rhouse m s
 have cp := fun s => c_rpage m s
 have hpl := hB.pages
 have hgl := hB.gates.1
 refine FnH.intro lay mixed Tryz.func45 (by kernel_rfl) rfl (by kernel_rfl) rfl fun hok => ?_
 (try dsimp only[argC,succC]);(try dsimp only[awp]);conv=>whnf
 refine .pure _ _ ?_ ⟨rfl, rfl⟩ (c_Name21 m.name) fun _ => ?_
 ·exact leL_refl _
 (try dsimp only[awp]);conv=>whnf
 refine And.intro (fun g0 => ?_) (fun g0 => ?_)
 ·have g0 : nameR m.name = false := by simpa using g0
  obtain rfl : R = .int .i64 5 := by rw [hR, show firstR m = 5 from by unfold firstR; rw [if_pos g0]]
  (try dsimp only[awp]);conv=>whnf
  refine fM ?_;(conv=>whnf);refine ⟨?_,rfl⟩;conv=>whnf
  repeat' first|exact rfl|exact trivial|exact wR|exact lR _|apply aI
 have g0 : ¬ nameR m.name = false := by simpa using g0
 have ofE : ∀ e : Int, e ≠ 0 → eventsErr m = e → firstR m = e := fun e he h => by unfold firstR; rw [if_neg g0, h, if_pos he]
 (try dsimp only[awp]);conv=>whnf
 refine And.intro (fun n1 => ?_) (fun n1 => ?_)
 ·have n1 : 24 < m.evs.length := by simp only [List.length_map] at n1; omega
  obtain rfl : R = .int .i64 4 := by rw [hR, show firstR m = 4 from by exact ofE 4 (by decide) (by unfold eventsErr; rw [if_pos n1])]
  (try dsimp only[awp]);conv=>whnf
  refine fM ?_;(conv=>whnf);refine ⟨?_,rfl⟩;conv=>whnf
  repeat' first|exact rfl|exact trivial|exact wR|exact lR _|apply aI
 have n1 : ¬ 24 < m.evs.length := by simp only [List.length_map] at n1; omega
 (try dsimp only[awp]);conv=>whnf
 refine LoopE.of <| LoopSpec.inv (.refl _ _) (fun (i : Nat) => i ≤ m.evs.length ∧ errL (evErr m) 0 m.evs = errL (evErr m) i (m.evs.drop i)) (fun (i : Nat) => [(23, .int .i64 i)]) (fun _ => _) (fun (i : Nat) => m.evs.length - i) 0 ?_ (fun _ => rfl) ?_ ?_
 ·exact ⟨Nat.zero_le _, rfl⟩
 ·repeat' first|exact rfl|exact trivial|exact wR|exact lR _|apply aI
 rintro i ⟨hi, hn⟩ _
 (try dsimp only[awp]);conv=>whnf
 refine And.intro (fun h => ?_) (fun h => ?_)
 ·have hlt : i < m.evs.length := by simpa using h
  obtain ⟨rp, rf, rr⟩ := hX.evs _ (List.getElem_mem hlt)
  rw [errL_step hlt] at hn
  have cpr := c_rProbX h1 _ rp
  have cf := c_rrate _ rf
  have cr := c_rrate _ rr
  have bad : ∀ e : Int, e ≠ 0 → evErr m i m.evs[i] = e → firstR m = e := by
   intro e he h
   refine ofE e he ?_
   unfold eventsErr
   rw [h, if_pos he] at hn
   rw [if_neg n1, hn, if_pos he]
  (try dsimp only[awp]);conv=>whnf
  refine aidx hlt ?_
  generalize m.evs[i] = x at *
  (try dsimp only[awp]);conv=>whnf
  refine .pure _ _ ?_ ⟨rfl, rfl⟩ (c_Name21 x.name) fun _ => ?_
  ·exact leL_refl _
  (try dsimp only[awp]);conv=>whnf
  refine And.intro (fun g1 => ?_) (fun g1 => ?_)
  ·have g1 : nameR x.name = false := by simpa using g1
   obtain rfl : R = .int .i64 5 := by rw [hR, show firstR m = 5 from by exact bad 5 (by decide) (by unfold evErr; rw [if_pos g1])]
   (try dsimp only[awp]);conv=>whnf
   refine fM ?_;(conv=>whnf);refine ⟨?_,rfl⟩;conv=>whnf
   repeat' first|exact rfl|exact trivial|exact wR|exact lR _|apply aI
  have g1 : ¬ nameR x.name = false := by simpa using g1
  (try dsimp only[awp]);conv=>whnf
  refine .pure _ _ ?_ ⟨rfl, rfl⟩ (ce x.name) fun _ => ?_
  ·exact leL_refl _
  (try dsimp only[awp]);conv=>whnf
  refine And.intro (fun g2 => ?_) (fun g2 => ?_)
  ·obtain rfl : R = .int .i64 6 := by rw [hR, show firstR m = 6 from by exact bad 6 (by decide) (by unfold evErr; rw [if_neg g1, if_pos g2])]
   (try dsimp only[awp]);conv=>whnf
   refine fM ?_;(conv=>whnf);refine ⟨?_,rfl⟩;conv=>whnf
   repeat' first|exact rfl|exact trivial|exact wR|exact lR _|apply aI
  (try dsimp only[awp]);conv=>whnf
  refine .pure _ _ ?_ ⟨rfl, rfl⟩ cpr fun _ => ?_
  ·exact leL_refl _
  (try dsimp only[awp]);conv=>whnf
  refine And.intro (fun g3 => ?_) (fun g3 => ?_)
  ·have g3 : prob x.p = false := by simpa using g3
   (try dsimp only[awp]);conv=>whnf
   refine And.intro (fun _ => ?_) (fun h => by exfalso; simp [g3] at h)
   obtain rfl : R = .int .i64 3 := by rw [hR, show firstR m = 3 from by exact bad 3 (by decide) (by unfold evErr; rw [if_neg g1, if_neg g2, if_pos g3])]
   (try dsimp only[awp]);conv=>whnf
   refine fM ?_;(conv=>whnf);refine ⟨?_,rfl⟩;conv=>whnf
   repeat' first|exact rfl|exact trivial|exact wR|exact lR _|apply aI
  have g3 : ¬ prob x.p = false := by simpa using g3
  (try dsimp only[awp]);conv=>whnf
  refine .pure _ _ ?_ ⟨rfl, rfl⟩ cf fun _ => ?_
  ·exact leL_refl _
  (try dsimp only[awp]);conv=>whnf
  refine And.intro (fun g4 => ?_) (fun g4 => ?_)
  ·have g4 : rateB x.fail = false := by simpa using g4
   (try dsimp only[awp]);conv=>whnf
   refine And.intro (fun _ => ?_) (fun h => by exfalso; simp [g4] at h)
   obtain rfl : R = .int .i64 3 := by rw [hR, show firstR m = 3 from by exact bad 3 (by decide) (by unfold evErr; rw [if_neg g1, if_neg g2, if_neg g3, if_pos g4])]
   (try dsimp only[awp]);conv=>whnf
   refine fM ?_;(conv=>whnf);refine ⟨?_,rfl⟩;conv=>whnf
   repeat' first|exact rfl|exact trivial|exact wR|exact lR _|apply aI
  have g4 : ¬ rateB x.fail = false := by simpa using g4
  (try dsimp only[awp]);conv=>whnf
  refine .pure _ _ ?_ ⟨rfl, rfl⟩ cr fun _ => ?_
  ·exact leL_refl _
  (try dsimp only[awp]);conv=>whnf
  refine And.intro (fun g5 => ?_) (fun g5 => ?_)
  ·have g5 : rateB x.repair = false := by simpa using g5
   (try dsimp only[awp]);conv=>whnf
   refine And.intro (fun _ => ?_) (fun h => by exfalso; simp [g5] at h)
   obtain rfl : R = .int .i64 3 := by rw [hR, show firstR m = 3 from by exact bad 3 (by decide) (by unfold evErr; rw [if_neg g1, if_neg g2, if_neg g3, if_neg g4, if_pos g5])]
   (try dsimp only[awp]);conv=>whnf
   refine fM ?_;(conv=>whnf);refine ⟨?_,rfl⟩;conv=>whnf
   repeat' first|exact rfl|exact trivial|exact wR|exact lR _|apply aI
  have g5 : ¬ rateB x.repair = false := by simpa using g5
  (try dsimp only[awp]);conv=>whnf
  refine And.intro (fun g6 => ?_) (fun g6 => ?_)
  ·(try dsimp only[awp]);conv=>whnf
   refine And.intro (fun _ => ?_) (fun h => by exfalso; exact h g6)
   obtain rfl : R = .int .i64 3 := by rw [hR, show firstR m = 3 from by exact bad 3 (by decide) (by unfold evErr; rw [if_neg g1, if_neg g2, if_neg g3, if_neg g4, if_neg g5, if_pos g6])]
   (try dsimp only[awp]);conv=>whnf
   refine fM ?_;(conv=>whnf);refine ⟨?_,rfl⟩;conv=>whnf
   repeat' first|exact rfl|exact trivial|exact wR|exact lR _|apply aI
  (try dsimp only[awp]);conv=>whnf
  refine And.intro (fun g7 => ?_) (fun g7 => ?_)
  ·obtain rfl : R = .int .i64 3 := by rw [hR, show firstR m = 3 from by exact bad 3 (by decide) (by unfold evErr; rw [if_neg g1, if_neg g2, if_neg g3, if_neg g4, if_neg g5, if_neg g6, if_pos g7])]
   (try dsimp only[awp]);conv=>whnf
   refine fM ?_;(conv=>whnf);refine ⟨?_,rfl⟩;conv=>whnf
   repeat' first|exact rfl|exact trivial|exact wR|exact lR _|apply aI
  (try dsimp only[awp]);conv=>whnf
  refine zA ?_;conv=>whnf
  refine ⟨i + 1, ?_, ?_, ?_⟩
  ·exact ⟨hlt, by rw [hn, if_neg (by rw [show evErr m i x = 0 from by unfold evErr; rw [if_neg g1, if_neg g2, if_neg g3, if_neg g4, if_neg g5, if_neg g6, if_neg g7]]; simp)]⟩
  ·refine ⟨?_, .mk ?_ ⟨by simp, trivial⟩⟩
   ·repeat' first|exact rfl|exact trivial|exact wR|exact lR _|apply aI
   ·repeat' first|exact rfl|exact trivial|exact wR|exact lR _|apply aI
  ·omega
 have hil : i = m.evs.length := by have : ¬ i < m.evs.length := by simpa using h
                                   omega
 rw [errL_end (by omega)] at hn
 clear h
 subst hil
 have e1 : ¬ errL (evErr m) 0 m.evs ≠ 0 := by rw [hn]; simp
 (try dsimp only[awp]);conv=>whnf
 refine And.intro (fun n2 => ?_) (fun n2 => ?_)
 ·have n2 : 16 < m.hs.length := by simp only [List.length_map] at n2; omega
  obtain rfl : R = .int .i64 4 := by rw [hR, show firstR m = 4 from by exact ofE 4 (by decide) (by unfold eventsErr; rw [if_neg n1, if_neg e1, if_pos n2])]
  (try dsimp only[awp]);conv=>whnf
  refine fM ?_;(conv=>whnf);refine ⟨?_,rfl⟩;conv=>whnf
  repeat' first|exact rfl|exact trivial|exact wR|exact lR _|apply aI
 have n2 : ¬ 16 < m.hs.length := by simp only [List.length_map] at n2; omega
 clear hn hi
 (try dsimp only[awp]);conv=>whnf
 refine LoopE.of <| LoopSpec.inv (.refl _ _) (fun (i : Nat) => i ≤ m.hs.length ∧ errL (hsErr m) 0 m.hs = errL (hsErr m) i (m.hs.drop i)) (fun (i : Nat) => [(67, .int .i64 i)]) (fun _ => _) (fun (i : Nat) => m.hs.length - i) 0 ?_ (fun _ => rfl) ?_ ?_
 ·exact ⟨Nat.zero_le _, rfl⟩
 ·repeat' first|exact rfl|exact trivial|exact wR|exact lR _|apply aI
 rintro i ⟨hi, hn⟩ _
 (try dsimp only[awp]);conv=>whnf
 refine And.intro (fun h => ?_) (fun h => ?_)
 ·have hlt : i < m.hs.length := by simpa using h
  rw [errL_step hlt] at hn
  have bad : ∀ e : Int, e ≠ 0 → hsErr m i m.hs[i] = e → firstR m = e := by
   intro e he h
   refine ofE e he ?_
   unfold eventsErr
   rw [h, if_pos he] at hn
   rw [if_neg n1, if_neg e1, if_neg n2, hn]
  (try dsimp only[awp]);conv=>whnf
  refine aidx hlt ?_
  generalize m.hs[i] = x at *
  (try dsimp only[awp]);conv=>whnf
  refine .pure _ _ ?_ ⟨rfl, rfl⟩ (c_Name21 x.name) fun _ => ?_
  ·exact leL_refl _
  (try dsimp only[awp]);conv=>whnf
  refine And.intro (fun g1 => ?_) (fun g1 => ?_)
  ·have g1 : nameR x.name = false := by simpa using g1
   obtain rfl : R = .int .i64 5 := by rw [hR, show firstR m = 5 from by exact bad 5 (by decide) (by unfold hsErr; rw [if_pos g1])]
   (try dsimp only[awp]);conv=>whnf
   refine fM ?_;(conv=>whnf);refine ⟨?_,rfl⟩;conv=>whnf
   repeat' first|exact rfl|exact trivial|exact wR|exact lR _|apply aI
  have g1 : ¬ nameR x.name = false := by simpa using g1
  (try dsimp only[awp]);conv=>whnf
  refine .pure _ _ ?_ ⟨rfl, rfl⟩ (ce x.name) fun _ => ?_
  ·exact leL_refl _
  (try dsimp only[awp]);conv=>whnf
  refine And.intro (fun g2 => ?_) (fun g2 => ?_)
  ·(try dsimp only[awp]);conv=>whnf
   refine And.intro (fun _ => ?_) (fun h => by exfalso; exact h g2)
   obtain rfl : R = .int .i64 6 := by rw [hR, show firstR m = 6 from by exact bad 6 (by decide) (by unfold hsErr; rw [if_neg g1, if_pos g2])]
   (try dsimp only[awp]);conv=>whnf
   refine fM ?_;(conv=>whnf);refine ⟨?_,rfl⟩;conv=>whnf
   repeat' first|exact rfl|exact trivial|exact wR|exact lR _|apply aI
  (try dsimp only[awp]);conv=>whnf
  refine .pure _ _ ?_ ⟨rfl, rfl⟩ (ch x.name) fun _ => ?_
  ·exact leL_refl _
  (try dsimp only[awp]);conv=>whnf
  refine And.intro (fun g3 => ?_) (fun g3 => ?_)
  ·obtain rfl : R = .int .i64 6 := by rw [hR, show firstR m = 6 from by exact bad 6 (by decide) (by unfold hsErr; rw [if_neg g1, if_neg g2, if_pos g3])]
   (try dsimp only[awp]);conv=>whnf
   refine fM ?_;(conv=>whnf);refine ⟨?_,rfl⟩;conv=>whnf
   repeat' first|exact rfl|exact trivial|exact wR|exact lR _|apply aI
  (try dsimp only[awp]);conv=>whnf
  refine zA ?_;conv=>whnf
  refine ⟨i + 1, ?_, ?_, ?_⟩
  ·exact ⟨hlt, by rw [hn, if_neg (by rw [show hsErr m i x = 0 from by unfold hsErr; rw [if_neg g1, if_neg g2, if_neg g3]]; simp)]⟩
  ·refine ⟨?_, .mk ?_ ⟨by simp, trivial⟩⟩
   ·repeat' first|exact rfl|exact trivial|exact wR|exact lR _|apply aI
   ·repeat' first|exact rfl|exact trivial|exact wR|exact lR _|apply aI
  ·omega
 have hil : i = m.hs.length := by have : ¬ i < m.hs.length := by simpa using h
                                  omega
 rw [errL_end (by omega)] at hn
 have eE : eventsErr m = 0 := by unfold eventsErr; rw [if_neg n1, if_neg e1, if_neg n2, hn]
 have ofP : firstR m = pagesErr m := by unfold firstR; rw [if_neg g0, if_neg (by rw [eE]; simp)]
 clear h hn hi ofE
 (try dsimp only[awp]);conv=>whnf
 refine LoopE.of <| LoopSpec.inv (.refl _ _) (fun (i : Nat) => i ≤ m.pages.length) (fun (i : Nat) => [(96, .int .i64 i), (7, .int .i64 ((m.pages.take i).foldl (fun n x => n + x.gates.length) m.gates.length : Nat))]) (fun _ => _) (fun (i : Nat) => m.pages.length - i) 0 ?_ (fun _ => rfl) ?_ ?_
 ·exact Nat.zero_le _
 ·repeat' first|exact rfl|exact trivial|exact wR|exact lR _|apply aI
  simp
 rintro i hi _
 (try dsimp only[awp]);conv=>whnf
 refine And.intro (fun h => ?_) (fun h => ?_)
 ·have hlt : i < m.pages.length := by simpa using h
  have hs := foldl_take (f := fun (n : Nat) (x : Pg) => n + x.gates.length) (s := m.gates.length) hlt
  have hb := total_le (m.pages.take i) m.gates.length fun p hp => (hB.pgates p (List.mem_of_mem_take hp)).1
  rw [List.length_take] at hb
  have hx := (hB.pgates _ (List.getElem_mem hlt)).1
  generalize (m.pages.take i).foldl (fun n x => n + x.gates.length) m.gates.length = y at *
  (try dsimp only[awp]);conv=>whnf
  refine aidx hlt ?_
  generalize m.pages[i] = x at *
  (try dsimp only[awp]);conv=>whnf
  refine ⟨inr64 (by simp; omega) (by simp; omega), ?_⟩
  (try dsimp only[awp]);conv=>whnf
  refine zA ?_;conv=>whnf
  refine ⟨i + 1, ?_, ?_, ?_⟩
  ·exact hlt
  ·rw [hs]
   refine ⟨?_, .mk ?_ ⟨by simp, trivial⟩⟩
   ·repeat' first|exact rfl|exact trivial|exact wR|exact lR _|apply aI
    simp
   ·repeat' first|exact rfl|exact trivial|exact wR|exact lR _|apply aI
  ·omega
 have hil : i = m.pages.length := by have : ¬ i < m.pages.length := by simpa using h
                                     omega
 subst hil
 rw [List.take_length, show m.pages.foldl (fun n x => n + x.gates.length) m.gates.length = totalM m from rfl]
 (try dsimp only[awp]);conv=>whnf
 refine And.intro (fun p1 => ?_) (fun p1 => ?_)
 ·have p1 : 8 < m.pages.length := by simp only [List.length_map] at p1; omega
  obtain rfl : R = .int .i64 4 := by rw [hR, show firstR m = 4 from by rw [ofP]; unfold pagesErr; rw [if_pos p1]]
  (try dsimp only[awp]);conv=>whnf
  refine fM ?_;(conv=>whnf);refine ⟨?_,rfl⟩;conv=>whnf
  repeat' first|exact rfl|exact trivial|exact wR|exact lR _|apply aI
 have p1 : ¬ 8 < m.pages.length := by simp only [List.length_map] at p1; omega
 (try dsimp only[awp]);conv=>whnf
 refine And.intro (fun p2 => ?_) (fun p2 => ?_)
 ·have p2 : 64 < totalM m := by omega
  obtain rfl : R = .int .i64 4 := by rw [hR, show firstR m = 4 from by rw [ofP]; unfold pagesErr; rw [if_neg p1, if_pos p2]]
  (try dsimp only[awp]);conv=>whnf
  refine fM ?_;(conv=>whnf);refine ⟨?_,rfl⟩;conv=>whnf
  repeat' first|exact rfl|exact trivial|exact wR|exact lR _|apply aI
 have p2 : ¬ 64 < totalM m := by omega
 clear hi h
 (try dsimp only[awp]);conv=>whnf
 refine LoopE.of <| LoopSpec.inv (.refl _ _) (fun (i : Nat) => i ≤ m.pages.length ∧ errL (pgErr m) 0 m.pages = errL (pgErr m) i (m.pages.drop i)) (fun (i : Nat) => [(117, .int .i64 i)]) (fun _ => _) (fun (i : Nat) => m.pages.length - i) 0 ?_ (fun _ => rfl) ?_ ?_
 ·exact ⟨Nat.zero_le _, rfl⟩
 ·repeat' first|exact rfl|exact trivial|exact wR|exact lR _|apply aI
 rintro i ⟨hi, hn⟩ _
 (try dsimp only[awp]);conv=>whnf
 refine And.intro (fun h => ?_) (fun h => ?_)
 ·have hlt : i < m.pages.length := by simpa using h
  rw [errL_step hlt] at hn
  have bad : ∀ e : Int, e ≠ 0 → pgErr m i m.pages[i] = e → firstR m = e := by
   intro e he h
   rw [ofP]
   unfold pagesErr
   rw [h, if_pos he] at hn
   rw [if_neg p1, if_neg p2, hn]
  (try dsimp only[awp]);conv=>whnf
  refine aidx hlt ?_
  generalize m.pages[i] = x at *
  (try dsimp only[awp]);conv=>whnf
  refine .pure _ _ ?_ ⟨rfl, rfl⟩ (c_Name21 x.name) fun _ => ?_
  ·exact leL_refl _
  (try dsimp only[awp]);conv=>whnf
  refine And.intro (fun g1 => ?_) (fun g1 => ?_)
  ·have g1 : nameR x.name = false := by simpa using g1
   obtain rfl : R = .int .i64 5 := by rw [hR, show firstR m = 5 from by exact bad 5 (by decide) (by unfold pgErr; rw [if_pos g1])]
   (try dsimp only[awp]);conv=>whnf
   refine fM ?_;(conv=>whnf);refine ⟨?_,rfl⟩;conv=>whnf
   repeat' first|exact rfl|exact trivial|exact wR|exact lR _|apply aI
  have g1 : ¬ nameR x.name = false := by simpa using g1
  (try dsimp only[awp]);conv=>whnf
  refine .pure _ _ ?_ ⟨rfl, rfl⟩ (cp x.name) fun _ => ?_
  ·exact leL_refl _
  (try dsimp only[awp]);conv=>whnf
  refine And.intro (fun g2 => ?_) (fun g2 => ?_)
  ·obtain rfl : R = .int .i64 6 := by rw [hR, show firstR m = 6 from by exact bad 6 (by decide) (by unfold pgErr; rw [if_neg g1, if_pos g2])]
   (try dsimp only[awp]);conv=>whnf
   refine fM ?_;(conv=>whnf);refine ⟨?_,rfl⟩;conv=>whnf
   repeat' first|exact rfl|exact trivial|exact wR|exact lR _|apply aI
  (try dsimp only[awp]);conv=>whnf
  refine zA ?_;conv=>whnf
  refine ⟨i + 1, ?_, ?_, ?_⟩
  ·exact ⟨hlt, by rw [hn, if_neg (by rw [show pgErr m i x = 0 from by unfold pgErr; rw [if_neg g1, if_neg g2]]; simp)]⟩
  ·refine ⟨?_, .mk ?_ ⟨by simp, trivial⟩⟩
   ·repeat' first|exact rfl|exact trivial|exact wR|exact lR _|apply aI
   ·repeat' first|exact rfl|exact trivial|exact wR|exact lR _|apply aI
  ·omega
 have hil : i = m.pages.length := by have : ¬ i < m.pages.length := by simpa using h
                                     omega
 rw [errL_end (by omega)] at hn
 obtain rfl : R = .int .i64 0 := by rw [hR, show firstR m = 0 from by rw [ofP]; unfold pagesErr; rw [if_neg p1, if_neg p2, hn]]
 (try dsimp only[awp]);conv=>whnf
 refine fM ?_;(conv=>whnf);refine ⟨?_,rfl⟩;conv=>whnf
 repeat' first|exact rfl|exact trivial|exact wR|exact lR _|apply aI

theorem c_bounds22 (k : Int) (R : AV) (hR : R = .tup [.int .i64 (boundsR k).1, .int .i64 (boundsR k).2]) : FnH Tryz.prog 100 [.int .i64 k] [] R [] := by
 obtain ⟨x, hx⟩ : ∃ x, boundsR k = x := ⟨_, rfl⟩
 rw [hx] at hR
 subst hR
 refine FnH.intro lay mixed Tryz.func100 (by kernel_rfl) rfl (by kernel_rfl) rfl fun hok => ?_
 (try dsimp only[argC,succC]);(try dsimp only[awp]);conv=>whnf
 repeat' (first | (refine And.intro (fun _ => ?_) (fun _ => ?_) <;> ((try dsimp only[awp]);(conv=>whnf))))
 all_goals
  refine fM ?_;(conv=>whnf);refine ⟨?_,rfl⟩;conv=>whnf
  try simp_all [boundsR]
 all_goals
  subst hx
  repeat' first|exact rfl|exact trivial|exact wR|exact lR _|apply aI






theorem bounds_zero (k : Int) : (boundsR k).2 = 0 ↔ (k < 0 ∨ 8 < k) := by
 unfold boundsR
 split
 ·constructor
  ·intro h; cases h
  ·intro h; omega
 split
 ·constructor
  ·intro h; cases h
  ·intro h; omega
 split
 ·constructor
  ·intro h; cases h
  ·intro h; omega
 split
 ·constructor
  ·intro h; cases h
  ·intro h; omega
 ·constructor
  ·intro _; omega
  ·intro _; rfl

theorem bounds_args {k n : Int} (h : (boundsR k).2 ≠ 0) : argsR k n = (decide ((boundsR k).1 ≤ n) && decide (n ≤ (boundsR k).2)) := by
 have h0 : ¬ (k < 0 ∨ 8 < k) := fun e => h ((bounds_zero k).2 e)
 unfold boundsR at *
 unfold argsR
 by_cases h3 : k = 3
 ·subst h3; rw [Bool.eq_iff_iff]; simp; omega
 rw [if_neg h3]
 by_cases h5 : k = 5
 ·subst h5; rw [Bool.eq_iff_iff]; simp; omega
 rw [if_neg h5]
 by_cases h6 : k = 6 ∨ k = 7 ∨ k = 8
 ·rw [if_pos h6, if_neg (by omega), if_neg h3, if_neg h5, if_pos h6]
  simp
 ·rw [if_neg h6, if_pos (by omega)]
  simp


theorem c_rGates (m : Md) (a : Int) (h : a = -1 ∨ (0 ≤ a ∧ a < (m.pages.length : Int))) : FnH Tryz.prog 46 [m.av, .int .i64 a] [] (gL (gatesM m a)) [] := by
 refine FnH.intro lay mixed Tryz.func46 (by kernel_rfl) rfl (by kernel_rfl) rfl fun hok => ?_
 (try dsimp only[argC,succC]);(try dsimp only[awp]);conv=>whnf
 refine And.intro (fun h1 => ?_) (fun h1 => ?_)
 ·rw [show gatesM m a = m.gates from if_pos (by omega)]
  (try dsimp only[awp]);conv=>whnf
  refine fM ?_;(conv=>whnf);refine ⟨?_,rfl⟩;conv=>whnf
  repeat' first|exact rfl|exact trivial|exact wR|exact lR _|apply aI
 ·rw [show gatesM m a = (m.pages.getD a.toNat default).gates from if_neg (by omega)]
  (try dsimp only[awp]);conv=>whnf
  refine aidxD default (by omega) ?_
  (try dsimp only[awp]);conv=>whnf
  refine fM ?_;(conv=>whnf);refine ⟨?_,rfl⟩;conv=>whnf
  repeat' first|exact rfl|exact trivial|exact wR|exact lR _|apply aI

theorem c_shape (h1 : OneC) (m : Md) (a : Int) (i : Nat) (ha : a = -1 ∨ (0 ≤ a ∧ a < (m.pages.length : Int))) (hi : i < (gatesM m a).length) (hX : shortX (gatesM m a)[i].dorm) (R : AV) (hR : R = .int .i64 (gateErrM m a i (gatesM m a)[i])) :
  FnH Tryz.prog 47 [m.av, .int .i64 a, .int .i64 i] [] R [] := by
 have ce := fun s => c_revent m s
 have ch := fun s => c_rhouse m s
 have cg := fun s => c_rgate (gatesM m a) s
 have cG := c_rGates m a ha
 refine FnH.intro lay mixed Tryz.func47 (by kernel_rfl) rfl (by kernel_rfl) rfl fun hok => ?_
 (try dsimp only[argC,succC]);(try dsimp only[awp]);conv=>whnf
 refine .pure _ _ ?_ ⟨rfl, rfl⟩ cG fun hokl => ?_
 ·exact leL_refl _
 have hal : (gatesM m a)[i].ins.length ≤ 9223372036854775807 := by
  have h2 := OkL_map hokl.2 _ (List.getElem_mem hi)
  simp only [Ok, OkL] at h2
  simpa [maxL] using h2.2.2.2.1.1
 (try dsimp only[awp]);conv=>whnf
 refine aidx hi ?_
 generalize (gatesM m a)[i] = x at *
 have cb := c_bounds22 x.kind _ rfl
 have cp := c_rProbX h1 _ hX
 have cz := c_rzero x.dorm
 have bz := bounds_zero x.kind
 have ba := bounds_args (k := x.kind) (n := x.ins.length)
 generalize boundsR x.kind = bd at *
 obtain ⟨b1, b2⟩ := bd
 (try dsimp only[awp]);conv=>whnf
 refine .pure _ _ ?_ ⟨rfl, rfl⟩ cb fun _ => ?_
 ·exact leL_refl _
 (try dsimp only[awp]);conv=>whnf
 refine .pure _ _ ?_ ⟨rfl, rfl⟩ (c_Name21 x.name) fun _ => ?_
 ·exact leL_refl _
 (try dsimp only[awp]);conv=>whnf
 refine And.intro (fun g1 => ?_) (fun g1 => ?_)
 ·have g1 : nameR x.name = false := by simpa using g1
  obtain rfl : R = .int .i64 5 := by rw [hR, show gateErrM m a i x = 5 from by unfold gateErrM; rw [if_pos g1]]
  (try dsimp only[awp]);conv=>whnf
  refine fM ?_;(conv=>whnf);refine ⟨?_,rfl⟩;conv=>whnf
  repeat' first|exact rfl|exact trivial|exact wR|exact lR _|apply aI
 have g1 : ¬ nameR x.name = false := by simpa using g1
 (try dsimp only[awp]);conv=>whnf
 refine .pure _ _ ?_ ⟨rfl, rfl⟩ (ce x.name) fun _ => ?_
 ·exact leL_refl _
 (try dsimp only[awp]);conv=>whnf
 refine And.intro (fun g2 => ?_) (fun g2 => ?_)
 ·(try dsimp only[awp]);conv=>whnf
  refine And.intro (fun _ => ?_) (fun h => absurd g2 h)
  obtain rfl : R = .int .i64 6 := by rw [hR, show gateErrM m a i x = 6 from by unfold gateErrM; rw [if_neg g1, if_pos g2]]
  (try dsimp only[awp]);conv=>whnf
  refine fM ?_;(conv=>whnf);refine ⟨?_,rfl⟩;conv=>whnf
  repeat' first|exact rfl|exact trivial|exact wR|exact lR _|apply aI
 (try dsimp only[awp]);conv=>whnf
 refine .pure _ _ ?_ ⟨rfl, rfl⟩ (ch x.name) fun _ => ?_
 ·exact leL_refl _
 (try dsimp only[awp]);conv=>whnf
 refine And.intro (fun g3 => ?_) (fun g3 => ?_)
 ·(try dsimp only[awp]);conv=>whnf
  refine And.intro (fun _ => ?_) (fun h => absurd g3 h)
  obtain rfl : R = .int .i64 6 := by rw [hR, show gateErrM m a i x = 6 from by unfold gateErrM; rw [if_neg g1, if_neg g2, if_pos g3]]
  (try dsimp only[awp]);conv=>whnf
  refine fM ?_;(conv=>whnf);refine ⟨?_,rfl⟩;conv=>whnf
  repeat' first|exact rfl|exact trivial|exact wR|exact lR _|apply aI
 (try dsimp only[awp]);conv=>whnf
 refine ADraw.auto (by kernel_rfl) ?_;conv=>whnf
 refine ACallP.pure _ _ ?_ ⟨rfl, rfl⟩ cG ?_
 ·exact leL_refl _
 (try dsimp only[awp]);conv=>whnf
 refine ACallP.pure _ _ ?_ ⟨rfl, rfl⟩ (cg x.name) ?_
 ·exact leL_refl _
 (try dsimp only[awp]);conv=>whnf
 refine And.intro (fun g4 => ?_) (fun g4 => ?_)
 ·obtain rfl : R = .int .i64 6 := by rw [hR, show gateErrM m a i x = 6 from by unfold gateErrM; rw [if_neg g1, if_neg g2, if_neg g3, if_pos g4]]
  (try dsimp only[awp]);conv=>whnf
  refine fM ?_;(conv=>whnf);refine ⟨?_,rfl⟩;conv=>whnf
  repeat' first|exact rfl|exact trivial|exact wR|exact lR _|apply aI
 have hge : ∀ e, mgErr x = e → gateErrM m a i x = e := fun e h => by unfold gateErrM; rw [if_neg g1, if_neg g2, if_neg g3, if_neg g4, h]
 (try dsimp only[awp]);conv=>whnf
 refine And.intro (fun n0 => ?_) (fun n0 => ?_)
 ·have n1 := bz.1 n0
  have hm : mgErr x = 7 := by
   unfold mgErr
   by_cases n2 : x.kind < 0
   ·rw [if_pos n2]
   ·rw [if_neg n2, if_pos (by omega)]
  obtain rfl : R = .int .i64 7 := by rw [hR, hge 7 hm]
  (try dsimp only[awp]);conv=>whnf
  refine fM ?_;(conv=>whnf);refine ⟨?_,rfl⟩;conv=>whnf
  repeat' first|exact rfl|exact trivial|exact wR|exact lR _|apply aI
 have n1 : ¬ x.kind < 0 := fun h => n0 (bz.2 (.inl h))
 have n2 : ¬ 8 < x.kind := fun h => n0 (bz.2 (.inr h))
 have ba := ba n0
 dsimp only at ba
 (try dsimp only[awp]);conv=>whnf
 refine And.intro (fun m1 => ?_) (fun m1 => ?_)
 ·have n3 : argsR x.kind x.ins.length = false := by rw [ba]; simp at m1 ⊢; omega
  (try dsimp only[awp]);conv=>whnf
  refine And.intro (fun _ => ?_) (fun h => absurd m1 h)
  obtain rfl : R = .int .i64 11 := by rw [hR, hge 11 (by unfold mgErr; rw [if_neg n1, if_neg n2, if_pos n3])]
  (try dsimp only[awp]);conv=>whnf
  refine fM ?_;(conv=>whnf);refine ⟨?_,rfl⟩;conv=>whnf
  repeat' first|exact rfl|exact trivial|exact wR|exact lR _|apply aI
 (try dsimp only[awp]);conv=>whnf
 refine And.intro (fun m2 => ?_) (fun m2 => ?_)
 ·have n3 : argsR x.kind x.ins.length = false := by rw [ba]; simp at m2 ⊢; omega
  obtain rfl : R = .int .i64 11 := by rw [hR, hge 11 (by unfold mgErr; rw [if_neg n1, if_neg n2, if_pos n3])]
  (try dsimp only[awp]);conv=>whnf
  refine fM ?_;(conv=>whnf);refine ⟨?_,rfl⟩;conv=>whnf
  repeat' first|exact rfl|exact trivial|exact wR|exact lR _|apply aI
 have n3 : ¬ argsR x.kind x.ins.length = false := by rw [ba]; simp at m1 m2 ⊢; omega
 clear m1 m2 ba bz n0
 (try dsimp only[awp]);conv=>whnf
 refine And.intro (fun k2 => ?_) (fun k2 => ?_)
 ·have n5 : ¬ (x.kind ≠ 2 ∧ x.k ≠ 0) := fun h => h.1 k2
  (try dsimp only[awp]);conv=>whnf
  refine And.intro (fun kk => ?_) (fun kk => ?_)
  ·obtain rfl : R = .int .i64 3 := by rw [hR, hge 3 (by unfold mgErr; rw [if_neg n1, if_neg n2, if_neg n3, if_pos ⟨k2, .inl kk⟩])]
   (try dsimp only[awp]);conv=>whnf
   refine fM ?_;(conv=>whnf);refine ⟨?_,rfl⟩;conv=>whnf
   repeat' first|exact rfl|exact trivial|exact wR|exact lR _|apply aI
  (try dsimp only[awp]);conv=>whnf
  refine And.intro (fun kl => ?_) (fun kl => ?_)
  ·have kl : (x.ins.length : Int) < x.k := by simpa using kl
   obtain rfl : R = .int .i64 3 := by rw [hR, hge 3 (by unfold mgErr; rw [if_neg n1, if_neg n2, if_neg n3, if_pos ⟨k2, .inr kl⟩])]
   (try dsimp only[awp]);conv=>whnf
   refine fM ?_;(conv=>whnf);refine ⟨?_,rfl⟩;conv=>whnf
   repeat' first|exact rfl|exact trivial|exact wR|exact lR _|apply aI
  have kl : ¬ (x.ins.length : Int) < x.k := by simpa using kl
  have n4 : ¬ (x.kind = 2 ∧ (x.k < 1 ∨ (x.ins.length : Int) < x.k)) := by omega
  (try dsimp only[awp]);conv=>whnf
  refine And.intro (fun h => absurd k2 h) (fun _ => ?_)
  (try dsimp only[awp]);conv=>whnf
  refine And.intro (fun k7 => ?_) (fun k7 => ?_)
  ·(try dsimp only[awp]);conv=>whnf
   refine .pure _ _ ?_ ⟨rfl, rfl⟩ cp fun _ => ?_
   ·exact leL_refl _
   (try dsimp only[awp]);conv=>whnf
   refine And.intro (fun kp => ?_) (fun kp => ?_)
   ·have kp : prob x.dorm = false := by simpa using kp
    obtain rfl : R = .int .i64 3 := by rw [hR, hge 3 (by unfold mgErr; rw [if_neg n1, if_neg n2, if_neg n3, if_neg n4, if_neg n5, if_pos ⟨k7, kp⟩])]
    (try dsimp only[awp]);conv=>whnf
    refine fM ?_;(conv=>whnf);refine ⟨?_,rfl⟩;conv=>whnf
    repeat' first|exact rfl|exact trivial|exact wR|exact lR _|apply aI
   have kp : prob x.dorm = true := by simpa using kp
   (try dsimp only[awp]);conv=>whnf
   refine And.intro (fun h => absurd k7 h) (fun _ => ?_)
   obtain rfl : R = .int .i64 0 := by rw [hR, hge 0 (by unfold mgErr; rw [if_neg n1, if_neg n2, if_neg n3, if_neg n4, if_neg n5, if_neg (fun h => by rw [kp] at h; cases h.2), if_neg (fun h => h.1 k7)])]
   (try dsimp only[awp]);conv=>whnf
   refine fM ?_;(conv=>whnf);refine ⟨?_,rfl⟩;conv=>whnf
   repeat' first|exact rfl|exact trivial|exact wR|exact lR _|apply aI
  ·(try dsimp only[awp]);conv=>whnf
   refine And.intro (fun _ => ?_) (fun h => absurd k7 h)
   (try dsimp only[awp]);conv=>whnf
   refine .pure _ _ ?_ ⟨rfl, rfl⟩ cz fun _ => ?_
   ·exact leL_refl _
   (try dsimp only[awp]);conv=>whnf
   refine And.intro (fun kz => ?_) (fun kz => ?_)
   ·have kz : zeroR x.dorm = false := by simpa using kz
    obtain rfl : R = .int .i64 2 := by rw [hR, hge 2 (by unfold mgErr; rw [if_neg n1, if_neg n2, if_neg n3, if_neg n4, if_neg n5, if_neg (fun h => k7 h.1), if_pos ⟨k7, kz⟩])]
    (try dsimp only[awp]);conv=>whnf
    refine fM ?_;(conv=>whnf);refine ⟨?_,rfl⟩;conv=>whnf
    repeat' first|exact rfl|exact trivial|exact wR|exact lR _|apply aI
   have kz : zeroR x.dorm = true := by simpa using kz
   obtain rfl : R = .int .i64 0 := by rw [hR, hge 0 (by unfold mgErr; rw [if_neg n1, if_neg n2, if_neg n3, if_neg n4, if_neg n5, if_neg (fun h => k7 h.1), if_neg (fun h => by rw [kz] at h; cases h.2)])]
   (try dsimp only[awp]);conv=>whnf
   refine fM ?_;(conv=>whnf);refine ⟨?_,rfl⟩;conv=>whnf
   repeat' first|exact rfl|exact trivial|exact wR|exact lR _|apply aI
 ·have n4 : ¬ (x.kind = 2 ∧ (x.k < 1 ∨ (x.ins.length : Int) < x.k)) := by omega
  (try dsimp only[awp]);conv=>whnf
  refine And.intro (fun _ => ?_) (fun h => absurd k2 h)
  (try dsimp only[awp]);conv=>whnf
  refine And.intro (fun kk => ?_) (fun kk => ?_)
  ·obtain rfl : R = .int .i64 2 := by rw [hR, hge 2 (by unfold mgErr; rw [if_neg n1, if_neg n2, if_neg n3, if_neg n4, if_pos ⟨k2, kk⟩])]
   (try dsimp only[awp]);conv=>whnf
   refine fM ?_;(conv=>whnf);refine ⟨?_,rfl⟩;conv=>whnf
   repeat' first|exact rfl|exact trivial|exact wR|exact lR _|apply aI
  have n5 : ¬ (x.kind ≠ 2 ∧ x.k ≠ 0) := fun h => kk h.2
  (try dsimp only[awp]);conv=>whnf
  refine And.intro (fun k7 => ?_) (fun k7 => ?_)
  ·(try dsimp only[awp]);conv=>whnf
   refine .pure _ _ ?_ ⟨rfl, rfl⟩ cp fun _ => ?_
   ·exact leL_refl _
   (try dsimp only[awp]);conv=>whnf
   refine And.intro (fun kp => ?_) (fun kp => ?_)
   ·have kp : prob x.dorm = false := by simpa using kp
    obtain rfl : R = .int .i64 3 := by rw [hR, hge 3 (by unfold mgErr; rw [if_neg n1, if_neg n2, if_neg n3, if_neg n4, if_neg n5, if_pos ⟨k7, kp⟩])]
    (try dsimp only[awp]);conv=>whnf
    refine fM ?_;(conv=>whnf);refine ⟨?_,rfl⟩;conv=>whnf
    repeat' first|exact rfl|exact trivial|exact wR|exact lR _|apply aI
   have kp : prob x.dorm = true := by simpa using kp
   (try dsimp only[awp]);conv=>whnf
   refine And.intro (fun h => absurd k7 h) (fun _ => ?_)
   obtain rfl : R = .int .i64 0 := by rw [hR, hge 0 (by unfold mgErr; rw [if_neg n1, if_neg n2, if_neg n3, if_neg n4, if_neg n5, if_neg (fun h => by rw [kp] at h; cases h.2), if_neg (fun h => h.1 k7)])]
   (try dsimp only[awp]);conv=>whnf
   refine fM ?_;(conv=>whnf);refine ⟨?_,rfl⟩;conv=>whnf
   repeat' first|exact rfl|exact trivial|exact wR|exact lR _|apply aI
  ·(try dsimp only[awp]);conv=>whnf
   refine And.intro (fun _ => ?_) (fun h => absurd k7 h)
   (try dsimp only[awp]);conv=>whnf
   refine .pure _ _ ?_ ⟨rfl, rfl⟩ cz fun _ => ?_
   ·exact leL_refl _
   (try dsimp only[awp]);conv=>whnf
   refine And.intro (fun kz => ?_) (fun kz => ?_)
   ·have kz : zeroR x.dorm = false := by simpa using kz
    obtain rfl : R = .int .i64 2 := by rw [hR, hge 2 (by unfold mgErr; rw [if_neg n1, if_neg n2, if_neg n3, if_neg n4, if_neg n5, if_neg (fun h => k7 h.1), if_pos ⟨k7, kz⟩])]
    (try dsimp only[awp]);conv=>whnf
    refine fM ?_;(conv=>whnf);refine ⟨?_,rfl⟩;conv=>whnf
    repeat' first|exact rfl|exact trivial|exact wR|exact lR _|apply aI
   have kz : zeroR x.dorm = true := by simpa using kz
   obtain rfl : R = .int .i64 0 := by rw [hR, hge 0 (by unfold mgErr; rw [if_neg n1, if_neg n2, if_neg n3, if_neg n4, if_neg n5, if_neg (fun h => k7 h.1), if_neg (fun h => by rw [kz] at h; cases h.2)])]
   (try dsimp only[awp]);conv=>whnf
   refine fM ?_;(conv=>whnf);refine ⟨?_,rfl⟩;conv=>whnf
   repeat' first|exact rfl|exact trivial|exact wR|exact lR _|apply aI

abbrev tAV (x : Node) : AV := .tup [.int .i64 x.1, .int .i64 x.2.1, .int .i64 x.2.2]

def findR (m : Md) (a : Int) (s : Str) : Node :=
 if 0 ≤ i_event m.evs s then (0, 0, i_event m.evs s) else if 0 ≤ i_house m.hs s then (1, 0, i_house m.hs s) else if 0 ≤ i_gate (gatesM m a) s then (2, a, i_gate (gatesM m a) s) else (-1, 0, 0)

def findX (m : Md) (a : Int) (s : Str) : Node :=
 if atS s = true then (if i_page m.pages (s.drop 1) < 0 then (-1, 0, 0) else findR m (i_page m.pages (s.drop 1)) (pageTop m (i_page m.pages (s.drop 1)))) else findR m a s

theorem c_Find1 (m : Md) (a : Int) (s : Str) (ha : a = -1 ∨ (0 ≤ a ∧ a < (m.pages.length : Int))) (e : atS s = false) : FnH Tryz.prog 53 [m.av, .int .i64 a, .str s] [] (tAV (findX m a s)) [] := by
 refine FnH.intro lay mixed Tryz.func53 (by kernel_rfl) rfl (by kernel_rfl) rfl fun hok => ?_
 (try dsimp only[argC,succC]);(try dsimp only[awp]);conv=>whnf
 refine And.intro (fun h1 => ?_) (fun h1 => ?_)
 ·have h1 : 0 < s.length := by omega
  (try dsimp only[awp]);conv=>whnf
  refine sidx0 h1 ?_
  (try dsimp only[awp]);conv=>whnf
  refine And.intro (fun h2 => ?_) (fun h2 => ?_)
  ·exfalso
   rw [show atS s = true from by simp only [atS, h1, h2, decide_true, Bool.true_and]] at e
   cases e
  ·rw [show findX m a s = findR m a s from if_neg (by rw [e]; simp)]
   (try dsimp only[awp]);conv=>whnf
   refine .pure _ _ ?_ ⟨rfl, rfl⟩ (c_revent m s) fun _ => ?_
   ·exact leL_refl _
   (try dsimp only[awp]);conv=>whnf
   refine And.intro (fun h3 => ?_) (fun h3 => ?_)
   ·rw [show findR m a s = (0, 0, i_event m.evs s) from if_pos h3]
    (try dsimp only[awp]);conv=>whnf
    refine fM ?_;(conv=>whnf);refine ⟨?_,rfl⟩;conv=>whnf
    repeat' first|exact rfl|exact trivial|exact wR|exact lR _|apply aI
   (try dsimp only[awp]);conv=>whnf
   refine .pure _ _ ?_ ⟨rfl, rfl⟩ (c_rhouse m s) fun _ => ?_
   ·exact leL_refl _
   (try dsimp only[awp]);conv=>whnf
   refine And.intro (fun h4 => ?_) (fun h4 => ?_)
   ·rw [show findR m a s = (1, 0, i_house m.hs s) from (if_neg h3).trans (if_pos h4)]
    (try dsimp only[awp]);conv=>whnf
    refine fM ?_;(conv=>whnf);refine ⟨?_,rfl⟩;conv=>whnf
    repeat' first|exact rfl|exact trivial|exact wR|exact lR _|apply aI
   (try dsimp only[awp]);conv=>whnf
   refine .pure _ _ ?_ ⟨rfl, rfl⟩ (c_rGates m a ha) fun _ => ?_
   ·exact leL_refl _
   (try dsimp only[awp]);conv=>whnf
   refine .pure _ _ ?_ ⟨rfl, rfl⟩ (c_rgate (gatesM m a) s) fun _ => ?_
   ·exact leL_refl _
   (try dsimp only[awp]);conv=>whnf
   refine And.intro (fun h5 => ?_) (fun h5 => ?_)
   ·rw [show findR m a s = (2, a, i_gate (gatesM m a) s) from (if_neg h3).trans ((if_neg h4).trans (if_pos h5))]
    (try dsimp only[awp]);conv=>whnf
    refine fM ?_;(conv=>whnf);refine ⟨?_,rfl⟩;conv=>whnf
    repeat' first|exact rfl|exact trivial|exact wR|exact lR _|apply aI
   rw [show findR m a s = (-1, 0, 0) from (if_neg h3).trans ((if_neg h4).trans (if_neg h5))]
   (try dsimp only[awp]);conv=>whnf
   refine fM ?_;(conv=>whnf);refine ⟨?_,rfl⟩;conv=>whnf
   repeat' first|exact rfl|exact trivial|exact wR|exact lR _|apply aI
 ·rw [show findX m a s = findR m a s from if_neg (by rw [e]; simp)]
  (try dsimp only[awp]);conv=>whnf
  refine .pure _ _ ?_ ⟨rfl, rfl⟩ (c_revent m s) fun _ => ?_
  ·exact leL_refl _
  (try dsimp only[awp]);conv=>whnf
  refine And.intro (fun h3 => ?_) (fun h3 => ?_)
  ·rw [show findR m a s = (0, 0, i_event m.evs s) from if_pos h3]
   (try dsimp only[awp]);conv=>whnf
   refine fM ?_;(conv=>whnf);refine ⟨?_,rfl⟩;conv=>whnf
   repeat' first|exact rfl|exact trivial|exact wR|exact lR _|apply aI
  (try dsimp only[awp]);conv=>whnf
  refine .pure _ _ ?_ ⟨rfl, rfl⟩ (c_rhouse m s) fun _ => ?_
  ·exact leL_refl _
  (try dsimp only[awp]);conv=>whnf
  refine And.intro (fun h4 => ?_) (fun h4 => ?_)
  ·rw [show findR m a s = (1, 0, i_house m.hs s) from (if_neg h3).trans (if_pos h4)]
   (try dsimp only[awp]);conv=>whnf
   refine fM ?_;(conv=>whnf);refine ⟨?_,rfl⟩;conv=>whnf
   repeat' first|exact rfl|exact trivial|exact wR|exact lR _|apply aI
  (try dsimp only[awp]);conv=>whnf
  refine .pure _ _ ?_ ⟨rfl, rfl⟩ (c_rGates m a ha) fun _ => ?_
  ·exact leL_refl _
  (try dsimp only[awp]);conv=>whnf
  refine .pure _ _ ?_ ⟨rfl, rfl⟩ (c_rgate (gatesM m a) s) fun _ => ?_
  ·exact leL_refl _
  (try dsimp only[awp]);conv=>whnf
  refine And.intro (fun h5 => ?_) (fun h5 => ?_)
  ·rw [show findR m a s = (2, a, i_gate (gatesM m a) s) from (if_neg h3).trans ((if_neg h4).trans (if_pos h5))]
   (try dsimp only[awp]);conv=>whnf
   refine fM ?_;(conv=>whnf);refine ⟨?_,rfl⟩;conv=>whnf
   repeat' first|exact rfl|exact trivial|exact wR|exact lR _|apply aI
  rw [show findR m a s = (-1, 0, 0) from (if_neg h3).trans ((if_neg h4).trans (if_neg h5))]
  (try dsimp only[awp]);conv=>whnf
  refine fM ?_;(conv=>whnf);refine ⟨?_,rfl⟩;conv=>whnf
  repeat' first|exact rfl|exact trivial|exact wR|exact lR _|apply aI

theorem c_Find (m : Md) (a : Int) (s : Str) (ha : a = -1 ∨ (0 ≤ a ∧ a < (m.pages.length : Int))) (ht : ∀ p : Int, 0 ≤ p → p < (m.pages.length : Int) → atS (pageTop m p) = false) : FnH Tryz.prog 53 [m.av, .int .i64 a, .str s] [] (tAV (findX m a s)) [] := by
 cases e : atS s
 ·exact c_Find1 m a s ha e
 have cp := c_rpage m (s.drop 1)
 have hpl : i_page m.pages (s.drop 1) < (m.pages.length : Int) := idxP_lt _ _
 refine FnH.intro lay mixed Tryz.func53 (by kernel_rfl) rfl (by kernel_rfl) rfl fun hok => ?_
 (try dsimp only[argC,succC]);(try dsimp only[awp]);conv=>whnf
 simp only [atS, Bool.and_eq_true, decide_eq_true_eq] at e
 refine And.intro (fun h1 => ?_) (fun h1 => by exfalso; omega)
 have h1 : 0 < s.length := by omega
 (try dsimp only[awp]);conv=>whnf
 refine sidx0 h1 ?_
 (try dsimp only[awp]);conv=>whnf
 refine And.intro (fun h2 => ?_) (fun h2 => absurd e.2 h2)
 have e : atS s = true := by simp only [atS, h1, h2, decide_true, Bool.true_and]
 rw [show findX m a s = if i_page m.pages (s.drop 1) < 0 then (-1, 0, 0) else findR m (i_page m.pages (s.drop 1)) (pageTop m (i_page m.pages (s.drop 1))) from if_pos e]
 (try dsimp only[awp]);conv=>whnf
 refine ADraw.auto (by kernel_rfl) ?_;conv=>whnf
 refine ⟨⟨by omega, by omega, by omega⟩, ?_⟩
 rw [cut1]
 (try dsimp only[awp]);conv=>whnf
 refine ACallP.pure _ _ ?_ ⟨rfl, rfl⟩ cp ?_
 ·exact leL_refl _
 generalize i_page m.pages (s.drop 1) = p at *
 (try dsimp only[awp]);conv=>whnf
 refine And.intro (fun h3 => ?_) (fun h3 => ?_)
 ·rw [if_pos h3]
  (try dsimp only[awp]);conv=>whnf
  refine fM ?_;(conv=>whnf);refine ⟨?_,rfl⟩;conv=>whnf
  repeat' first|exact rfl|exact trivial|exact wR|exact lR _|apply aI
 have h3 : 0 ≤ p := by omega
 rw [if_neg (by omega)]
 have hf : findX m p (pageTop m p) = findR m p (pageTop m p) := if_neg (by rw [ht p h3 hpl]; simp)
 have cF := c_Find1 m p (pageTop m p) (.inr ⟨h3, hpl⟩) (ht p h3 hpl)
 rw [hf] at cF
 have hpt : (m.pages.getD p.toNat default).top = pageTop m p := rfl
 (try dsimp only[awp]);conv=>whnf
 refine ADraw.auto (by kernel_rfl) ?_;conv=>whnf
 refine aidxD default ⟨h3, hpl⟩ ?_
 (try dsimp only[awp]);conv=>whnf
 rw [hpt]
 refine ACallP.pure _ _ ?_ ⟨rfl, rfl⟩ cF ?_
 ·exact leL_refl _
 (try dsimp only[awp]);conv=>whnf
 refine fM ?_;(conv=>whnf);refine ⟨?_,rfl⟩;conv=>whnf
 repeat' first|exact rfl|exact trivial|exact wR|exact lR _|apply aI

theorem find_in {m : Md} {a : Int} {s : Str} (e : atS s = false) : isInR m a s = decide (0 ≤ (findX m a s).1) := by
 unfold isInR findX
 rw [if_neg (by rw [e]; simp), if_neg (by rw [e]; simp)]
 unfold findR
 by_cases h1 : 0 ≤ i_event m.evs s
 ·simp [h1]
 by_cases h2 : 0 ≤ i_house m.hs s
 ·simp [h1, h2]
 by_cases h3 : 0 ≤ i_gate (gatesM m a) s
 ·simp [h1, h2, h3]
 ·simp [h1, h2, h3]

theorem c_names (m : Md) (a : Int) (s : Str) (ha : a = -1 ∨ (0 ≤ a ∧ a < (m.pages.length : Int))) : FnH Tryz.prog 103 [m.av, .int .i64 a, .str s] [] (.bool (isInR m a s)) [] := by
 have cp := c_rpage m (s.drop 1)
 refine FnH.intro lay mixed Tryz.func103 (by kernel_rfl) rfl (by kernel_rfl) rfl fun hok => ?_
 (try dsimp only[argC,succC]);(try dsimp only[awp]);conv=>whnf
 refine And.intro (fun h1 => ?_) (fun h1 => ?_)
 ·have h1 : 0 < s.length := by omega
  (try dsimp only[awp]);conv=>whnf
  refine sidx0 h1 ?_
  (try dsimp only[awp]);conv=>whnf
  refine And.intro (fun h2 => ?_) (fun h2 => ?_)
  ·have e : isInR m a s = decide (0 ≤ i_page m.pages (s.drop 1)) := if_pos (by simp only [atS, h1, h2, decide_true, Bool.true_and])
   rw [e]
   (try dsimp only[awp]);conv=>whnf
   refine ADraw.auto (by kernel_rfl) ?_;conv=>whnf
   refine ⟨⟨by omega, by omega, by omega⟩, ?_⟩
   rw [cut1]
   (try dsimp only[awp]);conv=>whnf
   refine ACallP.pure _ _ ?_ ⟨rfl, rfl⟩ cp ?_
   ·exact leL_refl _
   (try dsimp only[awp]);conv=>whnf
   refine fM ?_;(conv=>whnf);refine ⟨?_,rfl⟩;conv=>whnf
   show _ ↔ _
   simp
  ·have e : atS s = false := by simp only [atS, decide_eq_false h2, Bool.and_false]
   have fi := find_in (m := m) (a := a) e
   have cF := c_Find1 m a s ha e
   generalize findX m a s = x at *
   obtain ⟨x1, x2, x3⟩ := x
   (try dsimp only[awp]);conv=>whnf
   refine .pure _ _ ?_ ⟨rfl, rfl⟩ cF fun _ => ?_
   ·exact leL_refl _
   (try dsimp only[awp]);conv=>whnf
   refine fM ?_;(conv=>whnf);refine ⟨?_,rfl⟩;conv=>whnf
   rw [fi]
   show _ ↔ _
   simp
 ·have e : atS s = false := by simp only [atS]; rw [decide_eq_false (by omega)]; rfl
  have fi := find_in (m := m) (a := a) e
  have cF := c_Find1 m a s ha e
  generalize findX m a s = x at *
  obtain ⟨x1, x2, x3⟩ := x
  (try dsimp only[awp]);conv=>whnf
  refine .pure _ _ ?_ ⟨rfl, rfl⟩ cF fun _ => ?_
  ·exact leL_refl _
  (try dsimp only[awp]);conv=>whnf
  refine fM ?_;(conv=>whnf);refine ⟨?_,rfl⟩;conv=>whnf
  rw [fi]
  show _ ↔ _
  simp

def inputsR (m : Md) : Int := if insAll m (atsM m) [] ≠ 0 then insAll m (atsM m) [] else if isInR m (-1) m.top = false then 5 else 0

theorem any_eq_take {l : List Str} {x : Str} (h : ∀ (j : Nat) (hj : j < l.length), j < l.length → l[j] ≠ x) : (l.any fun y => decide (x = y)) = false := by
 rw [List.any_eq_false]
 intro y hy
 obtain ⟨j, hj, rfl⟩ := List.getElem_of_mem hy
 simpa using fun e : x = l[j] => h j hj hj e.symm

theorem any_eq_mem {l : List Str} {x : Str} {j : Nat} (hj : j < l.length) (h : l[j] = x) : (l.any fun y => decide (x = y)) = true := by
 rw [List.any_eq_true]
 exact ⟨l[j], List.getElem_mem hj, by simpa using h.symm⟩

theorem c_inputs (m : Md) (hB : MdB m) (R : AV) (hR : R = .int .i64 (inputsR m)) : FnH Tryz.prog 48 [m.av] [] R [] := by
 have ce := fun s => c_revent m s
 have hpl := hB.pages
 refine FnH.intro lay mixed Tryz.func48 (by kernel_rfl) rfl (by kernel_rfl) rfl fun hok => ?_
 (try dsimp only[argC,succC]);(try dsimp only[awp]);conv=>whnf
 refine LoopE.of <| LoopSpec.inv (.grow 3 1 [] _ rfl (.inl ⟨rfl, rfl⟩) (.refl _ _)) (fun (q : Nat × List Str) => q.1 ≤ m.pages.length + 1 ∧ insAll m (atsM m) [] = insAll m ((atsM m).drop q.1) q.2 ∧ q.2.length ≤ 4000 * q.1)
  (fun q => [(4, .int .i64 ((q.1 : Int) - 1)), (3, .sl 1 (q.2.map .str) (.own 1))]) (fun q => [(1, .tok 1 q.2.length), (0, .box m.av)]) (fun q => m.pages.length + 1 - q.1) (0, []) ?_ (fun _ => rfl) ?_ ?_
 ·exact ⟨Nat.zero_le _, rfl, by simp⟩
 ·refine ⟨?_, .mk ?_ ⟨by simp, by simp, trivial⟩⟩
  ·repeat' first|exact rfl|exact trivial|exact wR|exact lR _|apply aI
  ·repeat' first|exact rfl|exact trivial|exact wR|exact lR _|apply aI
 rintro ⟨k, sp⟩ ⟨hk, hn, hsp⟩ _
 dsimp only at hk hn hsp
 (try dsimp only[awp]);conv=>whnf
 refine And.intro (fun h => ?_) (fun h => ?_)
 ·have hkl : k < m.pages.length + 1 := by simp only [List.length_map] at h; omega
  have ha : (k : Int) - 1 = -1 ∨ (0 ≤ (k : Int) - 1 ∧ (k : Int) - 1 < (m.pages.length : Int)) := by omega
  have hak : (k : Int) - 1 + 1 = ((k + 1 : Nat) : Int) - 1 := by omega
  rw [drop_of_get? (ats_get hkl)] at hn
  simp only [insAll] at hn
  have ofI : ∀ e : Int, e ≠ 0 → (pageIns m ((k : Int) - 1) sp).1 = e → inputsR m = e := by
   intro e he h
   rw [h, if_pos he] at hn
   unfold inputsR
   rw [hn, if_pos he]
  clear h
  generalize hage : (k : Int) - 1 = a at *
  have cG := c_rGates m a ha
  have cg := fun s => c_rgate (gatesM m a) s
  have ci := fun s => c_names m a s ha
  have hBa := hB.gatesM ha
  have hpi : pageIns m a sp = if (gatesIns m a (gatesM m a) sp).1 ≠ 0 then gatesIns m a (gatesM m a) sp
   else if a ≠ -1 ∧ i_gate (gatesM m a) (pageTop m a) < 0 ∧ i_event m.evs (pageTop m a) < 0 then (5, []) else gatesIns m a (gatesM m a) sp := rfl
  have hgl : a ≠ -1 → gatesM m a = (m.pages.getD a.toNat default).gates := fun h => if_neg h
  (try dsimp only[awp]);conv=>whnf
  refine .pure _ _ ?_ ⟨rfl, rfl⟩ cG fun hokl => ?_
  ·exact leL_refl _
  generalize hgs : gatesM m a = gs at *
  (try dsimp only[awp]);conv=>whnf
  refine LoopE.of <| LoopSpec.inv (.refl _ _) (fun (s : Nat × List Str) => s.1 ≤ gs.length ∧ gatesIns m a gs sp = gatesIns m a (gs.drop s.1) s.2 ∧ s.2.length ≤ sp.length + 40 * s.1)
   (fun s => [(23, .int .i64 s.1), (3, .sl 1 (s.2.map .str) (.own 1))]) (fun s => [(1, .tok 1 s.2.length), (0, .box m.av)]) (fun s => gs.length - s.1) (0, sp) ?_ (fun _ => rfl) ?_ ?_
  ·exact ⟨Nat.zero_le _, rfl, by simp⟩
  ·refine ⟨?_, .mk ?_ ⟨by simp, by simp, trivial⟩⟩
   ·repeat' first|exact rfl|exact trivial|exact wR|exact lR _|apply aI
   ·repeat' first|exact rfl|exact trivial|exact wR|exact lR _|apply aI
  rintro ⟨i, s1⟩ ⟨hi, hni, hs1⟩ _
  dsimp only at hi hni hs1
  (try dsimp only[awp]);conv=>whnf
  refine And.intro (fun h => ?_) (fun h => ?_)
  ·have hlt : i < gs.length := by simpa using h
   have hxi := hBa.2 _ (List.getElem_mem hlt)
   rw [List.drop_eq_getElem_cons hlt] at hni
   simp only [gatesIns] at hni
   have bad : ∀ e : Int, e ≠ 0 → (insErr m a gs[i] 0 (gs[i]).ins s1).1 = e → inputsR m = e := by
    intro e he h
    rw [h, if_pos he] at hni
    exact ofI e he (by rw [hpi, hni, h, if_pos he, h])
   (try dsimp only[awp]);conv=>whnf
   refine aidx hlt ?_
   generalize gs[i] = g at *
   (try dsimp only[awp]);conv=>whnf
   refine LoopE.of <| LoopSpec.inv (.refl _ _) (fun (s : Nat × List Str) => s.1 ≤ g.ins.length ∧ insErr m a g 0 g.ins s1 = insErr m a g s.1 (g.ins.drop s.1) s.2 ∧ s.2.length ≤ s1.length + s.1)
    (fun s => [(30, .int .i64 s.1), (3, .sl 1 (s.2.map .str) (.own 1))]) (fun s => [(2, .box g.av), (1, .tok 1 s.2.length), (0, .box m.av)]) (fun s => g.ins.length - s.1) (0, s1) ?_ (fun _ => rfl) ?_ ?_
   ·exact ⟨Nat.zero_le _, rfl, by simp⟩
   ·refine ⟨?_, .mk ?_ ⟨by simp, by simp, by simp, trivial⟩⟩
    ·repeat' first|exact rfl|exact trivial|exact wR|exact lR _|apply aI
    ·repeat' first|exact rfl|exact trivial|exact wR|exact lR _|apply aI
   rintro ⟨j, s2⟩ ⟨hj, hnj, hs2⟩ _
   dsimp only at hj hnj hs2
   (try dsimp only[awp]);conv=>whnf
   refine And.intro (fun hh => ?_) (fun hh => ?_)
   ·have hjl : j < g.ins.length := by simpa using hh
    rw [List.drop_eq_getElem_cons hjl] at hnj
    simp only [insErr] at hnj
    (try dsimp only[awp]);conv=>whnf
    refine aidx hjl ?_
    generalize g.ins[j] = x at *
    (try dsimp only[awp]);conv=>whnf
    refine .pure _ _ ?_ ⟨rfl, rfl⟩ (ci x) fun _ => ?_
    ·exact leL_refl _
    (try dsimp only[awp]);conv=>whnf
    refine And.intro (fun g1 => ?_) (fun g1 => ?_)
    ·have g1 : isInR m a x = false := by simpa using g1
     obtain rfl : R = .int .i64 5 := by rw [hR, bad 5 (by decide) (by rw [hnj]; rw [if_pos g1])]
     (try dsimp only[awp]);conv=>whnf
     refine fM ?_;(conv=>whnf);refine ⟨?_,rfl⟩;conv=>whnf
     repeat' first|exact rfl|exact trivial|exact wR|exact lR _|apply aI
    have g1 : ¬ isInR m a x = false := by simpa using g1
    (try dsimp only[awp]);conv=>whnf
    refine And.intro (fun k7 => ?_) (fun k7 => ?_)
    ·have hmu : mustEv g j = true := by simp [mustEv, k7]
     (try dsimp only[awp]);conv=>whnf
     refine .pure _ _ ?_ ⟨rfl, rfl⟩ (ce x) fun _ => ?_
     ·exact leL_refl _
     (try dsimp only[awp]);conv=>whnf
     refine And.intro (fun g4 => ?_) (fun g4 => ?_)
     ·obtain rfl : R = .int .i64 7 := by rw [hR, bad 7 (by decide) (by rw [hnj]; rw [if_neg g1, if_pos ⟨hmu, g4⟩])]
      (try dsimp only[awp]);conv=>whnf
      refine fM ?_;(conv=>whnf);refine ⟨?_,rfl⟩;conv=>whnf
      repeat' first|exact rfl|exact trivial|exact wR|exact lR _|apply aI
     (try dsimp only[awp]);conv=>whnf
     refine And.intro (fun h => absurd k7 h) (fun _ => ?_)
     (try dsimp only[awp]);conv=>whnf
     refine LoopE.of <| LoopSpec.inv (.refl _ _) (fun (q : Nat) => q ≤ s2.length ∧ ∀ (y : Nat) (hy : y < s2.length), y < q → s2[y] ≠ x) (fun (q : Nat) => [(64, .int .i64 q)]) (fun _ => _) (fun (q : Nat) => s2.length - q) 0 ?_ (fun _ => rfl) ?_ ?_
     ·exact ⟨Nat.zero_le _, by omega⟩
     ·repeat' first|exact rfl|exact trivial|exact wR|exact lR _|apply aI
     rintro q ⟨hq, hnq⟩ _
     (try dsimp only[awp]);conv=>whnf
     refine And.intro (fun hz => ?_) (fun hz => ?_)
     ·have hql : q < s2.length := by simpa using hz
      (try dsimp only[awp]);conv=>whnf
      refine aidx hql ?_
      (try dsimp only[awp]);conv=>whnf
      refine And.intro (fun he => ?_) (fun he => ?_)
      ·obtain rfl : R = .int .i64 6 := by rw [hR, bad 6 (by decide) (by rw [hnj]; rw [if_neg g1, if_neg (fun h => g4 h.2), if_pos k7, if_pos (any_eq_mem hql he)])]
       (try dsimp only[awp]);conv=>whnf
       refine fM ?_;(conv=>whnf);refine ⟨?_,rfl⟩;conv=>whnf
       repeat' first|exact rfl|exact trivial|exact wR|exact lR _|apply aI
      (try dsimp only[awp]);conv=>whnf
      refine zA ?_;conv=>whnf
      refine ⟨q + 1, ?_, ?_, ?_⟩
      ·refine ⟨hql, fun y hy hyq => ?_⟩
       by_cases hyq' : y = q
       ·subst hyq'; exact he
       ·exact hnq y hy (by omega)
      ·refine ⟨?_, .mk ?_ ⟨by simp, by simp, by simp, trivial⟩⟩
       ·repeat' first|exact rfl|exact trivial|exact wR|exact lR _|apply aI
       ·repeat' first|exact rfl|exact trivial|exact wR|exact lR _|apply aI
      ·omega
     have hql : q = s2.length := by have : ¬ q < s2.length := by simpa using hz
                                    omega
     subst hql
     have g3 : ¬ (s2.any fun y => decide (x = y)) = true := by rw [any_eq_take fun y hy _ => hnq y hy hy]; simp
     (try dsimp only[awp]);conv=>whnf
     refine ⟨by rw [List.length_map], .mk (by simp [maxL]; omega) (by simp; omega) ?_⟩
     (try dsimp only[awp]);conv=>whnf
     refine zA ?_;conv=>whnf
     refine ⟨(j + 1, s2 ++ [x]), ?_, ?_, ?_⟩
     ·exact ⟨hjl, by rw [hnj]; rw [if_neg g1, if_neg (fun h => g4 h.2), if_pos k7, if_neg g3], by first | (show s2.length ≤ s1.length + (j + 1); omega) | (show (s2 ++ [x]).length ≤ s1.length + (j + 1); simp; omega)⟩
     ·refine ⟨?_, .mk ?_ ⟨by simp, by simp, by simp, trivial⟩⟩
      ·repeat' first|exact rfl|exact trivial|exact wR|exact lR _|apply aI
       all_goals first | (refine leRL_of ?_; simp [strip]; done) | (simp; done) | (simp; omega)
      ·repeat' first|exact rfl|exact trivial|exact wR|exact lR _|apply aI
       all_goals first | (refine leRL_of ?_; simp [strip]; done) | (simp; done) | (simp; omega)
     ·show g.ins.length - (j + 1) < g.ins.length - j
      omega
    ·(try dsimp only[awp]);conv=>whnf
     refine And.intro (fun k8 => ?_) (fun k8 => ?_)
     ·(try dsimp only[awp]);conv=>whnf
      refine And.intro (fun kj => ?_) (fun kj => ?_)
      ·have hmu : mustEv g j = true := by unfold mustEv; rw [decide_eq_true k8, decide_eq_true kj]; simp
       (try dsimp only[awp]);conv=>whnf
       refine .pure _ _ ?_ ⟨rfl, rfl⟩ (ce x) fun _ => ?_
       ·exact leL_refl _
       (try dsimp only[awp]);conv=>whnf
       refine And.intro (fun g4 => ?_) (fun g4 => ?_)
       ·obtain rfl : R = .int .i64 7 := by rw [hR, bad 7 (by decide) (by rw [hnj]; rw [if_neg g1, if_pos ⟨hmu, g4⟩])]
        (try dsimp only[awp]);conv=>whnf
        refine fM ?_;(conv=>whnf);refine ⟨?_,rfl⟩;conv=>whnf
        repeat' first|exact rfl|exact trivial|exact wR|exact lR _|apply aI
       (try dsimp only[awp]);conv=>whnf
       refine And.intro (fun _ => ?_) (fun h => absurd k7 h)
       (try dsimp only[awp]);conv=>whnf
       refine zA ?_;conv=>whnf
       refine ⟨(j + 1, s2), ?_, ?_, ?_⟩
       ·exact ⟨hjl, by rw [hnj]; rw [if_neg g1, if_neg (fun h => g4 h.2), if_neg k7], by first | (show s2.length ≤ s1.length + (j + 1); omega) | (show (s2 ++ [x]).length ≤ s1.length + (j + 1); simp; omega)⟩
       ·refine ⟨?_, .mk ?_ ⟨by simp, by simp, by simp, trivial⟩⟩
        ·repeat' first|exact rfl|exact trivial|exact wR|exact lR _|apply aI
         all_goals first | (refine leRL_of ?_; simp [strip]; done) | (simp; done) | (simp; omega)
        ·repeat' first|exact rfl|exact trivial|exact wR|exact lR _|apply aI
         all_goals first | (refine leRL_of ?_; simp [strip]; done) | (simp; done) | (simp; omega)
       ·show g.ins.length - (j + 1) < g.ins.length - j
        omega
      ·have hmu : mustEv g j = false := by unfold mustEv; rw [decide_eq_false k7, decide_eq_false kj]; simp
       (try dsimp only[awp]);conv=>whnf
       refine And.intro (fun _ => ?_) (fun h => absurd k7 h)
       (try dsimp only[awp]);conv=>whnf
       refine zA ?_;conv=>whnf
       refine ⟨(j + 1, s2), ?_, ?_, ?_⟩
       ·exact ⟨hjl, by rw [hnj]; rw [if_neg g1, if_neg (fun h => by rw [hmu] at h; cases h.1), if_neg k7], by first | (show s2.length ≤ s1.length + (j + 1); omega) | (show (s2 ++ [x]).length ≤ s1.length + (j + 1); simp; omega)⟩
       ·refine ⟨?_, .mk ?_ ⟨by simp, by simp, by simp, trivial⟩⟩
        ·repeat' first|exact rfl|exact trivial|exact wR|exact lR _|apply aI
         all_goals first | (refine leRL_of ?_; simp [strip]; done) | (simp; done) | (simp; omega)
        ·repeat' first|exact rfl|exact trivial|exact wR|exact lR _|apply aI
         all_goals first | (refine leRL_of ?_; simp [strip]; done) | (simp; done) | (simp; omega)
       ·show g.ins.length - (j + 1) < g.ins.length - j
        omega
     ·have hmu : mustEv g j = false := by unfold mustEv; rw [decide_eq_false k7, decide_eq_false k8]; simp
      (try dsimp only[awp]);conv=>whnf
      refine And.intro (fun _ => ?_) (fun h => absurd k7 h)
      (try dsimp only[awp]);conv=>whnf
      refine zA ?_;conv=>whnf
      refine ⟨(j + 1, s2), ?_, ?_, ?_⟩
      ·exact ⟨hjl, by rw [hnj]; rw [if_neg g1, if_neg (fun h => by rw [hmu] at h; cases h.1), if_neg k7], by first | (show s2.length ≤ s1.length + (j + 1); omega) | (show (s2 ++ [x]).length ≤ s1.length + (j + 1); simp; omega)⟩
      ·refine ⟨?_, .mk ?_ ⟨by simp, by simp, by simp, trivial⟩⟩
       ·repeat' first|exact rfl|exact trivial|exact wR|exact lR _|apply aI
        all_goals first | (refine leRL_of ?_; simp [strip]; done) | (simp; done) | (simp; omega)
       ·repeat' first|exact rfl|exact trivial|exact wR|exact lR _|apply aI
        all_goals first | (refine leRL_of ?_; simp [strip]; done) | (simp; done) | (simp; omega)
      ·show g.ins.length - (j + 1) < g.ins.length - j
       omega
   ·have hjl : j = g.ins.length := by have : ¬ j < g.ins.length := by simpa using hh
                                      omega
    subst hjl
    rw [List.drop_length] at hnj
    simp only [insErr] at hnj
    rw [hnj] at hni
    (try dsimp only[awp]);conv=>whnf
    refine zA ?_;conv=>whnf
    refine ⟨(i + 1, s2), ?_, ?_, ?_⟩
    ·exact ⟨hlt, hni, by show s2.length ≤ sp.length + 40 * (i + 1); omega⟩
    ·refine ⟨?_, .mk ?_ ⟨by simp, by simp, trivial⟩⟩
     ·repeat' first|exact rfl|exact trivial|exact wR|exact lR _|apply aI
     ·repeat' first|exact rfl|exact trivial|exact wR|exact lR _|apply aI
    ·show gs.length - (i + 1) < gs.length - i
     omega
  have hil : i = gs.length := by have : ¬ i < gs.length := by simpa using h
                                 omega
  rw [List.drop_eq_nil_of_le (by omega)] at hni
  simp only [gatesIns] at hni
  clear h
  rw [hni] at hpi
  rw [if_neg (by simp)] at hpi
  (try dsimp only[awp]);conv=>whnf
  have nx : ∀ h : ¬ (a ≠ -1 ∧ i_gate gs (pageTop m a) < 0 ∧ i_event m.evs (pageTop m a) < 0), insAll m (atsM m) [] = insAll m ((atsM m).drop (k + 1)) s1 := by
   intro h
   rw [if_neg h] at hpi
   rw [hn, hpi, if_neg (by simp)]
  have hs1' : s1.length ≤ 4000 * (k + 1) := by omega
  refine ADraw.auto (by kernel_rfl) ?_;conv=>whnf
  refine And.intro (fun a1 => ?_) (fun a1 => ?_)
  ·have hb : 0 ≤ a ∧ a < (m.pages.length : Int) := ⟨a1, by omega⟩
   have hgl := hgl (by omega)
   have hpt : (m.pages.getD a.toNat default).top = pageTop m a := rfl
   generalize hpg : m.pages.getD a.toNat default = pg at *
   (try dsimp only[awp]);conv=>whnf
   refine aidxD default hb ?_
   rw [hpg]
   (try dsimp only[awp]);conv=>whnf
   refine aidxD default hb ?_
   rw [hpg]
   (try dsimp only[awp]);conv=>whnf
   rw [← hgl, hpt]
   refine ACallP.pure _ _ ?_ ⟨rfl, rfl⟩ (cg (pageTop m a)) ?_
   ·exact leL_refl _
   (try dsimp only[awp]);conv=>whnf
   refine And.intro (fun g1 => ?_) (fun g1 => ?_)
   ·(try dsimp only[awp]);conv=>whnf
    refine aidxD default hb ?_
    rw [hpg]
    (try dsimp only[awp]);conv=>whnf
    rw [hpt]
    refine ACallP.pure _ _ ?_ ⟨rfl, rfl⟩ (ce (pageTop m a)) ?_
    ·exact leL_refl _
    (try dsimp only[awp]);conv=>whnf
    refine And.intro (fun g2 => ?_) (fun g2 => ?_)
    ·obtain rfl : R = .int .i64 5 := by rw [hR, ofI 5 (by decide) (by rw [hpi, if_pos ⟨by omega, g1, g2⟩])]
     (try dsimp only[awp]);conv=>whnf
     refine fM ?_;(conv=>whnf);refine ⟨?_,rfl⟩;conv=>whnf
     repeat' first|exact rfl|exact trivial|exact wR|exact lR _|apply aI
    ·have nx := nx (fun h => g2 h.2.2)
     (try dsimp only[awp]);conv=>whnf
     refine zA ?_;conv=>whnf
     refine ⟨(k + 1, s1), ?_, ?_, ?_⟩
     ·exact ⟨hkl, nx, hs1'⟩
     ·refine ⟨?_, .mk ?_ ⟨by simp, by simp, trivial⟩⟩
      ·repeat' first|exact rfl|exact trivial|exact wR|exact lR _|apply aI
       all_goals (show _ = _; congr 1 <;> omega)
      ·repeat' first|exact rfl|exact trivial|exact wR|exact lR _|apply aI
     ·show m.pages.length + 1 - (k + 1) < m.pages.length + 1 - k
      omega
   ·have nx := nx (fun h => g1 h.2.1)
    (try dsimp only[awp]);conv=>whnf
    refine zA ?_;conv=>whnf
    refine ⟨(k + 1, s1), ?_, ?_, ?_⟩
    ·exact ⟨hkl, nx, hs1'⟩
    ·refine ⟨?_, .mk ?_ ⟨by simp, by simp, trivial⟩⟩
     ·repeat' first|exact rfl|exact trivial|exact wR|exact lR _|apply aI
      all_goals (show _ = _; congr 1 <;> omega)
     ·repeat' first|exact rfl|exact trivial|exact wR|exact lR _|apply aI
    ·show m.pages.length + 1 - (k + 1) < m.pages.length + 1 - k
     omega
  ·have nx := nx (fun h => a1 (by omega))
   (try dsimp only[awp]);conv=>whnf
   refine zA ?_;conv=>whnf
   refine ⟨(k + 1, s1), ?_, ?_, ?_⟩
   ·exact ⟨hkl, nx, hs1'⟩
   ·refine ⟨?_, .mk ?_ ⟨by simp, by simp, trivial⟩⟩
    ·repeat' first|exact rfl|exact trivial|exact wR|exact lR _|apply aI
     all_goals (show _ = _; congr 1 <;> omega)
    ·repeat' first|exact rfl|exact trivial|exact wR|exact lR _|apply aI
   ·show m.pages.length + 1 - (k + 1) < m.pages.length + 1 - k
    omega
 have hkl : m.pages.length + 1 ≤ k := by simp only [List.length_map] at h; omega
 rw [List.drop_eq_nil_of_le (by rw [ats_len]; omega)] at hn
 simp only [insAll] at hn
 have hir : inputsR m = if isInR m (-1) m.top = false then 5 else 0 := by unfold inputsR; rw [hn, if_neg (by simp)]
 clear h
 (try dsimp only[awp]);conv=>whnf
 refine .pure _ _ ?_ ⟨rfl, rfl⟩ (c_names m (-1) m.top (.inl rfl)) fun _ => ?_
 ·exact leL_refl _
 (try dsimp only[awp]);conv=>whnf
 refine And.intro (fun g1 => ?_) (fun g1 => ?_)
 ·have g1 : isInR m (-1) m.top = false := by simpa using g1
  obtain rfl : R = .int .i64 5 := by rw [hR, hir, if_pos g1]
  (try dsimp only[awp]);conv=>whnf
  refine fM ?_;(conv=>whnf);refine ⟨?_,rfl⟩;conv=>whnf
  repeat' first|exact rfl|exact trivial|exact wR|exact lR _|apply aI
 ·obtain rfl : R = .int .i64 0 := by rw [hR, hir, if_neg (by simpa using g1)]
  (try dsimp only[awp]);conv=>whnf
  refine fM ?_;(conv=>whnf);refine ⟨?_,rfl⟩;conv=>whnf
  repeat' first|exact rfl|exact trivial|exact wR|exact lR _|apply aI

theorem cut0 {α : Type} {f : α → AV} {l : List α} {i : Nat} : (((l.map f).drop (0 : Int).toNat).take ((i : Int).toNat - (0 : Int).toNat)) = (l.take i).map f := by
 rw [List.map_take]; rfl

theorem c_phases (h1c : OneC) (m : Md) (hX : MdX m) (hB : MdB m) (R : AV) (hR : R = .int .i64 (phasesErr m)) : FnH Tryz.prog 50 [m.av] [] R [] := by
 have ce := fun s => c_revent m s
 have ci := fun s => c_names m (-1) s (.inl rfl)
 have hpl := hB.phs
 refine FnH.intro lay mixed Tryz.func50 (by kernel_rfl) rfl (by kernel_rfl) rfl fun hok => ?_
 (try dsimp only[argC,succC]);(try dsimp only[awp]);conv=>whnf
 refine And.intro (fun h1 => ?_) (fun h1 => ?_)
 ·have h1 : 6 < m.phs.length := by simp only [List.length_map] at h1; omega
  obtain rfl : R = .int .i64 4 := by rw [hR, show phasesErr m = 4 from if_pos h1]
  (try dsimp only[awp]);conv=>whnf
  refine fM ?_;(conv=>whnf);refine ⟨?_,rfl⟩;conv=>whnf
  repeat' first|exact rfl|exact trivial|exact wR|exact lR _|apply aI
 have h1 : ¬ 6 < m.phs.length := by simp only [List.length_map] at h1; omega
 have hge : phasesErr m = errL (phErr m) 0 m.phs := if_neg h1
 (try dsimp only[awp]);conv=>whnf
 refine LoopE.of <| LoopSpec.inv (.refl _ _) (fun (i : Nat) => i ≤ m.phs.length ∧ errL (phErr m) 0 m.phs = errL (phErr m) i (m.phs.drop i)) (fun (i : Nat) => [(18, .int .i64 i)]) (fun _ => _) (fun (i : Nat) => m.phs.length - i) 0 ?_ (fun _ => rfl) ?_ ?_
 ·exact ⟨Nat.zero_le _, rfl⟩
 ·repeat' first|exact rfl|exact trivial|exact wR|exact lR _|apply aI
 rintro i ⟨hi, hn⟩ _
 (try dsimp only[awp]);conv=>whnf
 refine And.intro (fun h => ?_) (fun h => ?_)
 ·have hlt : i < m.phs.length := by simpa using h
  have hvl := hB.vals _ (List.getElem_mem hlt)
  have hfc := hX.phs _ (List.getElem_mem hlt)
  rw [errL_step hlt] at hn
  have bad : ∀ e : Int, e ≠ 0 → phErr m i m.phs[i] = e → phasesErr m = e := by
   intro e he h
   rw [h, if_pos he] at hn
   rw [hge, hn]
  (try dsimp only[awp]);conv=>whnf
  refine aidx hlt ?_
  generalize hx0 : m.phs[i] = x at *
  (try dsimp only[awp]);conv=>whnf
  refine .pure _ _ ?_ ⟨rfl, rfl⟩ (c_Name21 x.name) fun _ => ?_
  ·exact leL_refl _
  (try dsimp only[awp]);conv=>whnf
  refine And.intro (fun g1 => ?_) (fun g1 => ?_)
  ·have g1 : nameR x.name = false := by simpa using g1
   obtain rfl : R = .int .i64 5 := by rw [hR, bad 5 (by decide) (by unfold phErr; rw [if_pos g1])]
   (try dsimp only[awp]);conv=>whnf
   refine fM ?_;(conv=>whnf);refine ⟨?_,rfl⟩;conv=>whnf
   repeat' first|exact rfl|exact trivial|exact wR|exact lR _|apply aI
  have g1 : ¬ nameR x.name = false := by simpa using g1
  (try dsimp only[awp]);conv=>whnf
  refine ⟨⟨by simp, by simp, by simp; omega⟩, ?_⟩
  rw [cut0]
  (try dsimp only[awp]);conv=>whnf
  refine LoopE.of <| LoopSpec.inv (.refl _ _) (fun (q : Nat) => q ≤ i ∧ ∀ (y : Nat) (hy : y < m.phs.length), y < q → m.phs[y].name ≠ x.name) (fun (q : Nat) => [(32, .int .i64 q)]) (fun _ => _) (fun (q : Nat) => i - q) 0 ?_ (fun _ => rfl) ?_ ?_
  ·exact ⟨Nat.zero_le _, by omega⟩
  ·repeat' first|exact rfl|exact trivial|exact wR|exact lR _|apply aI
  rintro q ⟨hq, hnq⟩ _
  (try dsimp only[awp]);conv=>whnf
  refine And.intro (fun hz => ?_) (fun hz => ?_)
  ·have hql : q < (m.phs.take i).length := by simpa using hz
   have hqi : q < i := by rw [List.length_take] at hql; omega
   have hqe : (m.phs.take i)[q] = m.phs[q]'(by omega) := List.getElem_take
   (try dsimp only[awp]);conv=>whnf
   refine aidx hql ?_
   rw [hqe]
   (try dsimp only[awp]);conv=>whnf
   refine And.intro (fun he => ?_) (fun he => ?_)
   ·have g2 : idxP (fun y => decide (y.name = x.name)) m.phs < i := by
     have := (idxP_le (p := fun y => decide (y.name = x.name)) (l := m.phs) (k := q) (by omega) (by simpa using he)).2
     omega
    obtain rfl : R = .int .i64 6 := by rw [hR, bad 6 (by decide) (by unfold phErr; rw [if_neg g1, if_pos g2])]
    (try dsimp only[awp]);conv=>whnf
    refine fM ?_;(conv=>whnf);refine ⟨?_,rfl⟩;conv=>whnf
    repeat' first|exact rfl|exact trivial|exact wR|exact lR _|apply aI
   (try dsimp only[awp]);conv=>whnf
   refine zA ?_;conv=>whnf
   refine ⟨q + 1, ?_, ?_, ?_⟩
   ·refine ⟨hqi, fun y hy hyq => ?_⟩
    by_cases hyq' : y = q
    ·subst hyq'; exact he
    ·exact hnq y hy (by omega)
   ·refine ⟨?_, .mk ?_ ⟨by simp, by simp, trivial⟩⟩
    ·repeat' first|exact rfl|exact trivial|exact wR|exact lR _|apply aI
    ·repeat' first|exact rfl|exact trivial|exact wR|exact lR _|apply aI
   ·omega
  have hql : q = i := by have : ¬ q < (m.phs.take i).length := by simpa using hz
                         rw [List.length_take] at this
                         omega
  subst hql
  have g2 : ¬ idxP (fun y => decide (y.name = x.name)) m.phs < q := by
   rw [idxP_some (p := fun y => decide (y.name = x.name)) hlt (by simp [hx0]) fun y hy => by simpa using hnq y (by omega) hy]
   omega
  clear hz
  (try dsimp only[awp]);conv=>whnf
  refine .pure _ _ ?_ ⟨rfl, rfl⟩ (ci x.top) fun _ => ?_
  ·exact leL_refl _
  (try dsimp only[awp]);conv=>whnf
  refine And.intro (fun g3 => ?_) (fun g3 => ?_)
  ·have g3 : isInR m (-1) x.top = false := by simpa using g3
   obtain rfl : R = .int .i64 5 := by rw [hR, bad 5 (by decide) (by unfold phErr; rw [if_neg g1, if_neg g2, if_pos g3])]
   (try dsimp only[awp]);conv=>whnf
   refine fM ?_;(conv=>whnf);refine ⟨?_,rfl⟩;conv=>whnf
   repeat' first|exact rfl|exact trivial|exact wR|exact lR _|apply aI
  have g3 : ¬ isInR m (-1) x.top = false := by simpa using g3
  have hph : phErr m q x = errL (pvErr m x) 0 x.vals := by unfold phErr; rw [if_neg g1, if_neg g2, if_neg g3]
  rw [hph] at bad hn
  (try dsimp only[awp]);conv=>whnf
  refine LoopE.of <| LoopSpec.inv (.refl _ _) (fun (j : Nat) => j ≤ x.vals.length ∧ errL (pvErr m x) 0 x.vals = errL (pvErr m x) j (x.vals.drop j)) (fun (j : Nat) => [(50, .int .i64 j)]) (fun _ => _) (fun (j : Nat) => x.vals.length - j) 0 ?_ (fun _ => rfl) ?_ ?_
  ·exact ⟨Nat.zero_le _, rfl⟩
  ·repeat' first|exact rfl|exact trivial|exact wR|exact lR _|apply aI
  rintro j ⟨hj, hnj⟩ _
  (try dsimp only[awp]);conv=>whnf
  refine And.intro (fun hh => ?_) (fun hh => ?_)
  ·have hjl : j < x.vals.length := by simpa using hh
   have hp := c_rProbX h1c _ (hfc _ (List.getElem_mem hjl))
   rw [errL_step hjl] at hnj
   have bad : ∀ e : Int, e ≠ 0 → pvErr m x j x.vals[j] = e → phasesErr m = e := by
    intro e he h
    rw [h, if_pos he] at hnj
    exact bad e he hnj
   (try dsimp only[awp]);conv=>whnf
   refine aidx hjl ?_
   generalize hv0 : x.vals[j] = v at *
   (try dsimp only[awp]);conv=>whnf
   refine .pure _ _ ?_ ⟨rfl, rfl⟩ (ce v.ev) fun _ => ?_
   ·exact leL_refl _
   (try dsimp only[awp]);conv=>whnf
   refine And.intro (fun q1 => ?_) (fun q1 => ?_)
   ·obtain rfl : R = .int .i64 5 := by rw [hR, bad 5 (by decide) (by unfold pvErr; rw [if_pos q1])]
    (try dsimp only[awp]);conv=>whnf
    refine fM ?_;(conv=>whnf);refine ⟨?_,rfl⟩;conv=>whnf
    repeat' first|exact rfl|exact trivial|exact wR|exact lR _|apply aI
   (try dsimp only[awp]);conv=>whnf
   refine ⟨⟨by simp, by simp, by simp; omega⟩, ?_⟩
   rw [cut0]
   (try dsimp only[awp]);conv=>whnf
   refine LoopE.of <| LoopSpec.inv (.refl _ _) (fun (z : Nat) => z ≤ j ∧ ∀ (y : Nat) (hy : y < x.vals.length), y < z → x.vals[y].ev ≠ v.ev) (fun (z : Nat) => [(65, .int .i64 z)]) (fun _ => _) (fun (z : Nat) => j - z) 0 ?_ (fun _ => rfl) ?_ ?_
   ·exact ⟨Nat.zero_le _, by omega⟩
   ·repeat' first|exact rfl|exact trivial|exact wR|exact lR _|apply aI
   rintro z ⟨hz, hnz⟩ _
   (try dsimp only[awp]);conv=>whnf
   refine And.intro (fun hzz => ?_) (fun hzz => ?_)
   ·have hzl : z < (x.vals.take j).length := by simpa using hzz
    have hzi : z < j := by rw [List.length_take] at hzl; omega
    have hze : (x.vals.take j)[z] = x.vals[z]'(by omega) := List.getElem_take
    (try dsimp only[awp]);conv=>whnf
    refine aidx hzl ?_
    rw [hze]
    (try dsimp only[awp]);conv=>whnf
    refine And.intro (fun he => ?_) (fun he => ?_)
    ·have g2 : idxP (fun y => decide (y.ev = v.ev)) x.vals < j := by
      have := (idxP_le (p := fun y => decide (y.ev = v.ev)) (l := x.vals) (k := z) (by omega) (by simpa using he)).2
      omega
     obtain rfl : R = .int .i64 6 := by rw [hR, bad 6 (by decide) (by unfold pvErr; rw [if_neg q1, if_pos g2])]
     (try dsimp only[awp]);conv=>whnf
     refine fM ?_;(conv=>whnf);refine ⟨?_,rfl⟩;conv=>whnf
     repeat' first|exact rfl|exact trivial|exact wR|exact lR _|apply aI
    (try dsimp only[awp]);conv=>whnf
    refine zA ?_;conv=>whnf
    refine ⟨z + 1, ?_, ?_, ?_⟩
    ·refine ⟨hzi, fun y hy hyq => ?_⟩
     by_cases hyq' : y = z
     ·subst hyq'; exact he
     ·exact hnz y hy (by omega)
    ·refine ⟨?_, .mk ?_ ⟨by simp, by simp, by simp, trivial⟩⟩
     ·repeat' first|exact rfl|exact trivial|exact wR|exact lR _|apply aI
     ·repeat' first|exact rfl|exact trivial|exact wR|exact lR _|apply aI
    ·omega
   have hzl : z = j := by have : ¬ z < (x.vals.take j).length := by simpa using hzz
                          rw [List.length_take] at this
                          omega
   subst hzl
   have q2 : ¬ idxP (fun y => decide (y.ev = v.ev)) x.vals < z := by
    rw [idxP_some (p := fun y => decide (y.ev = v.ev)) hjl (by simp [hv0]) fun y hy => by simpa using hnz y (by omega) hy]
    omega
   clear hzz
   (try dsimp only[awp]);conv=>whnf
   refine .pure _ _ ?_ ⟨rfl, rfl⟩ hp fun _ => ?_
   ·exact leL_refl _
   (try dsimp only[awp]);conv=>whnf
   refine And.intro (fun q3 => ?_) (fun q3 => ?_)
   ·have q3 : prob v.p = false := by simpa using q3
    obtain rfl : R = .int .i64 3 := by rw [hR, bad 3 (by decide) (by unfold pvErr; rw [if_neg q1, if_neg q2, if_pos q3])]
    (try dsimp only[awp]);conv=>whnf
    refine fM ?_;(conv=>whnf);refine ⟨?_,rfl⟩;conv=>whnf
    repeat' first|exact rfl|exact trivial|exact wR|exact lR _|apply aI
   have q3 : ¬ prob v.p = false := by simpa using q3
   have hz0 : pvErr m x z v = 0 := by unfold pvErr; rw [if_neg q1, if_neg q2, if_neg q3]
   (try dsimp only[awp]);conv=>whnf
   refine zA ?_;conv=>whnf
   refine ⟨z + 1, ?_, ?_, ?_⟩
   ·exact ⟨hjl, by rw [hnj, hz0, if_neg (by simp)]⟩
   ·refine ⟨?_, .mk ?_ ⟨by simp, by simp, trivial⟩⟩
    ·repeat' first|exact rfl|exact trivial|exact wR|exact lR _|apply aI
    ·repeat' first|exact rfl|exact trivial|exact wR|exact lR _|apply aI
   ·omega
  have hjl : j = x.vals.length := by have : ¬ j < x.vals.length := by simpa using hh
                                     omega
  rw [errL_end (by omega)] at hnj
  rw [hnj, if_neg (by simp)] at hn
  clear hh
  (try dsimp only[awp]);conv=>whnf
  refine zA ?_;conv=>whnf
  refine ⟨q + 1, ?_, ?_, ?_⟩
  ·exact ⟨hlt, hn⟩
  ·refine ⟨?_, .mk ?_ ⟨by simp, trivial⟩⟩
   ·repeat' first|exact rfl|exact trivial|exact wR|exact lR _|apply aI
   ·repeat' first|exact rfl|exact trivial|exact wR|exact lR _|apply aI
  ·omega
 ·have hil : i = m.phs.length := by have : ¬ i < m.phs.length := by simpa using h
                                    omega
  rw [errL_end (by omega)] at hn
  rw [hge, hn] at hR
  subst hR
  (try dsimp only[awp]);conv=>whnf
  refine fM ?_;(conv=>whnf);refine ⟨?_,rfl⟩;conv=>whnf
  repeat' first|exact rfl|exact trivial|exact wR|exact lR _|apply aI
end S
