/-
  Contracts of functions of the program, over the logic of the texts before. Nothing is assumed.
-/
import Derived.Test.YtjalgklpjjkjfaaGreatT5

open Go Go.AL Go.Proofs
namespace S
set_option maxRecDepth 100000

section
variable {m : Md} {i : Nat}

theorem mg_root (h : Mrg m i) : resR (mgN m i) (-1) (mgN m i).top = phi m i (resR m (-1) m.top) := by
 have := mg_res h (a := -1) (.inl rfl) h.ok.top (.inl rfl)
 rw [atP_main] at this
 rw [← this]
 rfl

theorem mg_reach (h : Mrg m i) {r : Node} (hr : okN m r) : (∀ x, Reach m r x → Reach (mgN m i) (phi m i r) (phi m i x)) ∧ (∀ y, Reach (mgN m i) (phi m i r) y → ∃ x, Reach m r x ∧ y = phi m i x) := by
 have hc := h.ok.closed
 constructor
 ·intro x hx
  induction hx with
  | root => exact .root
  | step hx h2 hy ih =>
    rename_i x y
    have hm := (okN_kids hc (Reach.ok hc hr hx) h2).1
    refine .step ih (by rw [phi_kind]; exact h2) ?_
    rw [mg_kids h hm]
    exact List.mem_map.2 ⟨_, hy, rfl⟩
 ·intro y hy
  induction hy with
  | root => exact ⟨r, .root, rfl⟩
  | step hy h2 hz ih =>
    obtain ⟨x, hx, rfl⟩ := ih
    rw [phi_kind] at h2
    have hm := (okN_kids hc (Reach.ok hc hr hx) h2).1
    rw [mg_kids h hm] at hz
    obtain ⟨w, hw, rfl⟩ := List.mem_map.1 hz
    exact ⟨w, .step hx h2 hw, rfl⟩

theorem mg_same (h : Mrg m i) (hN : MOk (mgN m i)) : usedR (mgN m i) = usedR m ∧ dynR (mgN m i) = dynR m := by
 have hr := (h.ok.inOk (.inl rfl) h.ok.top).ok
 obtain ⟨r1, r2⟩ := mg_reach h hr
 have hv : ∀ y, y ∈ visitedM (mgN m i) ↔ ∃ x, x ∈ visitedM m ∧ y = phi m i x := by
  intro y
  rw [visited_reach hN, mg_root h]
  constructor
  ·intro hy
   obtain ⟨x, hx, e⟩ := r2 y hy
   exact ⟨x, (visited_reach h.ok x).2 hx, e⟩
  ·rintro ⟨x, hx, rfl⟩
   exact r1 x ((visited_reach h.ok x).1 hx)
 constructor
 ·refine Nat.eq_of_testBit_eq fun j => ?_
  rw [Bool.eq_iff_iff]
  unfold usedR
  rw [bitsV_bit, bitsV_bit]
  constructor
  ·rintro ⟨y, hy, h1, h2, h3⟩
   obtain ⟨x, hx, rfl⟩ := (hv y).1 hy
   have hk : x.1 ≠ 2 := by rw [phi_kind] at h1; omega
   rw [phi_of hk] at h1 h2 h3
   exact ⟨x, hx, h1, h2, h3⟩
  ·rintro ⟨x, hx, h1, h2, h3⟩
   have hk : x.1 ≠ 2 := by omega
   exact ⟨x, (hv x).2 ⟨x, hx, (phi_of hk).symm⟩, h1, h2, h3⟩
 ·unfold dynR dynV
  rw [Bool.eq_iff_iff, List.any_eq_true, List.any_eq_true]
  have hkind : ∀ x, x ∈ visitedM m → x.1 = 2 → (gateAt (mgN m i) (phi m i x)).kind = (gateAt m x).kind := by
   intro x hx h2
   have hm := (okN_kids h.ok.closed (Reach.ok h.ok.closed hr ((visited_reach h.ok x).1 hx)) h2).1
   obtain ⟨x1, a, k⟩ := x
   obtain ⟨g1, ha, hk⟩ := mem_all.1 hm
   dsimp only at g1 ha hk
   subst g1
   rw [(mg_len h.lt ha hk).2.2.2]
   rfl
  constructor
  ·rintro ⟨y, hy, h1⟩
   obtain ⟨x, hx, rfl⟩ := (hv y).1 hy
   simp only [Bool.and_eq_true, decide_eq_true_eq] at h1
   rw [phi_kind] at h1
   refine ⟨x, hx, ?_⟩
   simp only [Bool.and_eq_true, decide_eq_true_eq]
   rw [hkind x hx h1.1] at h1
   exact h1
  ·rintro ⟨x, hx, h1⟩
   simp only [Bool.and_eq_true, decide_eq_true_eq] at h1
   refine ⟨phi m i x, (hv _).2 ⟨x, hx, rfl⟩, ?_⟩
   simp only [Bool.and_eq_true, decide_eq_true_eq]
   rw [phi_kind, hkind x hx h1.1]
   exact h1
end

theorem mrg_of {m : Md} {i : Nat} (hM : MOk m) (hi : i < m.pages.length) (he : mgE m i = 0) : Mrg m i := by
 obtain ⟨h1, _, h3⟩ := mgE_zero he
 refine ⟨hM, hi, fun q hq e => ?_, (checkM_ok h3).gates⟩
 have := (innerP_iff hi).2 ⟨q, hq, e⟩
 rw [h1] at this; cases this

theorem inl_law : ∀ (n : Nat) (m : Md), m.pages.length = n → checkM m = 0 → (inlP m.pages.length m).2 = 0 →
  checkM (inlP m.pages.length m).1 = 0 ∧ (inlP m.pages.length m).1.pages.length = 0 ∧ (inlP m.pages.length m).1.gates.length = totalM m ∧ (inlP m.pages.length m).1.evs = m.evs ∧
  usedR (inlP m.pages.length m).1 = usedR m ∧ dynR (inlP m.pages.length m).1 = dynR m := by
 intro n
 induction n with
 | zero =>
   intro m hn h0 _
   rw [inlP_end hn]
   refine ⟨h0, hn, ?_, rfl, rfl, rfl⟩
   unfold totalM
   rw [List.eq_nil_of_length_eq_zero hn]; rfl
 | succ n ih =>
   intro m hn h0 hz
   have hM := checkM_ok h0
   rw [inlP_step (by omega)] at hz ⊢
   by_cases hf : freeP m = m.pages.length
   ·rw [if_pos hf] at hz; cases hz
   rw [if_neg hf] at hz ⊢
   by_cases he : mgE m (freeP m) = 0
   ·rw [if_pos he] at hz ⊢
    have hlt : freeP m < m.pages.length := by
     have : freeP m ≤ m.pages.length := freeP_le
     omega
    obtain ⟨_, _, h5⟩ := mgE_zero he
    have hl := mg_pages hlt
    have hmr := mrg_of hM hlt he
    obtain ⟨s1, s2⟩ := mg_same hmr (checkM_ok h5)
    have ht := mg_total hlt
    generalize freeP m = i at *
    obtain ⟨k1, k2, k3, k4, k5, k6⟩ := ih (mgN m i) (by omega) h5 (by rw [hl]; exact hz)
    rw [hl] at k1 k2 k3 k4 k5 k6
    exact ⟨k1, k2, k3.trans ht, k4, k5.trans s1, k6.trans s2⟩
   ·rw [if_neg he] at hz; exact absurd hz he

theorem inl_BC : ∀ (n : Nat) (m : Md), m.pages.length = n → checkM m = 0 → MdB m → MdC m → MdB (inlP m.pages.length m).1 ∧ MdC (inlP m.pages.length m).1 := by
 intro n
 induction n with
 | zero => intro m hn _ hB hC; rw [inlP_end hn]; exact ⟨hB, hC⟩
 | succ n ih =>
   intro m hn h0 hB hC
   rw [inlP_step (by omega)]
   by_cases hf : freeP m = m.pages.length
   ·rw [if_pos hf]; exact ⟨hB, hC⟩
   rw [if_neg hf]
   by_cases he : mgE m (freeP m) = 0
   ·rw [if_pos he]
    have hlt : freeP m < m.pages.length := by
     have : freeP m ≤ m.pages.length := freeP_le
     omega
    obtain ⟨_, _, h5⟩ := mgE_zero he
    have hl := mg_pages hlt
    have := ih (mgN m (freeP m)) (by omega) h5 (mg_B hlt hB (total64 h0)) (mg_C hlt hC)
    rwa [hl] at this
   ·rw [if_neg he]; exact ⟨hB, hC⟩


structure Nd where
 kind : Int
 k : Int
 args : List Int
 deriving DecidableEq, Inhabited

abbrev Nd.av (x : Nd) : AV := .ag [.int .i64 x.kind, .int .i64 x.k, iL x.args]

structure Fo where
 vars : Int
 nodes : List Nd
 top : Int
 deriving DecidableEq, Inhabited

abbrev Fo.av (x : Fo) : AV := .ag [.int .i64 x.vars, .sl 3 (x.nodes.map Nd.av) .no, .int .i64 x.top]

def lookO : Marks → Node → Option Int
 | [], _ => none
 | (y, v) :: es, x => if y = x then some v else lookO es x

theorem alook_opt {es : Marks} {x : Node} {k : AV → Prop} (h1 : ∀ v, lookO es x = some v → k (.tup [.int .i64 v, .tt])) (h2 : lookO es x = none → k (.tup [.int .i64 0, .ff])) :
  ALook (encM es) (nAV x) fun r => lookK true (.int .i64 0) r k := by
 have key : ∃ r, LookR (encM es) (nAV x) r ∧ lookK true (.int .i64 0) r k := by
  induction es with
  | nil => exact ⟨none, by simp [LookR, encM], h2 rfl⟩
  | cons e es ih =>
    obtain ⟨y, v⟩ := e
    by_cases hy : y = x
    ·subst hy
     exact ⟨some (.int .i64 v), ⟨_, List.mem_cons_self, rfl, rfl⟩, h1 v (if_pos rfl)⟩
    ·have e : lookO ((y, v) :: es) x = lookO es x := if_neg hy
     rw [e] at h1 h2
     obtain ⟨r, g1, g2⟩ := ih h1 h2
     refine ⟨r, ?_, g2⟩
     cases r with
     | none =>
       intro z hz
       simp only [encM, List.map_cons, List.mem_cons] at hz
       rcases hz with rfl | hz
       ·exact fun e => hy (kv_inj.1 e)
       ·exact g1 z hz
     | some w =>
       obtain ⟨z, hz, h3, h4⟩ := g1
       exact ⟨z, by simp only [encM, List.map_cons, List.mem_cons]; exact .inr hz, h3, h4⟩
 exact ⟨key⟩

theorem lookO_mark {es : Marks} {x y : Node} {v : Int} : lookO (mark es x v) y = if x = y then some v else lookO es y := by
 induction es with
 | nil => simp [mark, lookO]
 | cons e es ih =>
   obtain ⟨z, u⟩ := e
   simp only [mark]
   by_cases hz : z = x
   ·subst hz
    simp only [if_true, lookO]
    split <;> rfl
   ·simp only [if_neg hz, lookO, ih]
    by_cases hzy : z = y
    ·subst hzy
     rw [if_pos rfl, if_neg (fun e => hz e.symm)]
     simp
    ·simp only [if_neg hzy]

theorem alook_put {es : Marks} {x : Node} {v : Int} {k : AV → Prop} (h : k (.int .i64 v)) : ALook (encM (mark es x v)) (nAV x) fun r => lookK false (.int .i64 0) r k := by
 refine alook_es ?_
 rw [look_mark, if_pos rfl]; exact h

def kindN (k : Int) : Int := if k = 0 then 2 else if k = 5 then 2 else if k = 1 then 3 else if k = 2 then 4 else if k = 3 then 1 else if k = 4 then 5 else 0
def statK (k : Int) : Bool := decide (k = 0) || decide (k = 5) || decide (k = 1) || decide (k = 2) || decide (k = 3) || decide (k = 4)

structure CS where
 nodes : List Nd
 es : Marks
 deriving Inhabited

def pushN (vars : Int) (s : CS) (x : Node) (nd : Nd) : (Bool × Int) × CS := ((false, vars + s.nodes.length), ⟨s.nodes ++ [nd], mark s.es x (vars + s.nodes.length)⟩)

def houseAt (m : Md) (x : Node) : Hs := m.hs.getD x.2.2.toNat default

def compL (f : Node → CS → (Bool × Int) × CS) : List Node → CS → List Int → (Bool × List Int) × CS
 | [], s, acc => ((false, acc), s)
 | y :: l, s, acc => if (f y s).1.1 = true then ((true, acc), (f y s).2) else compL f l (f y s).2 (acc ++ [(f y s).1.2])

def compN (m : Md) (vars : Int) : Nat → Node → CS → (Bool × Int) × CS
 | 0, _, s => ((true, 0), s)
 | n + 1, x, s => if x.1 = 0 then ((false, x.2.2), s) else
   match lookO s.es x with
   | some a => ((false, a), s)
   | none => if x.1 = 1 then pushN vars s x ⟨0, if (houseAt m x).on = true then 1 else 0, []⟩
     else if statK (gateAt m x).kind = false then ((true, 0), s)
     else if (compL (compN m vars n) (kidsM m x) s []).1.1 = true then ((true, 0), (compL (compN m vars n) (kidsM m x) s []).2)
     else pushN vars (compL (compN m vars n) (kidsM m x) s []).2 x ⟨kindN (gateAt m x).kind, (gateAt m x).k, (compL (compN m vars n) (kidsM m x) s []).1.2⟩

abbrev WkO (T : HO) : Prop := leO T T ∧ (match T with | .amap _ es => bndM 3 es = true | o => bndO 3 o = true)
abbrev WkA (X : AV) : Prop := le0 X X ∧ bndB 3 X = true

abbrev hpF (m : Md) (X : AV) (T M : HO) : Heap := [(2, T), (1, .box (.ag [m.av, X, .mp 0])), (0, M)]

theorem c_find1 (x : Pg) (s : Str) (h0 : 0 < s.length) : FnH Tryz.prog 166 [x.av, .ptr 0 [] 0] [(0, .box (.str s))] (.bool (decide (x.name = s.drop 1))) [(0, .box (.str s))] := by
 refine FnH.intro lay mixed Tryz.func166 (by kernel_rfl) rfl (by kernel_rfl) rfl fun hok => ?_
 (try dsimp only[argC,succC]);(try dsimp only[awp]);conv=>whnf
 refine ADraw.auto (by kernel_rfl) ?_;conv=>whnf
 refine ⟨⟨by omega, by omega, by omega⟩, ?_⟩
 rw [cut1]
 (try dsimp only[awp]);conv=>whnf
 refine ⟨⟨_, _, .refl _ _, ?_⟩⟩
 conv=>whnf
 refine ⟨?_, rfl, by simp [nextId], .mk ?_ ⟨by simp, trivial⟩⟩
 ·show _ ↔ _
  simp
 ·repeat' first|exact rfl|exact trivial|exact wR|exact lR _|apply aI

theorem c_find2 (x : Ev) (s : Str) : FnH Tryz.prog 167 [x.av, .ptr 0 [] 0] [(0, .box (.str s))] (.bool (decide (x.name = s))) [(0, .box (.str s))] := by
 refine FnH.intro lay mixed Tryz.func167 (by kernel_rfl) rfl (by kernel_rfl) rfl fun hok => ?_
 (try dsimp only[argC,succC]);(try dsimp only[awp]);conv=>whnf
 refine ⟨⟨_, _, .refl _ _, ?_⟩⟩
 conv=>whnf
 refine ⟨?_, rfl, by simp [nextId], .mk ?_ ⟨by simp, trivial⟩⟩
 ·show _ ↔ _
  simp
 ·repeat' first|exact rfl|exact trivial|exact wR|exact lR _|apply aI
theorem c_find3 (x : Hs) (s : Str) : FnH Tryz.prog 168 [x.av, .ptr 0 [] 0] [(0, .box (.str s))] (.bool (decide (x.name = s))) [(0, .box (.str s))] := by
 refine FnH.intro lay mixed Tryz.func168 (by kernel_rfl) rfl (by kernel_rfl) rfl fun hok => ?_
 (try dsimp only[argC,succC]);(try dsimp only[awp]);conv=>whnf
 refine ⟨⟨_, _, .refl _ _, ?_⟩⟩
 conv=>whnf
 refine ⟨?_, rfl, by simp [nextId], .mk ?_ ⟨by simp, trivial⟩⟩
 ·show _ ↔ _
  simp
 ·repeat' first|exact rfl|exact trivial|exact wR|exact lR _|apply aI
theorem c_find4 (x : Mg) (s : Str) : FnH Tryz.prog 169 [x.av, .ptr 0 [] 0] [(0, .box (.str s))] (.bool (decide (x.name = s))) [(0, .box (.str s))] := by
 refine FnH.intro lay mixed Tryz.func169 (by kernel_rfl) rfl (by kernel_rfl) rfl fun hok => ?_
 (try dsimp only[argC,succC]);(try dsimp only[awp]);conv=>whnf
 refine ⟨⟨_, _, .refl _ _, ?_⟩⟩
 conv=>whnf
 refine ⟨?_, rfl, by simp [nextId], .mk ?_ ⟨by simp, trivial⟩⟩
 ·show _ ↔ _
  simp
 ·repeat' first|exact rfl|exact trivial|exact wR|exact lR _|apply aI

theorem c_cgates (m : Md) (X : AV) (T M B3 B4 : HO) (a : Int) (h : a = -1 ∨ (0 ≤ a ∧ a < (m.pages.length : Int))) : FnH Tryz.prog 143 [.ptr 1 [] 0, .int .i64 a] ((4, B4) :: (3, B3) :: hpF m X T M) (gL (gatesM m a)) ((4, B4) :: (3, B3) :: hpF m X T M) := by
 refine FnH.intro lay mixed Tryz.func143 (by kernel_rfl) rfl (by kernel_rfl) rfl fun hok => ?_
 (try dsimp only[argC,succC]);(try dsimp only[awp]);conv=>whnf
 refine And.intro (fun h1 => ?_) (fun h1 => ?_)
 ·rw [show gatesM m a = m.gates from if_pos h1]
  (try dsimp only[awp]);conv=>whnf
  (refine FinSpec.same ?_;(conv=>whnf);refine ⟨?_,rfl⟩;(conv=>whnf))
  repeat' first|exact rfl|exact trivial|exact wR|exact lR _|apply aI
 ·have hb : 0 ≤ a ∧ a < (m.pages.length : Int) := by omega
  rw [show gatesM m a = (m.pages.getD a.toNat default).gates from if_neg h1]
  (try dsimp only[awp]);conv=>whnf
  refine aidxD default hb ?_
  (try dsimp only[awp]);conv=>whnf
  (refine FinSpec.same ?_;(conv=>whnf);refine ⟨?_,rfl⟩;(conv=>whnf))
  repeat' first|exact rfl|exact trivial|exact wR|exact lR _|apply aI

theorem c_cfind (m : Md) (X : AV) (T M : HO) (hX : WkA X) (hT : WkO T) (hO : WkO M) (a : Int) (s : Str) (h0 : 0 < s.length) (ha : a = -1 ∨ (0 ≤ a ∧ a < (m.pages.length : Int))) (hp : atS s = true → 0 ≤ i_page m.pages (s.drop 1)) :
  FnH Tryz.prog 142 [.ptr 1 [] 0, .int .i64 a, .str s] (hpF m X T M) (nAV (resR m a s)) (hpF m X T M) := by
 have hpl : i_page m.pages (s.drop 1) < (m.pages.length : Int) := idxP_lt _ _
 refine FnH.intro lay mixed Tryz.func142 (by kernel_rfl) rfl (by kernel_rfl) rfl fun hok => ?_
 (try dsimp only[argC,succC]);(try dsimp only[awp]);conv=>whnf
 refine sidx0 h0 ?_
 (try dsimp only[awp]);conv=>whnf
 refine And.intro (fun h2 => ?_) (fun h2 => ?_)
 ·have e : atS s = true := by simp only [atS, h0, h2, decide_true, Bool.true_and]
  have hp := hp e
  rw [show resR m a s = resOn m (i_page m.pages (s.drop 1)) (pageTop m (i_page m.pages (s.drop 1))) from if_pos e]
  have hpt : (m.pages.getD (i_page m.pages (s.drop 1)).toNat default).top = pageTop m (i_page m.pages (s.drop 1)) := rfl
  (try dsimp only[awp]);conv=>whnf
  refine .gen _ _ (c_idx_Pg m.pages 166 [.ptr 3 [] 0] (fun x => decide (x.name = s.drop 1)) _ fun x _ => FnH.frame [3] (c_find1 x s h0) ⟨rfl, rfl, rfl, rfl⟩ (by (repeat' first|exact rfl|exact trivial|exact wR|exact lR _|apply aI)) (by (repeat' first|exact rfl|exact trivial|exact wR|exact lR _|apply aI))) fun _ => ?_
  rw [show idxP (fun x => decide (x.name = s.drop 1)) m.pages = i_page m.pages (s.drop 1) from rfl]
  generalize i_page m.pages (s.drop 1) = p at *
  have hpb : p = -1 ∨ (0 ≤ p ∧ p < (m.pages.length : Int)) := .inr ⟨hp, hpl⟩
  (try dsimp only[awp]);conv=>whnf
  refine aidxD default ⟨hp, hpl⟩ ?_
  (try dsimp only[awp]);conv=>whnf
  rw [hpt]
  generalize pageTop m p = t at *
  (try dsimp only[awp]);conv=>whnf
  refine .gen _ _ (c_idx_Ev m.evs 167 [.ptr 3 [] 0] (fun x => decide (x.name = t)) _ fun x _ => FnH.frame [3] (c_find2 x t) ⟨rfl, rfl, rfl, rfl⟩ (by (repeat' first|exact rfl|exact trivial|exact wR|exact lR _|apply aI)) (by (repeat' first|exact rfl|exact trivial|exact wR|exact lR _|apply aI))) fun _ => ?_
  (try dsimp only[awp]);conv=>whnf
  refine And.intro (fun h3 => ?_) (fun h3 => ?_)
  ·rw [show resOn m p t = (0, 0, i_event m.evs t) from if_pos h3]
   (try dsimp only[awp]);conv=>whnf
   refine ⟨⟨_, _, .refl _ _, ?_⟩⟩
   conv=>whnf
   refine ⟨?_, rfl, by simp [nextId], .mk ?_ (by simp [idsOk])⟩
   ·repeat' first|exact rfl|exact trivial|exact wR|exact lR _|apply aI
   ·repeat' first|exact rfl|exact trivial|exact wR|exact lR _|apply aI
    all_goals first | exact hT.1 | exact hT.2 | exact hO.1 | exact hO.2 | exact hX.1 | (show (match bndB 3 X with | true => _ | false => _) = true; rw [hX.2]; rfl)
  (try dsimp only[awp]);conv=>whnf
  refine .gen _ _ (c_idx_Hs m.hs 168 [.ptr 3 [] 0] (fun x => decide (x.name = t)) _ fun x _ => FnH.frame [3] (c_find3 x t) ⟨rfl, rfl, rfl, rfl⟩ (by (repeat' first|exact rfl|exact trivial|exact wR|exact lR _|apply aI)) (by (repeat' first|exact rfl|exact trivial|exact wR|exact lR _|apply aI))) fun _ => ?_
  (try dsimp only[awp]);conv=>whnf
  refine And.intro (fun h4 => ?_) (fun h4 => ?_)
  ·rw [show resOn m p t = (1, 0, i_house m.hs t) from (if_neg h3).trans (if_pos h4)]
   (try dsimp only[awp]);conv=>whnf
   refine ⟨⟨_, _, .refl _ _, ?_⟩⟩
   conv=>whnf
   refine ⟨?_, rfl, by simp [nextId], .mk ?_ (by simp [idsOk])⟩
   ·repeat' first|exact rfl|exact trivial|exact wR|exact lR _|apply aI
   ·repeat' first|exact rfl|exact trivial|exact wR|exact lR _|apply aI
    all_goals first | exact hT.1 | exact hT.2 | exact hO.1 | exact hO.2 | exact hX.1 | (show (match bndB 3 X with | true => _ | false => _) = true; rw [hX.2]; rfl)
  rw [show resOn m p t = (2, p, i_gate (gatesM m p) t) from (if_neg h3).trans (if_neg h4)]
  (try dsimp only[awp]);conv=>whnf
  refine .gen _ _ (c_cgates m X T M _ _ p (by assumption)) fun _ => ?_
  (try dsimp only[awp]);conv=>whnf
  refine .gen _ _ (c_idx_Mg (gatesM m p) 169 [.ptr 3 [] 0] (fun x => decide (x.name = t)) _ fun x _ => FnH.frame [3] (c_find4 x t) ⟨rfl, rfl, rfl, rfl⟩ (by (repeat' first|exact rfl|exact trivial|exact wR|exact lR _|apply aI)) (by (repeat' first|exact rfl|exact trivial|exact wR|exact lR _|apply aI))) fun _ => ?_
  (try dsimp only[awp]);conv=>whnf
  refine ⟨⟨_, _, .refl _ _, ?_⟩⟩
  conv=>whnf
  refine ⟨?_, rfl, by simp [nextId], .mk ?_ (by simp [idsOk])⟩
  ·repeat' first|exact rfl|exact trivial|exact wR|exact lR _|apply aI
  ·repeat' first|exact rfl|exact trivial|exact wR|exact lR _|apply aI
   all_goals first | exact hT.1 | exact hT.2 | exact hO.1 | exact hO.2 | exact hX.1 | (show (match bndB 3 X with | true => _ | false => _) = true; rw [hX.2]; rfl)
 ·have e : atS s = false := by simp only [atS, decide_eq_false h2, Bool.and_false]
  rw [show resR m a s = resOn m a s from if_neg (by rw [e]; simp)]
  (try dsimp only[awp]);conv=>whnf
  refine .gen _ _ (c_idx_Ev m.evs 167 [.ptr 3 [] 0] (fun x => decide (x.name = s)) _ fun x _ => FnH.frame [3] (c_find2 x s) ⟨rfl, rfl, rfl, rfl⟩ (by (repeat' first|exact rfl|exact trivial|exact wR|exact lR _|apply aI)) (by (repeat' first|exact rfl|exact trivial|exact wR|exact lR _|apply aI))) fun _ => ?_
  (try dsimp only[awp]);conv=>whnf
  refine And.intro (fun h3 => ?_) (fun h3 => ?_)
  ·rw [show resOn m a s = (0, 0, i_event m.evs s) from if_pos h3]
   (try dsimp only[awp]);conv=>whnf
   refine ⟨⟨_, _, .refl _ _, ?_⟩⟩
   conv=>whnf
   refine ⟨?_, rfl, by simp [nextId], .mk ?_ (by simp [idsOk])⟩
   ·repeat' first|exact rfl|exact trivial|exact wR|exact lR _|apply aI
   ·repeat' first|exact rfl|exact trivial|exact wR|exact lR _|apply aI
    all_goals first | exact hT.1 | exact hT.2 | exact hO.1 | exact hO.2 | exact hX.1 | (show (match bndB 3 X with | true => _ | false => _) = true; rw [hX.2]; rfl)
  (try dsimp only[awp]);conv=>whnf
  refine .gen _ _ (c_idx_Hs m.hs 168 [.ptr 3 [] 0] (fun x => decide (x.name = s)) _ fun x _ => FnH.frame [3] (c_find3 x s) ⟨rfl, rfl, rfl, rfl⟩ (by (repeat' first|exact rfl|exact trivial|exact wR|exact lR _|apply aI)) (by (repeat' first|exact rfl|exact trivial|exact wR|exact lR _|apply aI))) fun _ => ?_
  (try dsimp only[awp]);conv=>whnf
  refine And.intro (fun h4 => ?_) (fun h4 => ?_)
  ·rw [show resOn m a s = (1, 0, i_house m.hs s) from (if_neg h3).trans (if_pos h4)]
   (try dsimp only[awp]);conv=>whnf
   refine ⟨⟨_, _, .refl _ _, ?_⟩⟩
   conv=>whnf
   refine ⟨?_, rfl, by simp [nextId], .mk ?_ (by simp [idsOk])⟩
   ·repeat' first|exact rfl|exact trivial|exact wR|exact lR _|apply aI
   ·repeat' first|exact rfl|exact trivial|exact wR|exact lR _|apply aI
    all_goals first | exact hT.1 | exact hT.2 | exact hO.1 | exact hO.2 | exact hX.1 | (show (match bndB 3 X with | true => _ | false => _) = true; rw [hX.2]; rfl)
  rw [show resOn m a s = (2, a, i_gate (gatesM m a) s) from (if_neg h3).trans (if_neg h4)]
  (try dsimp only[awp]);conv=>whnf
  refine .gen _ _ (c_cgates m X T M _ _ a (by assumption)) fun _ => ?_
  (try dsimp only[awp]);conv=>whnf
  refine .gen _ _ (c_idx_Mg (gatesM m a) 169 [.ptr 3 [] 0] (fun x => decide (x.name = s)) _ fun x _ => FnH.frame [3] (c_find4 x s) ⟨rfl, rfl, rfl, rfl⟩ (by (repeat' first|exact rfl|exact trivial|exact wR|exact lR _|apply aI)) (by (repeat' first|exact rfl|exact trivial|exact wR|exact lR _|apply aI))) fun _ => ?_
  (try dsimp only[awp]);conv=>whnf
  refine ⟨⟨_, _, .refl _ _, ?_⟩⟩
  conv=>whnf
  refine ⟨?_, rfl, by simp [nextId], .mk ?_ (by simp [idsOk])⟩
  ·repeat' first|exact rfl|exact trivial|exact wR|exact lR _|apply aI
  ·repeat' first|exact rfl|exact trivial|exact wR|exact lR _|apply aI
   all_goals first | exact hT.1 | exact hT.2 | exact hO.1 | exact hO.2 | exact hX.1 | (show (match bndB 3 X with | true => _ | false => _) = true; rw [hX.2]; rfl)

structure CInv (m : Md) (st : CS) : Prop where
 len : st.nodes.length = st.es.length
 nd : (st.es.map (·.1)).Nodup
 ok : ∀ e ∈ st.es, okN m e.1 ∧ e.1.1 ≠ 0

def univ (m : Md) : List Node := (List.range m.hs.length).map (fun (i : Nat) => ((1, 0, (i : Int)) : Node)) ++ allNodes m

theorem univ_mem {m : Md} {x : Node} (h : okN m x) (h0 : x.1 ≠ 0) : x ∈ univ m := by
 unfold univ
 rw [List.mem_append]
 rcases h with h | h | h
 ·omega
 ·left
  obtain ⟨x1, x2, x3⟩ := x
  obtain ⟨rfl, rfl, h3, h4⟩ := h
  rw [List.mem_map]
  dsimp only at h3 h4
  exact ⟨x3.toNat, by rw [List.mem_range]; omega, by rw [Int.toNat_of_nonneg h3]⟩
 ·exact .inr h

theorem nodup_sub {α : Type} [DecidableEq α] : ∀ {l u : List α}, l.Nodup → (∀ x ∈ l, x ∈ u) → l.length ≤ u.length
 | [], _, _, _ => Nat.zero_le _
 | x :: l, u, hn, hs => by
   rw [List.nodup_cons] at hn
   have hx := hs x (by simp)
   have := nodup_sub (u := u.erase x) hn.2 fun y hy => (List.mem_erase_of_ne (fun e => hn.1 (by rw [← e]; exact hy))).2 (hs y (by simp [hy]))
   rw [List.length_erase_of_mem hx] at this
   have := List.length_pos_of_mem hx
   simp only [List.length_cons]; omega

theorem all_len {m : Md} (hB : MdB m) : (allNodes m).length ≤ 10000 := by
 have key : ∀ (l : List Int), (∀ a ∈ l, (gatesM m a).length ≤ 100) → (l.flatMap (nodesAt m)).length ≤ 100 * l.length := by
  intro l
  induction l with
  | nil => intro _; simp
  | cons a l ih =>
    intro h
    simp only [List.flatMap_cons, List.length_append, List.length_cons]
    have h1 := ih fun b hb => h b (by simp [hb])
    have h2 := h a (by simp)
    have h3 : (nodesAt m a).length = (gatesM m a).length := by simp [nodesAt]
    omega
 have h1 := key (atsM m) fun a _ => by
  unfold gatesM
  split
  ·exact hB.gates.1
  ·rw [List.getD_eq_getElem?_getD]
   cases hp : m.pages[a.toNat]? with
   | none => exact Nat.zero_le _
   | some p => exact (hB.pgates p (List.mem_of_getElem? hp)).1
 rw [ats_len] at h1
 have := hB.pages
 unfold allNodes
 omega

theorem CInv.short {m : Md} (hB : MdB m) {st : CS} (h : CInv m st) : st.nodes.length ≤ 20000 := by
 have := nodup_sub h.nd (u := univ m) fun x hx => by
  obtain ⟨e, he, rfl⟩ := List.mem_map.1 hx
  exact univ_mem (h.ok e he).1 (h.ok e he).2
 rw [List.length_map] at this
 have h1 := all_len hB
 have h2 := hB.hs
 have : (univ m).length = m.hs.length + (allNodes m).length := by simp [univ]
 rw [h.len]
 omega

theorem mark_new {x : Node} {v : Int} : ∀ {es : Marks}, lookO es x = none → mark es x v = es ++ [(x, v)] ∧ x ∉ es.map (·.1)
 | [], _ => ⟨rfl, by simp⟩
 | (y, u) :: es, h => by
   simp only [lookO] at h
   split at h
   ·cases h
   rename_i hy
   obtain ⟨h1, h2⟩ := mark_new h
   refine ⟨?_, ?_⟩
   ·simp only [mark, if_neg hy]; rw [h1]; rfl
   ·simp only [List.map_cons, List.mem_cons, not_or]
    exact ⟨fun e => hy e.symm, h2⟩

theorem CInv.push {m : Md} {st : CS} (h : CInv m st) {x : Node} (hx : okN m x) (h0 : x.1 ≠ 0) (hn : lookO st.es x = none) (vars : Int) (nd : Nd) : CInv m (pushN vars st x nd).2 := by
 obtain ⟨h1, h2⟩ := mark_new (v := vars + st.nodes.length) hn
 refine ⟨?_, ?_, ?_⟩
 ·show (st.nodes ++ [nd]).length = (mark _ _ _).length
  rw [h1, List.length_append, List.length_append, h.len]; rfl
 ·show ((mark _ _ _).map (·.1)).Nodup
  rw [h1, List.map_append, List.nodup_append]
  refine ⟨h.nd, by simp, ?_⟩
  intro a ha b hb
  simp at hb
  subst hb
  exact fun e => h2 (e ▸ ha)
 ·show ∀ e ∈ mark _ _ _, _
  rw [h1]
  intro e he
  rcases List.mem_append.1 he with he | he
  ·exact h.ok e he
  ·simp at he; subst he; exact ⟨hx, h0⟩

theorem comp_inv {m : Md} (hc : ClosedM m) {rank : Node → Nat} (hr : RankM m rank) (vars : Int) : ∀ (n : Nat) (x : Node) (st : CS), okN m x → CInv m st →
  CInv m (compN m vars n x st).2 ∧ ∀ z : Node, z.1 = 2 → (x.1 = 2 → rank x < rank z) → lookO st.es z = none → lookO (compN m vars n x st).2.es z = none
 | 0, _, _, _, h => ⟨h, fun _ _ _ h => h⟩
 | n + 1, x, st, hx, h => by
   have push : ∀ {s : CS} (nd : Nd), CInv m s → x.1 ≠ 0 → lookO s.es x = none → (∀ z : Node, z.1 = 2 → (x.1 = 2 → rank x < rank z) → lookO st.es z = none → lookO s.es z = none) →
     CInv m (pushN vars s x nd).2 ∧ ∀ z : Node, z.1 = 2 → (x.1 = 2 → rank x < rank z) → lookO st.es z = none → lookO (pushN vars s x nd).2.es z = none := by
    intro s nd h1 h2 h3 h4
    refine ⟨h1.push hx h2 h3 vars nd, fun z hz hxz hs => ?_⟩
    show lookO (mark s.es x _) z = none
    rw [lookO_mark, if_neg]
    ·exact h4 z hz hxz hs
    ·rintro rfl; have := hxz hz; omega
   unfold compN
   split
   ·exact ⟨h, fun _ _ _ h => h⟩
   rename_i h0
   split
   ·exact ⟨h, fun _ _ _ h => h⟩
   rename_i hn
   split
   ·exact push _ h h0 hn fun _ _ _ h => h
   rename_i h1
   split
   ·exact ⟨h, fun _ _ _ h => h⟩
   have h2 : x.1 = 2 := by
    rcases hx with h | h | h
    ·omega
    ·omega
    ·exact (mem_all.1 h).1
   have hk := (okN_kids hc hx h2).2
   have key : ∀ (l : List Node) (s : CS) (acc : List Int), (∀ y ∈ l, okN m y ∧ (y.1 = 2 → rank y < rank x)) → CInv m s → CInv m (compL (compN m vars n) l s acc).2 ∧
     ∀ z : Node, z.1 = 2 → rank x ≤ rank z → lookO s.es z = none → lookO (compL (compN m vars n) l s acc).2.es z = none := by
    intro l
    induction l with
    | nil => intro s acc _ h; exact ⟨h, fun _ _ _ h => h⟩
    | cons y l ih =>
      intro s acc hl h
      unfold compL
      obtain ⟨hy, hyr⟩ := hl y (by simp)
      obtain ⟨h', g'⟩ := comp_inv hc hr vars n y s hy h
      have g2 : ∀ z : Node, z.1 = 2 → rank x ≤ rank z → lookO s.es z = none → lookO (compN m vars n y s).2.es z = none := fun z hz hxz hs => g' z hz (fun e => by have := hyr e; omega) hs
      split
      ·exact ⟨h', g2⟩
      ·obtain ⟨i1, i2⟩ := ih (compN m vars n y s).2 (acc ++ [(compN m vars n y s).1.2]) (fun z hz => hl z (by simp [hz])) h'
       exact ⟨i1, fun z hz hxz hs => i2 z hz hxz (g2 z hz hxz hs)⟩
   obtain ⟨k1, k2⟩ := key (kidsM m x) st [] (fun y hy => ⟨hk y hy, hr x hx h2 y hy⟩) h
   split
   ·exact ⟨k1, fun z hz hxz hs => k2 z hz (by have := hxz h2; omega) hs⟩
   ·exact push _ k1 h0 (k2 x h2 (Nat.le_refl _) hn) fun z hz hxz hs => k2 z hz (by have := hxz h2; omega) hs

theorem c_nodeKind (k : Int) : FnH Tryz.prog 144 [.int .i64 k] [] (.tup [.int .i64 (kindN k), .bool (statK k)]) [] := by
 obtain ⟨a, ha⟩ : ∃ a, kindN k = a := ⟨_, rfl⟩
 obtain ⟨b, hb⟩ : ∃ b, statK k = b := ⟨_, rfl⟩
 rw [ha, hb]
 refine FnH.intro lay mixed Tryz.func144 (by kernel_rfl) rfl (by kernel_rfl) rfl fun hok => ?_
 (try dsimp only[argC,succC]);(try dsimp only[awp]);conv=>whnf
 repeat' (first | (refine And.intro (fun _ => ?_) (fun _ => ?_) <;> ((try dsimp only[awp]);(conv=>whnf))))
 all_goals
  refine fM ?_;(conv=>whnf);refine ⟨?_,rfl⟩;conv=>whnf
 all_goals
  rw [← ha, ← hb]
  repeat' first|exact rfl|exact trivial|exact wR|exact lR _|apply aI
 all_goals
  unfold kindN statK at *
  first | (simp_all [le0]; done) | (show le0 _ _; simp_all [le0]; done) | skip

abbrev xC (vars : Int) (st : CS) : AV := .ag [.int .i64 vars, .sl 3 (st.nodes.map Nd.av) (.own 2), .int .i64 0]
abbrev hpC (m : Md) (vars : Int) (st : CS) : Heap := hpF m (xC vars st) (.tok 3 st.nodes.length) (.amap shN (encM st.es))
abbrev compAV (r : (Bool × Int) × CS) : AV := .tup [.int .i64 r.1.2, errAV (if r.1.1 = true then 7 else 0)]

theorem xC_wk (vars : Int) (st : CS) : WkA (xC vars st) := ⟨le0_refl _, rfl⟩
theorem tC_wk (n : Nat) : WkO (.tok 3 n) := ⟨⟨rfl, rfl⟩, rfl⟩
theorem mC_wk (es : Marks) : WkO (.amap shN (encM es)) := ⟨⟨rfl, leM_refl _⟩, encM_bnd _ _⟩

theorem aupd_eq {es : Marks} {x : Node} {v w : Int} {k : List (AV × AV) → Prop} (e : w = v) (h : k (encM (mark es x v))) : AUpd (encM es) (nAV x) (.int .i64 w) k := by subst e; exact aupd_es h

def lvl (rank : Node → Nat) (x : Node) : Nat := if x.1 = 2 then rank x + 1 else 0

theorem c_cinput (m : Md) (hM : MOk m) (hB : MdB m) (rank : Node → Nat) (hr : RankM m rank) : ∀ (n : Nat) (a : Int) (s : Str) (st : CS), (a = -1 ∨ (0 ≤ a ∧ a < (m.pages.length : Int))) → InOk m a s → lvl rank (resR m a s) < n → CInv m st →
  FnH Tryz.prog 93 [.ptr 1 [] 0, .int .i64 a, .str s] (hpC m m.evs.length st) (compAV (compN m m.evs.length n (resR m a s) st)) (hpC m m.evs.length (compN m m.evs.length n (resR m a s) st).2) := by
 intro n
 induction n with
 | zero => intro a s st _ _ h; omega
 | succ n ih =>
   intro a s st ha hin hn hI
   have hev := hM.lens.1
   have cf := c_cfind m (xC m.evs.length st) (.tok 3 st.nodes.length) (.amap shN (encM st.es)) (xC_wk _ _) (tC_wk _) (mC_wk _) a s hin.pos ha hin.pg
   have hxo := hin.ok
   have hshort := hI.short hB
   have hcl := hM.closed
   have hkk := fun h2 => okN_kids hcl hxo h2
   have hrk := hr _ hxo
   have hInv := comp_inv hcl hr m.evs.length n
   generalize hx : resR m a s = x at *
   generalize hve : (m.evs.length : Int) = ve at *
   refine FnH.intro lay mixed Tryz.func93 (by kernel_rfl) rfl (by kernel_rfl) rfl fun hok => ?_
   (try dsimp only[argC,succC]);(try dsimp only[awp]);conv=>whnf
   refine .gen _ _ cf fun _ => ?_
   (try dsimp only[awp]);conv=>whnf
   refine And.intro (fun h0 => ?_) (fun h0 => ?_)
   ·rw [show compN m ve (n + 1) x st = ((false, x.2.2), st) from if_pos h0]
    (try dsimp only[awp]);conv=>whnf
    refine ⟨⟨_, _, .refl _ _, ?_⟩⟩
    conv=>whnf
    refine ⟨?_, rfl, by simp [nextId], .mk ?_ (by simp [idsOk])⟩
    ·repeat' first|exact rfl|exact trivial|exact wR|exact lR _|apply aI
    ·repeat' first|exact rfl|exact trivial|exact wR|exact lR _|apply aI
     all_goals first | exact leM_refl _ | exact leM_nr _ _ | exact encM_bnd _ _ | (show leRL _ (List.map _ (_ ++ [_])); rw [List.map_append]; refine leRL_snoc ?_ (lR _); (repeat' first|exact rfl|exact trivial|exact wR|exact lR _|apply aI); done) | (simp [pushN]; done) | (simp [pushN]; omega)
   (try dsimp only[awp]);conv=>whnf
   refine ADraw.auto (by kernel_rfl) ?_;conv=>whnf
   refine alook_opt (fun v hv => ?_) (fun hv => ?_)
   ·rw [show compN m ve (n + 1) x st = ((false, v), st) from by unfold compN; rw [if_neg h0, hv]]
    (try dsimp only[awp]);conv=>whnf
    refine ⟨⟨_, _, .refl _ _, ?_⟩⟩
    conv=>whnf
    refine ⟨?_, rfl, by simp [nextId], .mk ?_ (by simp [idsOk])⟩
    ·repeat' first|exact rfl|exact trivial|exact wR|exact lR _|apply aI
    ·repeat' first|exact rfl|exact trivial|exact wR|exact lR _|apply aI
     all_goals first | exact leM_refl _ | exact leM_nr _ _ | exact encM_bnd _ _ | (show leRL _ (List.map _ (_ ++ [_])); rw [List.map_append]; refine leRL_snoc ?_ (lR _); (repeat' first|exact rfl|exact trivial|exact wR|exact lR _|apply aI); done) | (simp [pushN]; done) | (simp [pushN]; omega)
   (try dsimp only[awp]);conv=>whnf
   refine And.intro (fun h1 => ?_) (fun h1 => ?_)
   ·have hh : 0 ≤ x.2.2 ∧ x.2.2 < (m.hs.length : Int) := by
     rcases hxo with h | h | h
     ·omega
     ·exact ⟨h.2.2.1, h.2.2.2⟩
     ·have := (mem_all.1 h).1; omega
    have hR : compN m ve (n + 1) x st = pushN ve st x ⟨0, if (houseAt m x).on = true then 1 else 0, []⟩ := by unfold compN; rw [if_neg h0, hv]; exact if_pos h1
    rw [hR]
    (try dsimp only[awp]);conv=>whnf
    refine ADraw.auto (by kernel_rfl) ?_;conv=>whnf
    refine aidxD default hh ?_
    rw [show m.hs.getD x.2.2.toNat default = houseAt m x from rfl]
    generalize houseAt m x = hs at *
    (try dsimp only[awp]);conv=>whnf
    refine And.intro (fun g => ?_) (fun g => ?_)
    ·rw [if_pos g]
     (try dsimp only[awp]);conv=>whnf
     (try dsimp only[awp]);conv=>whnf
     refine ADraw.auto (by kernel_rfl) ?_;conv=>whnf
     refine ⟨by rw [List.length_map], .mk (by simp [maxL]; omega) (by simp; omega) ?_⟩
     (try dsimp only[awp]);conv=>whnf
     refine ADraw.auto (by kernel_rfl) ?_;conv=>whnf
     refine ⟨inr64 (by simp; omega) (by simp; omega), ?_⟩
     (try dsimp only[awp]);conv=>whnf
     refine ⟨inr64 (by simp; omega) (by simp; omega), ?_⟩
     (try dsimp only[awp]);conv=>whnf
     refine aupd_eq (v := ve + st.nodes.length) (by simp; omega) ?_
     (try dsimp only[awp]);conv=>whnf
     refine ADraw.auto (by kernel_rfl) ?_;conv=>whnf
     refine alook_put ?_
     (try dsimp only[awp]);conv=>whnf
     refine ⟨⟨_, _, .refl _ _, ?_⟩⟩
     conv=>whnf
     refine ⟨?_, rfl, by simp [nextId], .mk ?_ (by simp [idsOk])⟩
     ·repeat' first|exact rfl|exact trivial|exact wR|exact lR _|apply aI
     ·repeat' first|exact rfl|exact trivial|exact wR|exact lR _|apply aI
      all_goals first | exact leM_refl _ | exact leM_nr _ _ | exact encM_bnd _ _ | (show leRL _ (List.map _ (_ ++ [_])); rw [List.map_append]; refine leRL_snoc ?_ (lR _); (repeat' first|exact rfl|exact trivial|exact wR|exact lR _|apply aI); done) | (simp [pushN]; done) | (simp [pushN]; omega)
    ·rw [if_neg (by rw [g]; simp)]
     (try dsimp only[awp]);conv=>whnf
     refine ADraw.auto (by kernel_rfl) ?_;conv=>whnf
     refine ⟨by rw [List.length_map], .mk (by simp [maxL]; omega) (by simp; omega) ?_⟩
     (try dsimp only[awp]);conv=>whnf
     refine ADraw.auto (by kernel_rfl) ?_;conv=>whnf
     refine ⟨inr64 (by simp; omega) (by simp; omega), ?_⟩
     (try dsimp only[awp]);conv=>whnf
     refine ⟨inr64 (by simp; omega) (by simp; omega), ?_⟩
     (try dsimp only[awp]);conv=>whnf
     refine aupd_eq (v := ve + st.nodes.length) (by simp; omega) ?_
     (try dsimp only[awp]);conv=>whnf
     refine ADraw.auto (by kernel_rfl) ?_;conv=>whnf
     refine alook_put ?_
     (try dsimp only[awp]);conv=>whnf
     refine ⟨⟨_, _, .refl _ _, ?_⟩⟩
     conv=>whnf
     refine ⟨?_, rfl, by simp [nextId], .mk ?_ (by simp [idsOk])⟩
     ·repeat' first|exact rfl|exact trivial|exact wR|exact lR _|apply aI
     ·repeat' first|exact rfl|exact trivial|exact wR|exact lR _|apply aI
      all_goals first | exact leM_refl _ | exact leM_nr _ _ | exact encM_bnd _ _ | (show leRL _ (List.map _ (_ ++ [_])); rw [List.map_append]; refine leRL_snoc ?_ (lR _); (repeat' first|exact rfl|exact trivial|exact wR|exact lR _|apply aI); done) | (simp [pushN]; done) | (simp [pushN]; omega)
   have h2 : x.1 = 2 := by
    rcases hxo with h | h | h
    ·omega
    ·omega
    ·exact (mem_all.1 h).1
   obtain ⟨hxa, hkk⟩ := hkk h2
   obtain ⟨_, hpg, hix⟩ := mem_all.1 hxa
   have hrk := hrk h2
   have hlv : rank x < n := by unfold lvl at hn; rw [if_pos h2] at hn; omega
   have hil : (gateAt m x).ins.length ≤ 40 := by
    have : gateAt m x ∈ gatesM m x.2.1 := by
     unfold gateAt
     rw [List.getD_eq_getElem?_getD, List.getElem?_eq_getElem (by omega)]
     exact List.getElem_mem _
    unfold gatesM at this
    split at this
    ·exact hB.gates.2 _ this
    ·rw [List.getD_eq_getElem?_getD] at this
     cases hp : m.pages[x.2.1.toNat]? with
     | none => rw [hp] at this; exact absurd this (by show ¬ gateAt m x ∈ ([] : List Mg); simp)
     | some p => rw [hp] at this; exact (hB.pgates p (List.mem_of_getElem? hp)).2 _ this
   have hins : ∀ (j : Nat) (h : j < (gateAt m x).ins.length), InOk m x.2.1 (gateAt m x).ins[j] ∧ (kidsM m x)[j]? = some (resR m x.2.1 (gateAt m x).ins[j]) := fun j h => by
    have hg : gateAt m x ∈ gatesM m x.2.1 := by
     unfold gateAt
     rw [List.getD_eq_getElem?_getD, List.getElem?_eq_getElem (by omega)]
     exact List.getElem_mem _
    exact ⟨hM.inOk hpg (hM.ins_in hpg hg (List.getElem_mem h)), by simp [kidsM, h]⟩
   have hlen : (kidsM m x).length = (gateAt m x).ins.length := by simp [kidsM]
   have hmem : ∀ y ∈ kidsM m x, lvl rank y < n := fun y hy => by
    unfold lvl
    split
    ·rename_i e; have := hrk y hy e; omega
    ·omega
   have hR : compN m ve (n + 1) x st = if statK (gateAt m x).kind = false then ((true, 0), st)
    else if (compL (compN m ve n) (kidsM m x) st []).1.1 = true then ((true, 0), (compL (compN m ve n) (kidsM m x) st []).2)
    else pushN ve (compL (compN m ve n) (kidsM m x) st []).2 x ⟨kindN (gateAt m x).kind, (gateAt m x).k, (compL (compN m ve n) (kidsM m x) st []).1.2⟩ := by
    conv => lhs; unfold compN
    rw [if_neg h0, hv]
    exact if_neg h1
   have cK := c_nodeKind (gateAt m x).kind
   (try dsimp only[awp]);conv=>whnf
   refine ADraw.frz [3] ?_
   conv=>whnf
   refine And.intro ⟨rfl, rfl⟩ ?_
   conv=>whnf
   refine ⟨[true, true, true, false, true, true, true, true, false, false], by kernel_rfl, ?_⟩
   conv=>whnf
   refine .gen _ _ (c_cgates m _ _ _ _ _ x.2.1 hpg) fun _ => ?_
   (try dsimp only[awp]);conv=>whnf
   refine aidxD default hix ?_
   have hga : (gatesM m x.2.1).getD x.2.2.toNat default = gateAt m x := rfl
   rw [hga]
   generalize gateAt m x = g at *
   generalize kidsM m x = K at *
   (try dsimp only[awp]);conv=>whnf
   refine .pure _ _ ?_ ⟨rfl, rfl⟩ cK fun _ => ?_
   ·exact leL_refl _
   (try dsimp only[awp]);conv=>whnf
   refine And.intro (fun g1 => ?_) (fun g1 => ?_)
   ·rw [hR, if_pos (by simpa using g1)]
    (try dsimp only[awp]);conv=>whnf
    refine ⟨⟨_, _, .refl _ _, ?_⟩⟩
    conv=>whnf
    refine ⟨?_, rfl, by simp [nextId], .mk ?_ (by simp [idsOk])⟩
    ·repeat' first|exact rfl|exact trivial|exact wR|exact lR _|apply aI
    ·repeat' first|exact rfl|exact trivial|exact wR|exact lR _|apply aI
     all_goals first | exact leM_refl _ | exact leM_nr _ _ | exact encM_bnd _ _ | (show leRL _ (List.map _ (_ ++ [_])); rw [List.map_append]; refine leRL_snoc ?_ (lR _); (repeat' first|exact rfl|exact trivial|exact wR|exact lR _|apply aI); done) | (simp [pushN]; done) | (simp [pushN]; omega)
   have g1 : statK g.kind = true := by simpa using g1
   rw [if_neg (by rw [g1]; simp)] at hR
   generalize hW : compN m ve n = W at *
   generalize hS : compL W K st [] = Rz at *
   (try dsimp only[awp]);conv=>whnf
   refine LoopE.of <| LoopSpec.inv (.growF 4 [2] 1 [] (.ag [.int .i64 (kindN g.kind), .int .i64 g.k, .nils]) .nils _ rfl rfl (.inl ⟨rfl, rfl⟩) rfl (.refl _ _))
    (fun (q : Nat × CS × List Int) => q.1 ≤ g.ins.length ∧ compL W (K.drop q.1) q.2.1 q.2.2 = Rz ∧ q.2.2.length = q.1 ∧ CInv m q.2.1 ∧ (∀ z : Node, z.1 = 2 → rank x ≤ rank z → lookO st.es z = none → lookO q.2.1.es z = none))
    (fun q => [(78, .int .i64 q.1)]) (fun q => (6, .tok 1 q.1) :: (5, .gone) :: (4, .box (.ag [.int .i64 (kindN g.kind), .int .i64 g.k, .sl 1 (q.2.2.map (.int .i64)) (.own 6)])) :: (3, .gone) :: hpC m ve q.2.1) (fun q => g.ins.length - q.1) (0, st, []) ?_ (fun _ => rfl) ?_ ?_
   ·exact ⟨Nat.zero_le _, hS, rfl, hI, fun _ _ _ h => h⟩
   ·refine ⟨?_, .mk ?_ (by simp [idsOk])⟩
    ·repeat' first|exact rfl|exact trivial|exact wR|exact lR _|apply aI
    ·repeat' first|exact rfl|exact trivial|exact wR|exact lR _|apply aI
     all_goals first | exact leM_refl _ | exact encM_bnd _ _
   rintro ⟨j, sj, acc⟩ ⟨hj, hnj, hacc, hIj, hzj⟩ _
   dsimp only at hj hnj hacc hIj hzj
   (try dsimp only[awp]);conv=>whnf
   refine And.intro (fun hh => ?_) (fun hh => ?_)
   ·have hjl : j < g.ins.length := by simpa using hh
    obtain ⟨hij, hKj⟩ := hins j hjl
    rw [drop_of_get? hKj] at hnj
    unfold compL at hnj
    have hyK := List.mem_of_getElem? hKj
    have hlj := hmem _ hyK
    have cw := ih x.2.1 g.ins[j] sj hpg hij hlj hIj
    have hIr := hInv (resR m x.2.1 g.ins[j]) sj hij.ok hIj
    have hyr := hrk _ hyK
    (try dsimp only[awp]);conv=>whnf
    refine aidx hjl ?_
    generalize g.ins[j] = s2 at *
    generalize resR m x.2.1 s2 = y at *
    generalize hr0 : W y sj = r at *
    obtain ⟨⟨rb, ra⟩, rs⟩ := r
    dsimp only at hnj hIr cw
    cases rb with
    | true =>
      rw [if_pos rfl] at hnj
      rw [show compAV ((true, ra), rs) = .tup [.int .i64 ra, .ifc 90 (.int .i64 7)] from rfl] at cw
      (try dsimp only[awp]);conv=>whnf
      refine .gen _ _ (FnH.frame [0, 1, 2] cw ⟨rfl, rfl, rfl, rfl⟩ ?_ ?_) fun _ => ?_
      ·repeat' first|exact rfl|exact trivial|exact wR|exact lR _|apply aI
       all_goals first | exact leM_rn _ _ | exact encM_bnd _ _
      ·repeat' first|exact rfl|exact trivial|exact wR|exact lR _|apply aI
      rw [hR, ← hnj, if_pos rfl]
      (try dsimp only[awp]);conv=>whnf
      refine ⟨⟨_, _, .refl _ _, ?_⟩⟩
      conv=>whnf
      refine ⟨?_, rfl, by simp [nextId], .mk ?_ (by simp [idsOk])⟩
      ·repeat' first|exact rfl|exact trivial|exact wR|exact lR _|apply aI
      ·repeat' first|exact rfl|exact trivial|exact wR|exact lR _|apply aI
       all_goals first | exact leM_refl _ | exact leM_nr _ _ | exact encM_bnd _ _ | (show leRL _ (List.map _ (_ ++ [_])); rw [List.map_append]; refine leRL_snoc ?_ (lR _); (repeat' first|exact rfl|exact trivial|exact wR|exact lR _|apply aI); done) | (simp [pushN]; done) | (simp [pushN]; omega)
    | false =>
      rw [if_neg (by simp)] at hnj
      rw [show compAV ((false, ra), rs) = .tup [.int .i64 ra, .nilI] from rfl] at cw
      (try dsimp only[awp]);conv=>whnf
      refine .gen _ _ (FnH.frame [0, 1, 2] cw ⟨rfl, rfl, rfl, rfl⟩ ?_ ?_) fun _ => ?_
      ·repeat' first|exact rfl|exact trivial|exact wR|exact lR _|apply aI
       all_goals first | exact leM_rn _ _ | exact encM_bnd _ _
      ·repeat' first|exact rfl|exact trivial|exact wR|exact lR _|apply aI
      (try dsimp only[awp]);conv=>whnf
      refine ⟨by rw [List.length_map, hacc], .mk (by simp [maxL]; omega) (by simp; omega) ?_⟩
      (try dsimp only[awp]);conv=>whnf
      refine zA ?_;conv=>whnf
      refine ⟨(j + 1, rs, acc ++ [ra]), ?_, ?_, ?_⟩
      ·exact ⟨hjl, hnj, by simp [hacc], hIr.1, fun z hz hxz hs => hIr.2 z hz (fun e => by have := hyr e; omega) (hzj z hz hxz hs)⟩
      ·refine ⟨?_, .mk ?_ (by simp [idsOk])⟩
       ·repeat' first|exact rfl|exact trivial|exact wR|exact lR _|apply aI
       ·repeat' first|exact rfl|exact trivial|exact wR|exact lR _|apply aI
        all_goals first | exact leM_nr _ _ | exact encM_bnd _ _ | (show leRL _ (List.map _ (_ ++ [_])); rw [List.map_append]; exact lR _) | (simp [hacc]; done) | (simp; omega)
      ·show g.ins.length - (j + 1) < g.ins.length - j
       omega
   have hjl : K.length ≤ j := by (have : ¬ j < g.ins.length := by simpa using hh); omega
   rw [List.drop_eq_nil_of_le hjl] at hnj
   unfold compL at hnj
   rw [← hnj, if_neg (by simp)] at hR
   rw [hR]
   have hshort := hIj.short hB
   (try dsimp only[awp]);conv=>whnf
   (try dsimp only[awp]);conv=>whnf
   refine ADraw.auto (by kernel_rfl) ?_;conv=>whnf
   refine ⟨by rw [List.length_map], .mk (by simp [maxL]; omega) (by simp; omega) ?_⟩
   (try dsimp only[awp]);conv=>whnf
   refine ADraw.auto (by kernel_rfl) ?_;conv=>whnf
   refine ⟨inr64 (by simp; omega) (by simp; omega), ?_⟩
   (try dsimp only[awp]);conv=>whnf
   refine ⟨inr64 (by simp; omega) (by simp; omega), ?_⟩
   (try dsimp only[awp]);conv=>whnf
   refine aupd_eq (v := ve + sj.nodes.length) (by simp; omega) ?_
   (try dsimp only[awp]);conv=>whnf
   refine ADraw.auto (by kernel_rfl) ?_;conv=>whnf
   refine alook_put ?_
   (try dsimp only[awp]);conv=>whnf
   refine ⟨⟨_, _, .refl _ _, ?_⟩⟩
   conv=>whnf
   refine ⟨?_, rfl, by simp [nextId], .mk ?_ (by simp [idsOk])⟩
   ·repeat' first|exact rfl|exact trivial|exact wR|exact lR _|apply aI
   ·repeat' first|exact rfl|exact trivial|exact wR|exact lR _|apply aI
    all_goals first | exact leM_refl _ | exact leM_nr _ _ | exact encM_bnd _ _ | (show leRL _ (List.map _ (_ ++ [_])); rw [List.map_append]; refine leRL_snoc ?_ (lR _); (repeat' first|exact rfl|exact trivial|exact wR|exact lR _|apply aI); done) | (simp [pushN]; done) | (simp [pushN]; omega)

theorem countP_lt {α : Type} {p q : α → Bool} : ∀ {l : List α}, (∀ x ∈ l, p x = true → q x = true) → (∃ y ∈ l, q y = true ∧ p y = false) → l.countP p < l.countP q
 | [], _, h => by obtain ⟨y, hy, _⟩ := h; simp at hy
 | x :: l, h1, h2 => by
   simp only [List.countP_cons]
   have hle : l.countP p ≤ l.countP q := List.countP_mono_left fun y hy => h1 y (by simp [hy])
   obtain ⟨y, hy, hq, hp⟩ := h2
   rcases List.mem_cons.1 hy with rfl | hy
   ·rw [if_pos hq, if_neg (by rw [hp]; simp)]; omega
   ·have ih := countP_lt (l := l) (fun z hz => h1 z (by simp [hz])) ⟨y, hy, hq, hp⟩
    have := h1 x (by simp)
    split
    ·rename_i hpx; rw [if_pos (this hpx)]; omega
    ·omega

theorem ok_gateC {m : Md} {x : Node} (h : okN m x) (h2 : x.1 = 2) : x ∈ allNodes m := by
 rcases h with h | h | h
 ·omega
 ·omega
 ·exact h

theorem rank_bd {m : Md} (hc : ClosedM m) {rank : Node → Nat} (hr : RankM m rank) : ∃ rank', RankM m rank' ∧ ∀ x, rank' x ≤ (allNodes m).length := by
 refine ⟨fun x => (allNodes m).countP fun z => decide (rank z < rank x), ?_, fun x => List.countP_le_length⟩
 intro x hx h2 y hy hy2
 have hxa := (okN_kids hc hx h2)
 have hlt := hr x hx h2 y hy hy2
 refine countP_lt (fun z _ h => ?_) ⟨y, ?_, ?_, ?_⟩
 ·have := of_decide_eq_true h
  exact decide_eq_true (by omega)
 ·exact ok_gateC (hxa.2 y hy) hy2
 ·exact decide_eq_true hlt
 ·exact decide_eq_false (by omega)
def fuelC (m : Md) : Nat := (allNodes m).length + 2

theorem MOk.rank {m : Md} (hM : MOk m) : ∃ rank, RankM m rank ∧ ∀ x, lvl rank x < fuelC m := by
 obtain ⟨rank, hr⟩ := cyc_rank hM.closed hM.cyc
 obtain ⟨rank', hr', hb⟩ := rank_bd hM.closed hr
 refine ⟨rank', hr', fun x => ?_⟩
 have := hb x
 unfold lvl fuelC
 split <;> omega

def compTop (m : Md) (s : Str) : (Bool × Int) × CS := compN m m.evs.length (fuelC m) (resR m (-1) s) ⟨[], []⟩

def atR (m : Md) (s : Str) : Fo × Int :=
 if (inputR m (-1) s).2 ≠ 0 then (⟨0, [], 0⟩, (inputR m (-1) s).2) else if (compTop m s).1.1 = true then (⟨0, [], 0⟩, 7)
 else (⟨m.evs.length, (compTop m s).2.nodes, (compTop m s).1.2⟩, 0)

abbrev atAV (r : Fo × Int) : AV := .tup [r.1.av, errAV r.2]

theorem CInv.nil (m : Md) : CInv m ⟨[], []⟩ := ⟨rfl, by simp, by simp⟩

theorem c_at (m : Md) (s : Str) (hC : MdC m) (hB : MdB m) (R : AV) (hR : R = atAV (atR m s)) : FnH Tryz.prog 44 [m.av, .str s] [] R [] := by
 have ci := c_Input m (-1) s hC hB _ rfl
 have bE := errAV_bnd (inputR m (-1) s).2
 by_cases hi : (inputR m (-1) s).2 ≠ 0
 ·rw [show atR m s = (⟨0, [], 0⟩, (inputR m (-1) s).2) from if_pos hi] at hR
  subst hR
  rw [errAV_ne hi] at ci
  rw [show atAV (⟨0, [], 0⟩, (inputR m (-1) s).2) = .tup [(⟨0, [], 0⟩ : Fo).av, .ifc 90 (.int .i64 (inputR m (-1) s).2)] from by unfold atAV; rw [errAV_ne hi]]
  generalize inputR m (-1) s = q at *
  obtain ⟨⟨q1, q2, q3⟩, e⟩ := q
  refine FnH.intro lay mixed Tryz.func44 (by kernel_rfl) rfl (by kernel_rfl) rfl fun hok => ?_
  (try dsimp only[argC,succC]);(try dsimp only[awp]);conv=>whnf
  refine .pure _ _ ?_ ⟨rfl, rfl⟩ ci fun _ => ?_
  ·exact leL_refl _
  (try dsimp only[awp]);conv=>whnf
  refine ⟨⟨_, _, .refl _ _, ?_⟩⟩
  conv=>whnf
  refine ⟨?_, rfl, by simp [nextId], .mk ?_ (by simp [idsOk])⟩
  ·repeat' first|exact rfl|exact trivial|exact wR|exact lR _|apply aI
  ·repeat' first|exact rfl|exact trivial|exact wR|exact lR _|apply aI
 have hi : (inputR m (-1) s).2 = 0 := by simpa using hi
 have hin0 : checkM m = 0 ∧ isInR m (-1) s = true := by
  unfold inputR at hi
  split at hi
  ·rename_i h; exact absurd hi h
  rename_i h0
  rw [if_neg (by omega), if_neg (by omega)] at hi
  split at hi
  ·cases hi
  ·rename_i h; exact ⟨by simpa using h0, by simpa using h⟩
 have hM := checkM_ok hin0.1
 have hin := hM.inOk (.inl rfl) hin0.2
 obtain ⟨rank, hr, hb⟩ := hM.rank
 have cw := c_cinput m hM hB rank hr (fuelC m) (-1) s ⟨[], []⟩ (.inl rfl) hin (hb _) (.nil m)
 rw [show compN m m.evs.length (fuelC m) (resR m (-1) s) ⟨[], []⟩ = compTop m s from rfl] at cw
 rw [hi, errAV_zero] at ci
 have hR2 : atR m s = if (compTop m s).1.1 = true then (⟨0, [], 0⟩, 7) else (⟨m.evs.length, (compTop m s).2.nodes, (compTop m s).1.2⟩, 0) := if_neg (by rw [hi]; simp)
 rw [hR2] at hR
 clear hR2 hi
 generalize inputR m (-1) s = q at *
 obtain ⟨⟨q1, q2, q3⟩, e⟩ := q
 generalize compTop m s = r at *
 obtain ⟨⟨rb, ra⟩, rn, re⟩ := r
 dsimp only at hR
 have cv : Cv [] [(3, .box (.ag [m.av, .ag [.int .i64 m.evs.length, .nils, .int .i64 0], .mp 2])), (2, .amap shN []), (1, .box (.ag [.int .i64 0, .nils, .int .i64 0])), (0, .box m.av)] [] [(4, .tok 3 0), (3, .box (.ag [m.av, .ag [.int .i64 m.evs.length, .sl 3 [] (.own 4), .int .i64 0], .mp 2])), (2, .amap shN []), (1, .box (.ag [.int .i64 0, .nils, .int .i64 0])), (0, .box m.av)] :=
  .growF 3 [1, 1] 3 [] (.ag [m.av, .ag [.int .i64 m.evs.length, .nils, .int .i64 0], .mp 2]) .nils _ rfl rfl (.inl ⟨rfl, rfl⟩) rfl (.refl _ _)
 cases rb with
 | true =>
   rw [if_pos rfl] at hR
   subst hR
   rw [show compAV ((true, ra), ⟨rn, re⟩) = .tup [.int .i64 ra, .ifc 90 (.int .i64 7)] from rfl] at cw
   refine FnH.intro lay mixed Tryz.func44 (by kernel_rfl) rfl (by kernel_rfl) rfl fun hok => ?_
   (try dsimp only[argC,succC]);(try dsimp only[awp]);conv=>whnf
   refine .pure _ _ ?_ ⟨rfl, rfl⟩ ci fun _ => ?_
   ·exact leL_refl _
   (try dsimp only[awp]);conv=>whnf
   rw [show (((m.evs.map Ev.av).length : Nat) : Int) = (m.evs.length : Int) by simp]
   refine .gen _ _ (FnH.pre cv (FnH.frame [2, 3, 4] cw ⟨rfl, rfl, rfl, rfl⟩ ?_ ?_)) fun _ => ?_
   ·repeat' first|exact rfl|exact trivial|exact wR|exact lR _|apply aI
   ·repeat' first|exact rfl|exact trivial|exact wR|exact lR _|apply aI
   (try dsimp only[awp]);conv=>whnf
   refine ⟨⟨_, _, .refl _ _, ?_⟩⟩
   conv=>whnf
   refine ⟨?_, rfl, by simp [nextId], .mk ?_ (by simp [idsOk])⟩
   ·repeat' first|exact rfl|exact trivial|exact wR|exact lR _|apply aI
   ·repeat' first|exact rfl|exact trivial|exact wR|exact lR _|apply aI
 | false =>
   rw [if_neg (by simp)] at hR
   subst hR
   rw [show compAV ((false, ra), ⟨rn, re⟩) = .tup [.int .i64 ra, .nilI] from rfl] at cw
   refine FnH.intro lay mixed Tryz.func44 (by kernel_rfl) rfl (by kernel_rfl) rfl fun hok => ?_
   (try dsimp only[argC,succC]);(try dsimp only[awp]);conv=>whnf
   refine .pure _ _ ?_ ⟨rfl, rfl⟩ ci fun _ => ?_
   ·exact leL_refl _
   (try dsimp only[awp]);conv=>whnf
   rw [show (((m.evs.map Ev.av).length : Nat) : Int) = (m.evs.length : Int) by simp]
   refine .gen _ _ (FnH.pre cv (FnH.frame [2, 3, 4] cw ⟨rfl, rfl, rfl, rfl⟩ ?_ ?_)) fun _ => ?_
   ·repeat' first|exact rfl|exact trivial|exact wR|exact lR _|apply aI
   ·repeat' first|exact rfl|exact trivial|exact wR|exact lR _|apply aI
   (try dsimp only[awp]);conv=>whnf
   refine ⟨⟨_, _, .refl _ _, ?_⟩⟩
   conv=>whnf
   refine ⟨?_, rfl, by simp [nextId], .mk ?_ (by simp [idsOk])⟩
   ·repeat' first|exact rfl|exact trivial|exact wR|exact lR _|apply aI
   ·repeat' first|exact rfl|exact trivial|exact wR|exact lR _|apply aI

theorem errAV_two (e : Int) : errAV e = .nilI ∨ ∃ c : Int, errAV e = .ifc 90 (.int .i64 c) := by
 by_cases h : e = 0
 ·left; rw [h]; rfl
 ·right; exact ⟨e, errAV_ne h⟩

def staticR (m : Md) : Fo × Int := if checkM m ≠ 0 then (⟨0, [], 0⟩, checkM m) else atR m m.top

theorem c_Static (m : Md) (hC : MdC m) (hB : MdB m) (R : AV) (hR : R = atAV (staticR m)) : FnH Tryz.prog 14 [m.av] [] R [] := by
 have cc := c_mCheck m hC hB _ rfl
 by_cases h0 : checkM m ≠ 0
 ·rw [errAV_ne h0] at cc
  rw [show staticR m = (⟨0, [], 0⟩, checkM m) from if_pos h0] at hR
  rw [show atAV (⟨0, [], 0⟩, checkM m) = .tup [(⟨0, [], 0⟩ : Fo).av, .ifc 90 (.int .i64 (checkM m))] from by unfold atAV; rw [errAV_ne h0]] at hR
  subst hR
  refine FnH.intro lay mixed Tryz.func14 (by kernel_rfl) rfl (by kernel_rfl) rfl fun hok => ?_
  (try dsimp only[argC,succC]);(try dsimp only[awp]);conv=>whnf
  refine .pure _ _ ?_ ⟨rfl, rfl⟩ cc fun _ => ?_
  ·exact leL_refl _
  (try dsimp only[awp]);conv=>whnf
  refine ⟨⟨_, _, .refl _ _, ?_⟩⟩
  conv=>whnf
  refine ⟨?_, rfl, by simp [nextId], .mk ?_ (by simp [idsOk])⟩
  ·repeat' first|exact rfl|exact trivial|exact wR|exact lR _|apply aI
  ·repeat' first|exact rfl|exact trivial|exact wR|exact lR _|apply aI
 have h0 : checkM m = 0 := by simpa using h0
 rw [h0, errAV_zero] at cc
 have ca := c_at m m.top hC hB _ rfl
 rw [show staticR m = atR m m.top from if_neg (by rw [h0]; simp)] at hR
 subst hR
 unfold atAV at *
 have hE := errAV_two (atR m m.top).2
 generalize errAV (atR m m.top).2 = E at *
 generalize (atR m m.top).1 = f at *
 rcases hE with rfl | ⟨c, rfl⟩
 all_goals
  refine FnH.intro lay mixed Tryz.func14 (by kernel_rfl) rfl (by kernel_rfl) rfl fun hok => ?_
  (try dsimp only[argC,succC]);(try dsimp only[awp]);conv=>whnf
  refine .pure _ _ ?_ ⟨rfl, rfl⟩ cc fun _ => ?_
  ·exact leL_refl _
  (try dsimp only[awp]);conv=>whnf
  refine .pure _ _ ?_ ⟨rfl, rfl⟩ ca fun _ => ?_
  ·exact leL_refl _
  (try dsimp only[awp]);conv=>whnf
  refine ⟨⟨_, _, .refl _ _, ?_⟩⟩
  conv=>whnf
  refine ⟨?_, rfl, by simp [nextId], .mk ?_ (by simp [idsOk])⟩
  ·repeat' first|exact rfl|exact trivial|exact wR|exact lR _|apply aI
  ·repeat' first|exact rfl|exact trivial|exact wR|exact lR _|apply aI

theorem stat_eq {m : Md} (hM : MOk m) : staticR m = if (compTop m m.top).1.1 = true then (⟨0, [], 0⟩, 7) else (⟨m.evs.length, (compTop m m.top).2.nodes, (compTop m m.top).1.2⟩, 0) := by
 have hc := checkM_of hM
 have hi : (inputR m (-1) m.top).2 = 0 := by
  unfold inputR
  rw [if_neg (by rw [hc]; simp), if_neg (by omega), if_neg (by omega), if_neg (by rw [hM.top]; simp)]
 unfold staticR
 rw [if_neg (by rw [hc]; simp)]
 unfold atR
 rw [if_neg (by rw [hi]; simp)]

theorem all_total (m : Md) : (allNodes m).length = totalM m := by
 have h2 : ∀ (l : List Int), (l.flatMap (nodesAt m)).length = (l.map fun a => (gatesM m a).length).sum := by
  intro l
  induction l with
  | nil => simp
  | cons a l ih => simp only [List.flatMap_cons, List.length_append, ih, List.map_cons, List.sum_cons]; simp [nodesAt]
 have h3 : (atsM m).map (fun a => (gatesM m a).length) = m.gates.length :: m.pages.map fun p => p.gates.length := by
  unfold atsM
  rw [List.map_map, List.range_succ_eq_map, List.map_cons, List.map_map]
  congr 1
  apply List.ext_getElem
  ·simp
  ·intro i h1 h2
   simp only [List.length_map, List.length_range] at h1
   simp only [List.getElem_map, List.getElem_range, Function.comp]
   unfold gatesM
   rw [if_neg (by omega)]
   rw [show ((Nat.succ i : Nat) : Int) - 1 = (i : Int) by simp]
   rw [Int.toNat_natCast, List.getD_eq_getElem?_getD, List.getElem?_eq_getElem h1]; rfl
 unfold allNodes totalM
 rw [h2, h3, tot_sum, List.sum_cons]

theorem compN_congr {m n : Md} (h1 : ∀ x, houseAt n x = houseAt m x) (h2 : ∀ x, (gateAt n x).kind = (gateAt m x).kind ∧ (gateAt n x).k = (gateAt m x).k) (h3 : kidsM n = kidsM m) (v : Int) : ∀ k, compN n v k = compN m v k
 | 0 => rfl
 | k + 1 => by
   have ih := compN_congr h1 h2 h3 v k
   funext x s
   unfold compN
   rw [ih, h1, (h2 x).1, (h2 x).2, h3]

theorem rn_stat {m : Md} {old new : Str} (hM : MOk m) (hN : MOk (rnM m old new)) (h : FreshM m old new) : staticR (rnM m old new) = staticR m := by
 have e : compTop (rnM m old new) (rnM m old new).top = compTop m m.top := by
  unfold compTop
  rw [show (rnM m old new).top = rnS old new m.top from rfl, rn_res h h.top]
  rw [show (rnM m old new).evs.length = m.evs.length by simp [rnM]]
  rw [show fuelC (rnM m old new) = fuelC m by unfold fuelC; rw [rn_nodes]]
  rw [compN_congr (m := m) (n := rnM m old new) (fun _ => rfl) (fun x => by rw [rn_gateAt]; exact ⟨rfl, rfl⟩) (rn_kids h)]
 rw [stat_eq hN, stat_eq hM, e, show (rnM m old new).evs.length = m.evs.length by simp [rnM]]

section
variable {m : Md} {i : Nat}

def mapE (m : Md) (i : Nat) (es : Marks) : Marks := es.map fun e => (phi m i e.1, e.2)

theorem phi_inj {x y : Node} (hx : okN m x) (hy : okN m y) (e : phi m i x = phi m i y) : x = y := by
 rw [← psi_phi (i := i) hx, e, psi_phi hy]

theorem lookO_map : ∀ {es : Marks} {x : Node}, (∀ e ∈ es, okN m e.1) → okN m x → lookO (mapE m i es) (phi m i x) = lookO es x
 | [], _, _, _ => rfl
 | (y, v) :: es, x, h, hx => by
   have ih := lookO_map (fun e he => h e (List.mem_cons_of_mem _ he)) hx
   show (if phi m i y = phi m i x then some v else lookO (mapE m i es) (phi m i x)) = if y = x then some v else lookO es x
   rw [ih]
   by_cases e : y = x
   ·subst e; rw [if_pos rfl, if_pos rfl]
   ·rw [if_neg e, if_neg fun e2 => e (phi_inj (h (y, v) List.mem_cons_self) hx e2)]

theorem mark_map : ∀ {es : Marks} {x : Node} {v : Int}, (∀ e ∈ es, okN m e.1) → okN m x → mark (mapE m i es) (phi m i x) v = mapE m i (mark es x v)
 | [], _, _, _, _ => rfl
 | (y, u) :: es, x, v, h, hx => by
   have ih := mark_map (v := v) (fun e he => h e (List.mem_cons_of_mem _ he)) hx
   show (if phi m i y = phi m i x then (phi m i x, v) :: mapE m i es else (phi m i y, u) :: mark (mapE m i es) (phi m i x) v) = mapE m i (if y = x then (x, v) :: es else (y, u) :: mark es x v)
   rw [ih]
   by_cases e : y = x
   ·subst e; rw [if_pos rfl, if_pos rfl]; rfl
   ·rw [if_neg e, if_neg fun e2 => e (phi_inj (h (y, u) List.mem_cons_self) hx e2)]; rfl

theorem mark_ok : ∀ {es : Marks} {x : Node} {v : Int}, (∀ e ∈ es, okN m e.1) → okN m x → ∀ e ∈ mark es x v, okN m e.1
 | [], x, v, _, hx, e, he => by
   simp [mark] at he; subst he; exact hx
 | (y, u) :: es, x, v, h, hx, e, he => by
   have he : e ∈ (if y = x then (x, v) :: es else (y, u) :: mark es x v) := he
   split at he
   ·rcases List.mem_cons.1 he with rfl | he
    ·exact hx
    ·exact h e (List.mem_cons_of_mem _ he)
   ·rcases List.mem_cons.1 he with rfl | he
    ·exact h _ List.mem_cons_self
    ·exact mark_ok (fun e he => h e (List.mem_cons_of_mem _ he)) hx e he

def mapS (m : Md) (i : Nat) (s : CS) : CS := ⟨s.nodes, mapE m i s.es⟩

theorem comp_iso (h : Mrg m i) (v : Int) : ∀ (n : Nat) (x : Node) (s : CS), okN m x → (∀ e ∈ s.es, okN m e.1) →
  compN (mgN m i) v n (phi m i x) (mapS m i s) = ((compN m v n x s).1, mapS m i (compN m v n x s).2) ∧ ∀ e ∈ (compN m v n x s).2.es, okN m e.1
 | 0, _, _, _, hs => ⟨rfl, hs⟩
 | n + 1, x, s, hx, hs => by
   have hc := h.ok.closed
   have push : ∀ (s : CS) (nd : Nd), (∀ e ∈ s.es, okN m e.1) → pushN v (mapS m i s) (phi m i x) nd = ((pushN v s x nd).1, mapS m i (pushN v s x nd).2) ∧ ∀ e ∈ (pushN v s x nd).2.es, okN m e.1 := by
    intro s nd hs
    refine ⟨?_, fun e he => mark_ok hs hx e he⟩
    unfold pushN mapS
    rw [mark_map hs hx]
   have key : ∀ (l : List Node) (s : CS) (acc : List Int), (∀ y ∈ l, okN m y) → (∀ e ∈ s.es, okN m e.1) →
     compL (compN (mgN m i) v n) (l.map (phi m i)) (mapS m i s) acc = ((compL (compN m v n) l s acc).1, mapS m i (compL (compN m v n) l s acc).2) ∧ ∀ e ∈ (compL (compN m v n) l s acc).2.es, okN m e.1 := by
    intro l
    induction l with
    | nil => intro s acc _ hs; exact ⟨rfl, hs⟩
    | cons y l ih =>
      intro s acc hl hs
      obtain ⟨g1, g2⟩ := comp_iso h v n y s (hl y (by simp)) hs
      rw [List.map_cons]
      unfold compL
      rw [g1]
      dsimp only
      by_cases e : (compN m v n y s).1.1 = true
      ·rw [if_pos e, if_pos e]; exact ⟨rfl, g2⟩
      ·rw [if_neg e, if_neg e]; exact ih _ _ (fun z hz => hl z (by simp [hz])) g2
   unfold compN
   rw [phi_kind]
   by_cases h0 : x.1 = 0
   ·rw [if_pos h0, if_pos h0, phi_of (by omega)]
    exact ⟨rfl, hs⟩
   rw [if_neg h0, if_neg h0]
   rw [show (mapS m i s).es = mapE m i s.es from rfl, lookO_map hs hx]
   cases lookO s.es x with
   | some a => exact ⟨rfl, hs⟩
   | none =>
     dsimp only
     by_cases h1 : x.1 = 1
     ·rw [if_pos h1, if_pos h1]
      rw [show houseAt (mgN m i) (phi m i x) = houseAt m x by rw [phi_of (by omega)]; rfl]
      exact push _ _ hs
     rw [if_neg h1, if_neg h1]
     have hm : x ∈ allNodes m := by
      rcases hx with e | e | e
      ·exact absurd e.1 h0
      ·exact absurd e.1 h1
      ·exact e
     have hg : (gateAt (mgN m i) (phi m i x)).kind = (gateAt m x).kind ∧ (gateAt (mgN m i) (phi m i x)).k = (gateAt m x).k := by
      obtain ⟨x1, a, k⟩ := x
      obtain ⟨g1, ha, hk⟩ := mem_all.1 hm
      dsimp only at g1 ha hk
      subst g1
      rw [(mg_len h.lt ha hk).2.2.2]
      exact ⟨rfl, rfl⟩
     rw [hg.1, hg.2, mg_kids h hm]
     have h2 : x.1 = 2 := (mem_all.1 hm).1
     obtain ⟨k1, k2⟩ := key (kidsM m x) s [] (okN_kids hc hx h2).2 hs
     rw [k1]
     dsimp only
     split
     ·exact ⟨rfl, hs⟩
     split
     ·exact ⟨rfl, k2⟩
     ·exact push _ _ k2

theorem mg_stat (h : Mrg m i) (hN : MOk (mgN m i)) : staticR (mgN m i) = staticR m := by
 have hr := (h.ok.inOk (.inl rfl) h.ok.top).ok
 obtain ⟨g1, _⟩ := comp_iso h m.evs.length (fuelC m) (resR m (-1) m.top) ⟨[], []⟩ hr (by simp)
 have e : compTop (mgN m i) (mgN m i).top = ((compTop m m.top).1, mapS m i (compTop m m.top).2) := by
  unfold compTop
  rw [mg_root h, show fuelC (mgN m i) = fuelC m by unfold fuelC; rw [all_total, all_total, mg_total h.lt]]
  exact g1
 rw [stat_eq hN, stat_eq h.ok, e]
 rfl
end

theorem inl_stat : ∀ (n : Nat) (m : Md), m.pages.length = n → checkM m = 0 → (inlP m.pages.length m).2 = 0 → staticR (inlP m.pages.length m).1 = staticR m := by
 intro n
 induction n with
 | zero => intro m hn _ _; rw [inlP_end hn]
 | succ n ih =>
   intro m hn h0 hz
   have hM := checkM_ok h0
   rw [inlP_step (by omega)] at hz ⊢
   by_cases hf : freeP m = m.pages.length
   ·rw [if_pos hf] at hz; cases hz
   rw [if_neg hf] at hz ⊢
   by_cases he : mgE m (freeP m) = 0
   ·rw [if_pos he] at hz ⊢
    have hlt : freeP m < m.pages.length := by
     have : freeP m ≤ m.pages.length := freeP_le
     omega
    obtain ⟨_, _, h5⟩ := mgE_zero he
    have hl := mg_pages hlt
    have hmr := mrg_of hM hlt he
    have hs := mg_stat hmr (checkM_ok h5)
    generalize freeP m = i at *
    have := ih (mgN m i) (by omega) h5 (by rw [hl]; exact hz)
    rw [hl] at this
    exact this.trans hs
   ·rw [if_neg he] at hz; exact absurd hz he




abbrev zB : AV := .ag [.ag [.int .i64 0, .nils, .int .i64 0], .nils, .nils]


theorem intsSelf (a : List Int) : FnH Tryz.prog 52 [iL a, iL a] [] .tt [] := (c_ints a a).weak (R' := .tt) (by show decide _ = true; simp)

theorem c_form1 (f : Fo) : FnH Tryz.prog 16 [f.av, f.av] [] .tt [] := by
 refine FnH.intro lay mixed Tryz.func16 (by kernel_rfl) rfl (by kernel_rfl) rfl fun hok => ?_
 have ha : f.nodes.length ≤ 9223372036854775807 := by
  have := hok.1
  simp only [Ok, OkL, maxL, List.length_map] at this
  exact this.2.1.1
 (try dsimp only[argC,succC]);(try dsimp only[awp]);conv=>whnf
 refine And.intro (fun h => absurd rfl h) (fun _ => ?_)
 (try dsimp only[awp]);conv=>whnf
 refine And.intro (fun h => absurd rfl h) (fun _ => ?_)
 (try dsimp only[awp]);conv=>whnf
 refine And.intro (fun h => absurd rfl h) (fun _ => ?_)
 (try dsimp only[awp]);conv=>whnf
 refine LoopE.of <| LoopSpec.inv (.refl _ _) (fun (i : Nat) => i ≤ f.nodes.length) (fun (i : Nat) => [(30, .int .i64 i)]) (fun _ => _) (fun (i : Nat) => f.nodes.length - i) 0 ?_ (fun _ => rfl) ?_ ?_
 ·exact Nat.zero_le _
 ·repeat' first|exact rfl|exact trivial|exact wR|exact lR _|apply aI
 intro i hi _
 (try dsimp only[awp]);conv=>whnf
 refine And.intro (fun h1 => ?_) (fun h1 => ?_)
 ·have hlt : i < f.nodes.length := by simpa using h1
  (try dsimp only[awp]);conv=>whnf
  refine ADraw.auto (by kernel_rfl) ?_;conv=>whnf
  refine aidx hlt ?_
  conv=>whnf
  refine aidx hlt ?_
  conv=>whnf
  refine And.intro (fun h => absurd rfl h) (fun _ => ?_)
  conv=>whnf
  refine aidx hlt ?_
  conv=>whnf
  refine aidx hlt ?_
  conv=>whnf
  refine And.intro (fun h => absurd rfl h) (fun _ => ?_)
  conv=>whnf
  refine aidx hlt ?_
  conv=>whnf
  refine aidx hlt ?_
  conv=>whnf
  refine ACallP.pure _ _ ?_ ⟨rfl, rfl⟩ (intsSelf f.nodes[i].args) ?_
  ·exact leL_refl _
  (try dsimp only[awp]);conv=>whnf
  refine zA ?_;conv=>whnf
  refine ⟨i + 1, ?_, ?_, ?_⟩
  ·exact hlt
  ·refine ⟨?_, .mk ?_ (by simp [idsOk])⟩
   ·repeat' first|exact rfl|exact trivial|exact wR|exact lR _|apply aI
   ·repeat' first|exact rfl|exact trivial|exact wR|exact lR _|apply aI
  ·omega
 ·have hl : i = f.nodes.length := by (have : ¬ i < f.nodes.length := by simpa using h1); omega
  subst hl
  clear h1
  (try dsimp only[awp]);conv=>whnf
  refine fM ?_;(conv=>whnf);refine ⟨?_,rfl⟩;conv=>whnf
  repeat' first|exact rfl|exact trivial|exact wR|exact lR _|apply aI

def zR : Rat := ⟨false, [], []⟩
def mdE26 : Md := { name := [109], top := [103], evs := [⟨[97], zR, zR, zR, 0⟩, ⟨[98], zR, zR, zR, 0⟩], hs := [⟨[104], true⟩], gates := [⟨[103], 1, 0, [[104], [107]], zR⟩, ⟨[107], 5, 0, [[97], [98]], zR⟩], pages := [], grs := [], phs := [] }

theorem c_Example26 : FnH Tryz.prog 41 [] [] mdE26.av [] := by
 refine FnH.intro lay mixed Tryz.func41 (by kernel_rfl) rfl (by kernel_rfl) rfl fun hok => ?_
 (try dsimp only[argC,succC]);(try dsimp only[awp]);conv=>whnf
 refine fM ?_;(conv=>whnf);refine ⟨?_,rfl⟩;conv=>whnf
 repeat' first|exact rfl|exact trivial|exact wR|exact lR _|apply aI

theorem ex26 : staticR mdE26 = (⟨2, [⟨0, 1, []⟩, ⟨2, 0, [0, 1]⟩, ⟨3, 0, [2, 3]⟩], 4⟩, 0) := by decide +kernel

theorem light26 : lightM mdE26 = true := by decide +kernel

theorem c_awake26 : FnH Tryz.prog 11 [] [] (.bool true) [] := by
 obtain ⟨hB, hC⟩ := lightM_B light26
 have cs := c_Static mdE26 hC hB _ rfl
 rw [ex26] at cs
 have cf := c_form1 ⟨2, [⟨0, 1, []⟩, ⟨2, 0, [0, 1]⟩, ⟨3, 0, [2, 3]⟩], 4⟩
 refine FnH.intro lay mixed Tryz.func11 (by kernel_rfl) rfl (by kernel_rfl) rfl fun hok => ?_
 (try dsimp only[argC,succC]);(try dsimp only[awp]);conv=>whnf
 refine .pure _ _ ?_ ⟨rfl, rfl⟩ c_Example26 fun _ => ?_
 ·exact leL_refl _
 (try dsimp only[awp]);conv=>whnf
 refine .pure _ _ ?_ ⟨rfl, rfl⟩ cs fun _ => ?_
 ·repeat' first|exact rfl|exact trivial|exact wR|exact lR _|apply aI
 (try dsimp only[awp]);conv=>whnf
 refine .pure _ _ ?_ ⟨rfl, rfl⟩ cf fun _ => ?_
 ·repeat' first|exact rfl|exact trivial|exact wR|exact lR _|apply aI
 (try dsimp only[awp]);conv=>whnf
 refine fM ?_;(conv=>whnf);refine ⟨?_,rfl⟩;conv=>whnf
 repeat' first|exact rfl|exact trivial|exact wR|exact lR _|apply aI

def newS : Str := [115, 111, 109, 101, 46, 111, 116, 104, 101, 114, 95, 110, 97, 109, 101]

theorem renameE_zero {m : Md} {old new : Str} (h : renameE m old new = 0) : 0 ≤ i_event m.evs old ∧ checkM (rnM m old new) = 0 := by
 unfold renameE at h
 split at h
 ·cases h
 ·exact ⟨by omega, h⟩

theorem stat_cases {m : Md} (hM : MOk m) : ∃ F : Fo, staticR m = (F, 0) ∨ staticR m = (F, 7) := by
 rw [stat_eq hM]
 split
 ·exact ⟨_, .inr rfl⟩
 ·exact ⟨_, .inl rfl⟩

theorem c_CompileSame (m : Md) (i0 : Int) : FnH Tryz.prog 5 [m.av, .int .u8 i0] [] (.bool true) [] := by
 have c0 := c_awake26.weak (R' := .tt) rfl
 have cl := c_LightM m _ rfl
 cases hL : lightM m with
 | false =>
   rw [hL] at cl
   have cl := cl.weak (R' := .ff) rfl
   refine FnH.intro lay mixed Tryz.func5 (by kernel_rfl) rfl (by kernel_rfl) rfl fun hok => ?_
   (try dsimp only[argC,succC]);(try dsimp only[awp]);conv=>whnf
   refine .pure _ _ ?_ ⟨rfl, rfl⟩ c0 fun _ => ?_
   ·exact leL_refl _
   (try dsimp only[awp]);conv=>whnf
   refine .pure _ _ ?_ ⟨rfl, rfl⟩ cl fun _ => ?_
   ·exact leL_refl _
   (try dsimp only[awp]);conv=>whnf
   refine .pure _ _ ?_ ⟨rfl, rfl⟩ c0 fun _ => ?_
   ·exact leL_refl _
   (try dsimp only[awp]);conv=>whnf
   refine fM ?_;(conv=>whnf);refine ⟨?_,rfl⟩;conv=>whnf
   repeat' first|exact rfl|exact trivial|exact wR|exact lR _|apply aI
 | true =>
 rw [hL] at cl
 have cl := cl.weak (R' := .tt) rfl
 obtain ⟨hB, hC⟩ := lightM_B hL
 have hX := lightM_X hL
 have cc := c_mCheck m hC hB _ rfl
 by_cases hc : checkM m ≠ 0
 ·rw [errAV_ne hc] at cc
  refine FnH.intro lay mixed Tryz.func5 (by kernel_rfl) rfl (by kernel_rfl) rfl fun hok => ?_
  (try dsimp only[argC,succC]);(try dsimp only[awp]);conv=>whnf
  refine .pure _ _ ?_ ⟨rfl, rfl⟩ c0 fun _ => ?_
  ·exact leL_refl _
  (try dsimp only[awp]);conv=>whnf
  refine .pure _ _ ?_ ⟨rfl, rfl⟩ cl fun _ => ?_
  ·exact leL_refl _
  (try dsimp only[awp]);conv=>whnf
  refine .pure _ _ ?_ ⟨rfl, rfl⟩ cc fun _ => ?_
  ·exact leL_refl _
  (try dsimp only[awp]);conv=>whnf
  refine .pure _ _ ?_ ⟨rfl, rfl⟩ c0 fun _ => ?_
  ·exact leL_refl _
  (try dsimp only[awp]);conv=>whnf
  refine fM ?_;(conv=>whnf);refine ⟨?_,rfl⟩;conv=>whnf
  repeat' first|exact rfl|exact trivial|exact wR|exact lR _|apply aI
 have hc0 := hc
 have hc : checkM m = 0 := by simpa using hc
 have hM := checkM_ok hc
 rw [hc, errAV_zero] at cc
 have hev := hM.lens.1
 have cs := c_Static m hC hB _ rfl
 have cI := c_Inline m hC hB hX _ rfl
 rw [show inlineAV m = _ from if_neg hc0] at cI
 unfold inlAV at cI
 have csr : ∀ k (hk : k < m.evs.length), renameE m m.evs[k].name newS = 0 → FnH Tryz.prog 14 [(rnM m m.evs[k].name newS).av] [] (atAV (staticR m)) [] := by
  intro k hk hr
  obtain ⟨h1, h2⟩ := renameE_zero hr
  have hN := checkM_ok h2
  have := c_Static (rnM m m.evs[k].name newS) (rn_C hC) (rn_B hB) _ rfl
  rwa [rn_stat hM hN (fresh_of hM h1 hN)] at this
 have csi : (inlP m.pages.length m).2 = 0 → FnH Tryz.prog 14 [(inlP m.pages.length m).1.av] [] (atAV (staticR m)) [] := by
  intro hz
  obtain ⟨nB, nC⟩ := inl_BC _ m rfl hc hB hC
  have := c_Static (inlP m.pages.length m).1 nC nB _ rfl
  rwa [inl_stat _ m rfl hc hz] at this
 have cR := fun k (hk : k < m.evs.length) => c_Rename m m.evs[k].name newS hC hB hX hc _ rfl
 obtain ⟨F, hF⟩ := stat_cases hM
 have cf := c_form1 F
 rcases hF with hF | hF
 all_goals
  rw [hF] at cs csr csi
  unfold atAV at cs csr csi
  dsimp only at cs csr csi
  first
   | (have cn := c_Num 0
      rw [errAV_zero] at cs csr csi cn
      have mark : staticR m = (F, 0) := hF)
   | (have cn := c_Num 7
      rw [errAV_ne (e := 7) (by decide)] at cs csr csi cn)
  refine FnH.intro lay mixed Tryz.func5 (by kernel_rfl) rfl (by kernel_rfl) rfl fun hok => ?_
  have hi0 : 0 ≤ i0 ∧ i0 < 256 := by
   have h2 : InR .u8 i0 := hok.2.1
   exact ⟨h2.1, Int.lt_of_le_of_lt h2.2 (by decide)⟩
  (try dsimp only[argC,succC]);(try dsimp only[awp]);conv=>whnf
  refine .pure _ _ ?_ ⟨rfl, rfl⟩ c0 fun _ => ?_
  ·exact leL_refl _
  (try dsimp only[awp]);conv=>whnf
  refine .pure _ _ ?_ ⟨rfl, rfl⟩ cl fun _ => ?_
  ·exact leL_refl _
  (try dsimp only[awp]);conv=>whnf
  refine .pure _ _ ?_ ⟨rfl, rfl⟩ cc fun _ => ?_
  ·exact leL_refl _
  (try dsimp only[awp]);conv=>whnf
  refine And.intro (fun h => ?_) (fun hn => ?_)
  ·(try dsimp only[awp]);conv=>whnf
   refine .pure _ _ ?_ ⟨rfl, rfl⟩ c0 fun _ => ?_
   ·exact leL_refl _
   (try dsimp only[awp]);conv=>whnf
   refine fM ?_;(conv=>whnf);refine ⟨?_,rfl⟩;conv=>whnf
   repeat' first|exact rfl|exact trivial|exact wR|exact lR _|apply aI
  (try dsimp only[awp]);conv=>whnf
  refine .pure _ _ ?_ ⟨rfl, rfl⟩ cs fun _ => ?_
  ·exact leL_refl _
  (try dsimp only[awp]);conv=>whnf
  refine ADraw.auto (by kernel_rfl) ?_;conv=>whnf
  refine ⟨hn, ?_⟩
  (try dsimp only[awp]);conv=>whnf
  obtain ⟨k, hk, hke⟩ : ∃ k : Nat, k < m.evs.length ∧ (IntKind.i64.wrap i0).tmod (((m.evs.map Ev.av).length : Nat) : Int) = (k : Int) := by
   rw [wrap64 (by omega) (by omega)]
   have hp : (0 : Int) < (((m.evs.map Ev.av).length : Nat) : Int) := by omega
   have h1 := Int.tmod_nonneg (((m.evs.map Ev.av).length : Nat) : Int) hi0.1
   have h2 := Int.tmod_lt_of_pos i0 hp
   simp only [List.length_map] at h1 h2 ⊢
   exact ⟨(i0.tmod (m.evs.length : Int)).toNat, by omega, by omega⟩
  rw [hke]
  refine aidx hk ?_
  have cRk := cR k hk
  have csk := csr k hk
  (try dsimp only[awp]);conv=>whnf
  by_cases g : renameE m m.evs[k].name newS = 0
  all_goals first
   | (rw [if_pos g] at cRk
      have csk := csk g
      generalize rnM m m.evs[k].name newS = n at *
      refine ACallP.pure _ _ ?_ ⟨rfl, rfl⟩ cRk ?_
      ·exact leL_refl _
      (try dsimp only[awp]);conv=>whnf
      refine .pure _ _ ?_ ⟨rfl, rfl⟩ csk fun _ => ?_
      ·exact leL_refl _
      (try dsimp only[awp]);conv=>whnf
      refine .pure _ _ ?_ ⟨rfl, rfl⟩ cn fun _ => ?_
      ·exact leL_refl _
      (try dsimp only[awp]);conv=>whnf
      refine .pure _ _ ?_ ⟨rfl, rfl⟩ cn fun _ => ?_
      ·exact leL_refl _
      (try dsimp only[awp]);conv=>whnf
      refine And.intro (fun h => absurd rfl h) (fun _ => ?_)
      (try dsimp only[awp]);conv=>whnf
      refine .pure _ _ ?_ ⟨rfl, rfl⟩ cf fun _ => ?_
      ·exact leL_refl _
      ((try dsimp only[awp]);(conv=>whnf)))
   | (rw [if_neg g] at cRk
      generalize renameE m m.evs[k].name newS = e at *
      refine ACallP.pure _ _ ?_ ⟨rfl, rfl⟩ cRk ?_
      ·exact leL_refl _
      ((try dsimp only[awp]);(conv=>whnf)))
  all_goals
   by_cases he : (inlP m.pages.length m).2 = 0
   ·have ci := csi he
    rw [if_pos he] at cI
    generalize (inlP m.pages.length m).1 = o at *
    refine .pure _ _ ?_ ⟨rfl, rfl⟩ cI fun _ => ?_
    ·exact leL_refl _
    (try dsimp only[awp]);conv=>whnf
    refine .pure _ _ ?_ ⟨rfl, rfl⟩ ci fun _ => ?_
    ·exact leL_refl _
    (try dsimp only[awp]);conv=>whnf
    refine .pure _ _ ?_ ⟨rfl, rfl⟩ cn fun _ => ?_
    ·exact leL_refl _
    (try dsimp only[awp]);conv=>whnf
    refine .pure _ _ ?_ ⟨rfl, rfl⟩ cn fun _ => ?_
    ·exact leL_refl _
    (try dsimp only[awp]);conv=>whnf
    refine And.intro (fun _ => ?_) (fun h => absurd rfl h)
    (try dsimp only[awp]);conv=>whnf
    refine .pure _ _ ?_ ⟨rfl, rfl⟩ cf fun _ => ?_
    ·exact leL_refl _
    (try dsimp only[awp]);conv=>whnf
    refine fM ?_;(conv=>whnf);refine ⟨?_,rfl⟩;conv=>whnf
    repeat' first|exact rfl|exact trivial|exact wR|exact lR _|apply aI
   ·rw [if_neg he] at cI
    generalize (inlP m.pages.length m).2 = e2 at *
    refine .pure _ _ ?_ ⟨rfl, rfl⟩ cI fun _ => ?_
    ·exact leL_refl _
    (try dsimp only[awp]);conv=>whnf
    refine fM ?_;(conv=>whnf);refine ⟨?_,rfl⟩;conv=>whnf
    repeat' first|exact rfl|exact trivial|exact wR|exact lR _|apply aI
end S
