/-
  Contracts of functions of the program, over the logic of the texts before. Nothing is assumed.
-/
import Derived.Test.YtjalgklpjjkjfaaT4

open Go Go.AL Go.Proofs
namespace S
set_option maxRecDepth 100000

theorem walk_ok {σ : Type} {kids : Node → List Node} {step : σ → Node → σ} (ok : Node → Prop) (A : σ → Prop) (hok : ∀ x, ok x → x.1 = 2 → ∀ y ∈ kids x, ok y) (hA : ∀ st x, ok x → A st → A (step st x)) :
  ∀ (n : Nat) (x : Node) (s : WS σ), ok x → A s.st → A (walkF kids step n x s).2.st
 | 0, _, _, _, h => h
 | n + 1, x, s, hx, h => by
   simp only [walkF]
   split
   ·exact hA _ _ hx h
   rename_i h1
   split
   ·exact h
   split
   ·exact h
   have key : ∀ (l : List Node) (t : WS σ), (∀ y ∈ l, ok y) → A t.st → A (kidsF (walkF kids step n) l t).2.st := by
    intro l
    induction l with
    | nil => intro t _ ht; exact ht
    | cons y l ih =>
      intro t hl ht
      have hy := walk_ok ok A hok hA n y t (hl y (by simp)) ht
      simp only [kidsF]
      split
      ·exact hy
      ·exact ih _ (fun z hz => hl z (by simp [hz])) hy
   have hk := key (kids x) ⟨mark s.es x 1, step s.st x⟩ (hok x hx (by omega)) (hA _ _ hx h)
   split
   ·exact hk
   ·exact hk

theorem visited_ok {m : Md} (hM : MOk m) : ∀ y ∈ visitedM m, okN m y := by
 have hin := hM.inOk (.inl rfl) hM.top
 exact walk_ok (okN m) (fun st => ∀ y ∈ st, okN m y) (fun x hx h2 => (okN_kids hM.closed hx h2).2) (fun st x hx h y hy => by
  rcases List.mem_append.1 hy with hy | hy
  ·exact h y hy
  ·obtain rfl : y = x := by simpa using hy
   exact hx) (fuelM m) _ ⟨[], []⟩ hin.ok (by simp)

theorem bits_bit {i : Nat} : ∀ (l : List Node) (b : Nat), (l.foldl (fun b x => if x.1 = 0 ∧ x.2.2.toNat < 24 then b ||| 2 ^ x.2.2.toNat else b) b).testBit i = (b.testBit i || l.any fun x => decide (x.1 = 0 ∧ x.2.2.toNat < 24 ∧ x.2.2.toNat = i))
 | [], b => by simp
 | x :: l, b => by
   simp only [List.foldl_cons, List.any_cons]
   rw [bits_bit l]
   by_cases h : x.1 = 0 ∧ x.2.2.toNat < 24
   ·rw [if_pos h, Nat.testBit_or, Nat.testBit_two_pow, Bool.or_assoc]
    congr 2
    simp [h]
   ·rw [if_neg h]
    have : decide (x.1 = 0 ∧ x.2.2.toNat < 24 ∧ x.2.2.toNat = i) = false := decide_eq_false fun e => h ⟨e.1, e.2.1⟩
    rw [this, Bool.false_or]

theorem bitsV_bit (l : List Node) (i : Nat) : (bitsV l).testBit i = true ↔ ∃ x ∈ l, x.1 = 0 ∧ x.2.2.toNat < 24 ∧ x.2.2.toNat = i := by
 unfold bitsV
 rw [bits_bit]
 simp

structure GateOk (m : Md) (a : Int) (k : Nat) (x : Mg) : Prop where
 name : nameR x.name = true
 noEv : i_event m.evs x.name < 0
 noHs : i_house m.hs x.name < 0
 first : (k : Int) ≤ i_gate (gatesM m a) x.name
 own : mgErr x = 0

theorem MOk.gate {m : Md} (hM : MOk m) {a : Int} (ha : a = -1 ∨ (0 ≤ a ∧ a < (m.pages.length : Int))) {k : Nat} (hk : k < (gatesM m a).length) : GateOk m a k (gatesM m a)[k] := by
 have h := gatesErrAll_zero hM.gates ha k hk
 unfold gateErrM at h
 split at h
 ·cases h
 rename_i h1
 split at h
 ·cases h
 rename_i h2
 split at h
 ·cases h
 rename_i h3
 split at h
 ·cases h
 rename_i h4
 exact ⟨by simpa using h1, by omega, by omega, by omega, h⟩

theorem MOk.ins_in {m : Md} (hM : MOk m) {a : Int} (ha : a = -1 ∨ (0 ≤ a ∧ a < (m.pages.length : Int))) {x : Mg} (hx : x ∈ gatesM m a) {s : Str} (hs : s ∈ x.ins) : isInR m a s = true := by
 obtain ⟨sp, h4⟩ := insAll_in hM.ins _ (ats_mem.2 ha)
 exact (pageIns_in h4).1 x hx s hs

structure Local (m : Md) (a : Int) (s : Str) (r : Node) : Prop where
 idx : 0 ≤ r.2.2
 kind : r.1 = 0 ∨ r.1 = 1 ∨ r.1 = 2
 ev : r.1 = 0 → r.2.2 < (m.evs.length : Int) ∧ (atS s = false → (m.evs.getD r.2.2.toNat default).name = s)
 hs : r.1 = 1 → r.2.2 < (m.hs.length : Int) ∧ (m.hs.getD r.2.2.toNat default).name = s
 gate : r.1 = 2 → (r.2.1 = -1 ∨ (0 ≤ r.2.1 ∧ r.2.1 < (m.pages.length : Int))) ∧ r.2.2 < ((gatesM m r.2.1).length : Int) ∧
  (atS s = false → r.2.1 = a ∧ ((gatesM m r.2.1).getD r.2.2.toNat default).name = s) ∧
  (atS s = true → 0 ≤ r.2.1 ∧ (m.pages.getD r.2.1.toNat default).name = s.drop 1 ∧ (m.pages.getD r.2.1.toNat default).top = ((gatesM m r.2.1).getD r.2.2.toNat default).name)

end S

open Go Go.AL Go.Proofs
namespace S
set_option maxRecDepth 100000

structure Nd where
 kind : Int
 k : Int
 args : List Int
 deriving DecidableEq, Inhabited

abbrev Nd.av (x : Nd) : AV := .ag [.int .i64 x.kind, .int .i64 x.k, iL x.args]

structure Fo where
 vars : Int
 nodes : List Nd
 top : Int
 deriving DecidableEq, Inhabited

abbrev Fo.av (x : Fo) : AV := .ag [.int .i64 x.vars, .sl 3 (x.nodes.map Nd.av) .no, .int .i64 x.top]

def lookO : Marks → Node → Option Int
 | [], _ => none
 | (y, v) :: es, x => if y = x then some v else lookO es x

theorem alook_opt {es : Marks} {x : Node} {k : AV → Prop} (h1 : ∀ v, lookO es x = some v → k (.tup [.int .i64 v, .tt])) (h2 : lookO es x = none → k (.tup [.int .i64 0, .ff])) :
  ALook (encM es) (nAV x) fun r => lookK true (.int .i64 0) r k := by
 have key : ∃ r, LookR (encM es) (nAV x) r ∧ lookK true (.int .i64 0) r k := by
  induction es with
  | nil => exact ⟨none, by simp [LookR, encM], h2 rfl⟩
  | cons e es ih =>
    obtain ⟨y, v⟩ := e
    by_cases hy : y = x
    ·subst hy
     exact ⟨some (.int .i64 v), ⟨_, List.mem_cons_self, rfl, rfl⟩, h1 v (if_pos rfl)⟩
    ·have e : lookO ((y, v) :: es) x = lookO es x := if_neg hy
     rw [e] at h1 h2
     obtain ⟨r, g1, g2⟩ := ih h1 h2
     refine ⟨r, ?_, g2⟩
     cases r with
     | none =>
       intro z hz
       simp only [encM, List.map_cons, List.mem_cons] at hz
       rcases hz with rfl | hz
       ·exact fun e => hy (kv_inj.1 e)
       ·exact g1 z hz
     | some w =>
       obtain ⟨z, hz, h3, h4⟩ := g1
       exact ⟨z, by simp only [encM, List.map_cons, List.mem_cons]; exact .inr hz, h3, h4⟩
 exact ⟨key⟩

theorem lookO_mark {es : Marks} {x y : Node} {v : Int} : lookO (mark es x v) y = if x = y then some v else lookO es y := by
 induction es with
 | nil => simp [mark, lookO]
 | cons e es ih =>
   obtain ⟨z, u⟩ := e
   simp only [mark]
   by_cases hz : z = x
   ·subst hz
    simp only [if_true, lookO]
    split <;> rfl
   ·simp only [if_neg hz, lookO, ih]
    by_cases hzy : z = y
    ·subst hzy
     rw [if_pos rfl, if_neg (fun e => hz e.symm)]
     simp
    ·simp only [if_neg hzy]

theorem alook_put {es : Marks} {x : Node} {v : Int} {k : AV → Prop} (h : k (.int .i64 v)) : ALook (encM (mark es x v)) (nAV x) fun r => lookK false (.int .i64 0) r k := by
 refine alook_es ?_
 rw [look_mark, if_pos rfl]; exact h

def kindN (k : Int) : Int := if k = 0 then 2 else if k = 5 then 2 else if k = 1 then 3 else if k = 2 then 4 else if k = 3 then 1 else if k = 4 then 5 else 0
def statK (k : Int) : Bool := decide (k = 0) || decide (k = 5) || decide (k = 1) || decide (k = 2) || decide (k = 3) || decide (k = 4)

structure CS where
 nodes : List Nd
 es : Marks
 deriving Inhabited

def pushN (vars : Int) (s : CS) (x : Node) (nd : Nd) : (Bool × Int) × CS := ((false, vars + s.nodes.length), ⟨s.nodes ++ [nd], mark s.es x (vars + s.nodes.length)⟩)

def houseAt (m : Md) (x : Node) : Hs := m.hs.getD x.2.2.toNat default

def compL (f : Node → CS → (Bool × Int) × CS) : List Node → CS → List Int → (Bool × List Int) × CS
 | [], s, acc => ((false, acc), s)
 | y :: l, s, acc => if (f y s).1.1 = true then ((true, acc), (f y s).2) else compL f l (f y s).2 (acc ++ [(f y s).1.2])

def compN (m : Md) (vars : Int) : Nat → Node → CS → (Bool × Int) × CS
 | 0, _, s => ((true, 0), s)
 | n + 1, x, s => if x.1 = 0 then ((false, x.2.2), s) else
   match lookO s.es x with
   | some a => ((false, a), s)
   | none => if x.1 = 1 then pushN vars s x ⟨0, if (houseAt m x).on = true then 1 else 0, []⟩
     else if statK (gateAt m x).kind = false then ((true, 0), s)
     else if (compL (compN m vars n) (kidsM m x) s []).1.1 = true then ((true, 0), (compL (compN m vars n) (kidsM m x) s []).2)
     else pushN vars (compL (compN m vars n) (kidsM m x) s []).2 x ⟨kindN (gateAt m x).kind, (gateAt m x).k, (compL (compN m vars n) (kidsM m x) s []).1.2⟩
end S

open Go Go.AL Go.Proofs
namespace S
set_option maxRecDepth 100000

structure NdOk (v : Int) (i : Nat) (x : Nd) : Prop where
 kind : 0 ≤ x.kind ∧ x.kind ≤ 5
 num : if x.kind = 0 then x.args.length = 0 else if x.kind = 1 then x.args.length = 1 else 1 ≤ x.args.length ∧ x.args.length ≤ 16
 args : ∀ a ∈ x.args, 0 ≤ a ∧ a < v + i
 k : if x.kind = 0 then x.k = 0 ∨ x.k = 1 else if x.kind = 4 then 1 ≤ x.k ∧ x.k ≤ x.args.length else x.k = 0

structure FOk (f : Fo) : Prop where
 vars : 0 ≤ f.vars ∧ f.vars ≤ 24
 len : f.nodes.length ≤ 128
 nodes : ∀ (i : Nat) (h : i < f.nodes.length), NdOk f.vars i f.nodes[i]
 top : 0 ≤ f.top ∧ f.top < f.vars + f.nodes.length

theorem c_farguments (x : Nd) (v : Int) (i : Nat) (h : NdOk v i x) : FnH Try.prog 80 [.int .i64 x.kind, .int .i64 x.args.length] [] .tt [] := by
 have h2 := h.num
 refine FnH.intro lay mixed Try.func80 (by kernel_rfl) rfl (by kernel_rfl) rfl fun hok => ?_
 ((try dsimp only[argC,succC]);(try dsimp only[awp]);(conv=>whnf))
 refine And.intro (fun g => ?_) (fun g => ?_)
 ·rw [if_pos g] at h2
  ((try dsimp only[awp]);(conv=>whnf))
  (refine fM ?_;(conv=>whnf);refine ⟨?_,rfl⟩;(conv=>whnf))
  show (x.args.length : Int) = 0
  omega
 rw [if_neg g] at h2
 ((try dsimp only[awp]);(conv=>whnf))
 refine And.intro (fun g => ?_) (fun g => ?_)
 ·rw [if_pos g] at h2
  ((try dsimp only[awp]);(conv=>whnf))
  (refine fM ?_;(conv=>whnf);refine ⟨?_,rfl⟩;(conv=>whnf))
  show (x.args.length : Int) = 1
  omega
 rw [if_neg g] at h2
 ((try dsimp only[awp]);(conv=>whnf))
 refine And.intro (fun g => ?_) (fun g => by exfalso; omega)
 ((try dsimp only[awp]);(conv=>whnf))
 (refine fM ?_;(conv=>whnf);refine ⟨?_,rfl⟩;(conv=>whnf))
 show (x.args.length : Int) ≤ 16
 omega

theorem c_fcheckNode (f : Fo) (hv : 0 ≤ f.vars ∧ f.vars ≤ 24) (i : Nat) (hi : i < f.nodes.length) (hl : f.nodes.length ≤ 128) (h : NdOk f.vars i f.nodes[i]) : FnH Try.prog 43 [f.av, .int .i64 i] [] .nilI [] := by
 have ca := c_farguments _ _ _ h
 obtain ⟨h1, h2, h3, h4⟩ := h
 have hal : f.nodes[i].args.length ≤ 16 := by
  split at h2
  ·omega
  ·split at h2 <;> omega
 refine FnH.intro lay mixed Try.func43 (by kernel_rfl) rfl (by kernel_rfl) rfl fun hok => ?_
 ((try dsimp only[argC,succC]);(try dsimp only[awp]);(conv=>whnf))
 refine aidx hi ?_
 generalize f.nodes[i] = x at *
 ((try dsimp only[awp]);(conv=>whnf))
 refine And.intro (fun g => by exfalso; omega) (fun g => ?_)
 ((try dsimp only[awp]);(conv=>whnf))
 refine And.intro (fun g => by exfalso; omega) (fun g => ?_)
 ((try dsimp only[awp]);(conv=>whnf))
 rw [show (((x.args.map (AV.int .i64)).length : Nat) : Int) = (x.args.length : Int) by simp]
 refine .pure _ _ ?_ ⟨rfl, rfl⟩ ca fun _ => ?_
 ·(repeat' first|exact rfl|exact trivial|exact wR|exact lR _|apply aI)
 ((try dsimp only[awp]);(conv=>whnf))
 refine LoopE.of <| LoopSpec.inv (.refl _ _) (fun (j : Nat) => j ≤ x.args.length) (fun (j : Nat) => [(33, .int .i64 j)]) (fun _ => _) (fun (j : Nat) => x.args.length - j) 0 ?_ (fun _ => rfl) ?_ ?_
 ·exact Nat.zero_le _
 ·(repeat' first|exact rfl|exact trivial|exact wR|exact lR _|apply aI)
 intro j hj _
 ((try dsimp only[awp]);(conv=>whnf))
 refine And.intro (fun g1 => ?_) (fun g1 => ?_)
 ·have hjl : j < x.args.length := by simpa using g1
  have ha := h3 _ (List.getElem_mem hjl)
  ((try dsimp only[awp]);(conv=>whnf))
  refine aidx hjl ?_
  generalize x.args[j] = a at *
  ((try dsimp only[awp]);(conv=>whnf))
  refine And.intro (fun g => by exfalso; omega) (fun g => ?_)
  ((try dsimp only[awp]);(conv=>whnf))
  (refine ⟨inr64 (by omega) (by omega),?_⟩;(conv=>whnf))
  refine And.intro (fun g => by exfalso; omega) (fun g => ?_)
  ((try dsimp only[awp]);(conv=>whnf))
  (refine ⟨inr64 (by omega) (by omega),?_⟩;(conv=>whnf))
  refine ⟨j + 1, ?_, ?_, ?_⟩
  ·exact hjl
  ·(repeat' first|exact rfl|exact trivial|exact wR|exact lR _|apply aI)
  ·omega
 ((try dsimp only[awp]);(conv=>whnf))
 refine And.intro (fun g => ?_) (fun g => ?_)
 ·rw [if_pos g] at h4
  ((try dsimp only[awp]);(conv=>whnf))
  refine And.intro (fun g => ?_) (fun g => ?_)
  ·((try dsimp only[awp]);(conv=>whnf))
   refine And.intro (fun g => by exfalso; omega) (fun g => ?_)
   ((try dsimp only[awp]);(conv=>whnf))
   (refine fM ?_;(conv=>whnf);refine ⟨?_,rfl⟩;(conv=>whnf))
   (repeat' first|exact rfl|exact trivial|exact wR|exact lR _|apply aI)
  ·((try dsimp only[awp]);(conv=>whnf))
   (refine fM ?_;(conv=>whnf);refine ⟨?_,rfl⟩;(conv=>whnf))
   (repeat' first|exact rfl|exact trivial|exact wR|exact lR _|apply aI)
 rw [if_neg g] at h4
 ((try dsimp only[awp]);(conv=>whnf))
 refine And.intro (fun g => ?_) (fun g => ?_)
 ·rw [if_pos g] at h4
  ((try dsimp only[awp]);(conv=>whnf))
  refine And.intro (fun g => by exfalso; omega) (fun g => ?_)
  ((try dsimp only[awp]);(conv=>whnf))
  refine And.intro (fun g => by exfalso; simp at g; omega) (fun g => ?_)
  ((try dsimp only[awp]);(conv=>whnf))
  (refine fM ?_;(conv=>whnf);refine ⟨?_,rfl⟩;(conv=>whnf))
  (repeat' first|exact rfl|exact trivial|exact wR|exact lR _|apply aI)
 rw [if_neg g] at h4
 ((try dsimp only[awp]);(conv=>whnf))
 refine And.intro (fun g => by exfalso; omega) (fun g => ?_)
 ((try dsimp only[awp]);(conv=>whnf))
 (refine fM ?_;(conv=>whnf);refine ⟨?_,rfl⟩;(conv=>whnf))
 (repeat' first|exact rfl|exact trivial|exact wR|exact lR _|apply aI)

theorem c_fValid (f : Fo) (h : FOk f) : FnH Try.prog 44 [f.av, .int .i64 f.top] [] .tt [] := by
 obtain ⟨h1, h2, _, h4⟩ := h
 refine FnH.intro lay mixed Try.func44 (by kernel_rfl) rfl (by kernel_rfl) rfl fun hok => ?_
 ((try dsimp only[argC,succC]);(try dsimp only[awp]);(conv=>whnf))
 refine And.intro (fun _ => ?_) (fun g => by exfalso; omega)
 ((try dsimp only[awp]);(conv=>whnf))
 refine And.intro (fun _ => ?_) (fun g => by exfalso; omega)
 ((try dsimp only[awp]);(conv=>whnf))
 refine And.intro (fun g => ?_) (fun g => ?_)
 ·((try dsimp only[awp]);(conv=>whnf))
  (refine fM ?_;(conv=>whnf);refine ⟨?_,rfl⟩;(conv=>whnf))
  (repeat' first|exact rfl|exact trivial|exact wR|exact lR _|apply aI)
 ·((try dsimp only[awp]);(conv=>whnf))
  (refine ⟨inr64 (by omega) (by omega),?_⟩;(conv=>whnf))
  (refine fM ?_;(conv=>whnf);refine ⟨?_,rfl⟩;(conv=>whnf))
  show f.top - f.vars < (((f.nodes.map Nd.av).length : Nat) : Int)
  simp
  omega

theorem c_fCheck (f : Fo) (h : FOk f) : FnH Try.prog 14 [f.av] [] .nilI [] := by
 have cv := c_fValid f h
 obtain ⟨h1, h2, h3, h4⟩ := h
 have cn := fun i hi => c_fcheckNode f h1 i hi h2 (h3 i hi)
 refine FnH.intro lay mixed Try.func14 (by kernel_rfl) rfl (by kernel_rfl) rfl fun hok => ?_
 ((try dsimp only[argC,succC]);(try dsimp only[awp]);(conv=>whnf))
 refine And.intro (fun g => by exfalso; omega) (fun g => ?_)
 ((try dsimp only[awp]);(conv=>whnf))
 refine And.intro (fun g => by exfalso; omega) (fun g => ?_)
 ((try dsimp only[awp]);(conv=>whnf))
 refine And.intro (fun g => by exfalso; simp at g; omega) (fun g => ?_)
 ((try dsimp only[awp]);(conv=>whnf))
 refine LoopE.of <| LoopSpec.inv (.refl _ _) (fun (i : Nat) => i ≤ f.nodes.length) (fun (i : Nat) => [(22, .int .i64 i)]) (fun _ => _) (fun (i : Nat) => f.nodes.length - i) 0 ?_ (fun _ => rfl) ?_ ?_
 ·exact Nat.zero_le _
 ·(repeat' first|exact rfl|exact trivial|exact wR|exact lR _|apply aI)
 intro i hi _
 ((try dsimp only[awp]);(conv=>whnf))
 refine And.intro (fun g1 => ?_) (fun g1 => ?_)
 ·have hil : i < f.nodes.length := by simpa using g1
  ((try dsimp only[awp]);(conv=>whnf))
  refine .pure _ _ ?_ ⟨rfl, rfl⟩ (cn i hil) fun _ => ?_
  ·exact leL_refl _
  ((try dsimp only[awp]);(conv=>whnf))
  (refine ⟨inr64 (by omega) (by omega),?_⟩;(conv=>whnf))
  refine ⟨i + 1, ?_, ?_, ?_⟩
  ·exact hil
  ·(repeat' first|exact rfl|exact trivial|exact wR|exact lR _|apply aI)
  ·omega
 ((try dsimp only[awp]);(conv=>whnf))
 refine .pure _ _ ?_ ⟨rfl, rfl⟩ cv fun _ => ?_
 ·exact leL_refl _
 ((try dsimp only[awp]);(conv=>whnf))
 (refine fM ?_;(conv=>whnf);refine ⟨?_,rfl⟩;(conv=>whnf))
 (repeat' first|exact rfl|exact trivial|exact wR|exact lR _|apply aI)

def cntT (v : List Bool) (args : List Int) : Nat := args.foldl (fun n a => if v.getD a.toNat false = true then n + 1 else n) 0

def ndVal (x : Nd) (n : Nat) : Bool :=
 if x.kind = 0 then decide (x.k = 1) else if x.kind = 1 then decide (n = 0) else if x.kind = 2 then decide (n = x.args.length) else if x.kind = 3 then decide (0 < n)
 else if x.kind = 4 then decide (x.k ≤ n) else if x.kind = 5 then decide (n % 2 = 1) else false

def valN (v : List Bool) (x : Nd) : List Bool := v ++ [ndVal x (cntT v x.args)]
def valsF (vars set : Nat) (nodes : List Nd) : List Bool := nodes.foldl valN (evs vars set)

end S

open Go Go.AL Go.Proofs
namespace S
set_option maxRecDepth 100000

def markA (d : List Bool) (args : List Int) : List Bool := args.foldl (fun d a => d.set a.toNat true) d

theorem markA_len : ∀ (args : List Int) (d : List Bool), (markA d args).length = d.length
 | [], _ => rfl
 | a :: l, d => by show (markA (d.set a.toNat true) l).length = _; rw [markA_len l]; simp

theorem getD_setT {d : List Bool} {i j : Nat} : (d.set i true).getD j false = true ↔ d.getD j false = true ∨ (j < d.length ∧ i = j) := by
 rw [List.getD_eq_getElem?_getD, List.getD_eq_getElem?_getD, List.getElem?_set]
 by_cases h : i = j
 ·subst h
  rw [if_pos rfl]
  by_cases hl : i < d.length
  ·rw [if_pos hl]; simp [hl]
  ·rw [if_neg hl]; simp [hl]
 ·rw [if_neg h]; simp [h]

theorem markA_get : ∀ (args : List Int) (d : List Bool) (j : Nat), (markA d args).getD j false = true ↔ d.getD j false = true ∨ (j < d.length ∧ ∃ a ∈ args, a.toNat = j)
 | [], d, j => by simp [markA]
 | a :: l, d, j => by
   show (markA (d.set a.toNat true) l).getD j false = true ↔ _
   rw [markA_get l, getD_setT]
   simp only [List.length_set, List.mem_cons]
   constructor
   ·rintro ((h | ⟨h1, h2⟩) | ⟨h1, b, h2, h3⟩)
    ·exact .inl h
    ·exact .inr ⟨h1, a, .inl rfl, h2⟩
    ·exact .inr ⟨h1, b, .inr h2, h3⟩
   ·rintro (h | ⟨h1, b, rfl | h2, h3⟩)
    ·exact .inl (.inl h)
    ·exact .inl (.inr ⟨h1, h3⟩)
    ·exact .inr ⟨h1, b, h2, h3⟩

theorem markA_take {d : List Bool} {args : List Int} {j : Nat} (h : j < args.length) : markA d (args.take (j + 1)) = (markA d (args.take j)).set args[j].toNat true := by
 unfold markA
 rw [List.take_add_one, List.getElem?_eq_getElem h, List.foldl_append]; rfl

def argsAt (l : List Nd) (i : Nat) : List Int := (l.getD i default).args

def belK (v : Nat) (l : List Nd) (top : Nat) : Nat → List Bool
 | 0 => (List.replicate (v + l.length) false).set top true
 | k + 1 => if (belK v l top k).getD (v + (l.length - 1 - k)) false = true then markA (belK v l top k) (argsAt l (l.length - 1 - k)) else belK v l top k

def belF (v : Nat) (l : List Nd) (top : Nat) : List Bool := belK v l top l.length

theorem belK_len (v : Nat) (l : List Nd) (top : Nat) : ∀ k, (belK v l top k).length = v + l.length
 | 0 => by simp [belK]
 | k + 1 => by
   unfold belK
   split
   ·rw [markA_len, belK_len]
   ·exact belK_len v l top k

inductive Bel (v : Nat) (l : List Nd) (top : Nat) : Nat → Prop
 | root : Bel v l top top
 | step {i : Nat} {a : Int} (h : Bel v l top (v + i)) (hi : i < l.length) (ha : a ∈ argsAt l i) : Bel v l top a.toNat

theorem belK_inv {v : Nat} {l : List Nd} {top : Nat} (ht : top < v + l.length) (hw : ∀ i < l.length, ∀ a ∈ argsAt l i, 0 ≤ a ∧ a < (v : Int) + i) : ∀ k, k ≤ l.length →
  (∀ j, (belK v l top k).getD j false = true → Bel v l top j) ∧ (belK v l top k).getD top false = true ∧
  ∀ i, l.length ≤ i + k → i < l.length → (belK v l top k).getD (v + i) false = true → ∀ a ∈ argsAt l i, (belK v l top k).getD a.toNat false = true
 | 0, _ => by
   refine ⟨fun j h => ?_, ?_, fun i h1 h2 => by omega⟩
   ·unfold belK at h
    rw [getD_setT] at h
    rcases h with h | ⟨_, rfl⟩
    ·rw [List.getD_eq_getElem?_getD, List.getElem?_replicate] at h
     split at h <;> cases h
    ·exact .root
   ·unfold belK
    rw [getD_setT]
    exact .inr ⟨by simpa using ht, rfl⟩
 | k + 1, hk => by
   obtain ⟨h1, h2, h3⟩ := belK_inv ht hw k (by omega)
   have hl := belK_len v l top k
   unfold belK
   split
   ·rename_i hm
    refine ⟨fun j h => ?_, ?_, fun i g1 g2 g3 a ha => ?_⟩
    ·rw [markA_get] at h
     rcases h with h | ⟨_, a, ha, rfl⟩
     ·exact h1 j h
     ·exact .step (h1 _ hm) (by omega) ha
    ·rw [markA_get]; exact .inl h2
    ·rw [markA_get] at g3 ⊢
     by_cases e : i = l.length - 1 - k
     ·subst e
      have := hw _ g2 a ha
      exact .inr ⟨by rw [hl]; omega, a, ha, rfl⟩
     ·rcases g3 with g3 | ⟨_, b, hb, g4⟩
      ·exact .inl (h3 i (by omega) g2 g3 a ha)
      ·have := hw _ (by omega) b hb
       omega
   ·rename_i hm
    refine ⟨h1, h2, fun i g1 g2 g3 a ha => ?_⟩
    by_cases e : i = l.length - 1 - k
    ·subst e; exact absurd g3 hm
    ·exact h3 i (by omega) g2 g3 a ha

theorem belF_iff {v : Nat} {l : List Nd} {top : Nat} (ht : top < v + l.length) (hw : ∀ i < l.length, ∀ a ∈ argsAt l i, 0 ≤ a ∧ a < (v : Int) + i) (j : Nat) : (belF v l top).getD j false = true ↔ Bel v l top j := by
 obtain ⟨h1, h2, h3⟩ := belK_inv ht hw l.length (Nat.le_refl _)
 refine ⟨h1 j, fun h => ?_⟩
 unfold belF
 induction h with
 | root => exact h2
 | step _ hi ha ih => exact h3 _ (by omega) hi ih _ ha

theorem FOk.args {f : Fo} (h : FOk f) : ∀ i < f.nodes.length, ∀ a ∈ argsAt f.nodes i, 0 ≤ a ∧ a < (f.vars.toNat : Int) + i := by
 intro i hi a ha
 have hv := h.vars
 unfold argsAt at ha
 rw [List.getD_eq_getElem?_getD, List.getElem?_eq_getElem hi] at ha
 have := (h.nodes i hi).args a ha
 omega

theorem leRL_setT {A : AV} (h : leR A (.bool true)) : ∀ (d : List Bool) (i : Nat), leRL ((d.map AV.bool).set i A) ((d.set i true).map AV.bool)
 | [], _ => trivial
 | x :: d, 0 => ⟨h, leRL_refl _⟩
 | x :: d, i + 1 => ⟨leR_refl _, leRL_setT h d i⟩
theorem leRL_setF {A : AV} (h : leR A (.bool true)) : ∀ (n i : Nat), leRL ((List.replicate n AV.ff).set i A) (((List.replicate n false).set i true).map AV.bool)
 | 0, _ => trivial
 | n + 1, 0 => ⟨h, by
     show leRL (List.replicate n AV.ff) ((List.replicate n false).map AV.bool)
     induction n with
     | zero => trivial
     | succ n ih => exact ⟨rfl, ih⟩⟩
 | n + 1, i + 1 => ⟨rfl, leRL_setF h n i⟩

theorem c_fbelow (f : Fo) (h : FOk f) : FnH Try.prog 45 [f.av] [] (.sl 1 ((belF f.vars.toNat f.nodes f.top.toNat).map .bool) .no) [] := by
 have hw := h.args
 obtain ⟨h1, h2, h3, h4⟩ := h
 have htn : f.top.toNat < f.vars.toNat + f.nodes.length := by omega
 refine FnH.intro lay mixed Try.func45 (by kernel_rfl) rfl (by kernel_rfl) rfl fun hok => ?_
 ((try dsimp only[argC,succC]);(try dsimp only[awp]);(conv=>whnf))
 refine ⟨inr64 (by simp; omega) (by simp; omega), ?_⟩
 ((try dsimp only[awp]);(conv=>whnf))
 refine ⟨by refine ⟨by omega, by omega, by simp; omega, by simp; omega⟩, ?_⟩
 refine .wr ?_
 ((try dsimp only[awp]);(conv=>whnf))
 refine ⟨⟨by omega, by simp; omega⟩, ?_⟩
 ((try dsimp only[awp]);(conv=>whnf))
 refine ⟨by simp; omega, rfl, ?_⟩
 ((try dsimp only[awp]);(conv=>whnf))
 refine ⟨inr64 (by simp; omega) (by simp; omega), ?_⟩
 ((try dsimp only[awp]);(conv=>whnf))
 refine LoopE.of <| LoopSpec.inv (.refl _ _) (fun k : Nat => k ≤ f.nodes.length) (fun k => [(4, .int .i64 ((f.nodes.length : Int) - 1 - k))]) (fun k => [(1, .arr 1 (f.vars + ((f.nodes.map Nd.av).length : Int)).toNat ((belK f.vars.toNat f.nodes f.top.toNat k).map .bool)), (0, .box f.av)]) (fun k => f.nodes.length - k) 0 ?_ (fun _ => rfl) ?_ ?_
 ·exact Nat.zero_le _
 ·refine ⟨?_, .mk ?_ ?_⟩
  ·(repeat' first|exact rfl|exact trivial|exact wR|exact lR _|apply aI)
   all_goals (simp; done)
  ·(repeat' first|exact rfl|exact trivial|exact wR|exact lR _|apply aI)
   all_goals (rw [Nat.zero_add, show (f.vars + ((f.nodes.map Nd.av).length : Int)).toNat = f.vars.toNat + f.nodes.length by simp; omega]; refine leRL_setF ?_ _ _; first | exact rfl | (show _ ↔ _; simp))
  ·exact ⟨by simp, by simp, trivial⟩
 intro k hk _
 have hbl := belK_len f.vars.toNat f.nodes f.top.toNat k
 ((try dsimp only[awp]);(conv=>whnf))
 refine And.intro (fun g1 => ?_) (fun g1 => ?_)
 ·have hlt : k < f.nodes.length := by omega
  have hb1 : belK f.vars.toNat f.nodes f.top.toNat (k + 1) = if (belK f.vars.toNat f.nodes f.top.toNat k).getD (f.vars.toNat + (f.nodes.length - 1 - k)) false = true then markA (belK f.vars.toNat f.nodes f.top.toNat k) (argsAt f.nodes (f.nodes.length - 1 - k)) else belK f.vars.toNat f.nodes f.top.toNat k := rfl
  have hai := hw (f.nodes.length - 1 - k) (by omega)
  have hia : f.nodes.length - 1 - k < f.nodes.length := by omega
  have hae : argsAt f.nodes (f.nodes.length - 1 - k) = (f.nodes[f.nodes.length - 1 - k]).args := by unfold argsAt; rw [List.getD_eq_getElem?_getD, List.getElem?_eq_getElem hia]; rfl
  rw [hae] at hb1 hai
  have hnl : (f.nodes[f.nodes.length - 1 - k]).args.length ≤ 16 := by
   have hal := (h3 _ hia).num
   split at hal
   ·omega
   ·split at hal <;> omega
  generalize belK f.vars.toNat f.nodes f.top.toNat k = d at *
  rw [show (f.nodes.length : Int) - 1 - k = ((f.nodes.length - 1 - k : Nat) : Int) by omega]
  ((try dsimp only[awp]);(conv=>whnf))
  refine ⟨inr64 (by omega) (by omega), ?_⟩
  ((try dsimp only[awp]);(conv=>whnf))
  refine ⟨⟨by omega, by simp; omega⟩, ?_⟩
  ((try dsimp only[awp]);(conv=>whnf))
  rw [show 0 + (f.vars + ((f.nodes.length - 1 - k : Nat) : Int)).toNat = f.vars.toNat + (f.nodes.length - 1 - k) by omega]
  refine aidxD false (by simp; omega) ?_
  ((try dsimp only[awp]);(conv=>whnf))
  refine ⟨rfl, ?_⟩
  ((try dsimp only[awp]);(conv=>whnf))
  refine And.intro (fun g2 => ?_) (fun g2 => ?_)
  ·rw [Int.toNat_natCast] at g2
   rw [if_pos g2] at hb1
   ((try dsimp only[awp]);(conv=>whnf))
   refine aidx hia ?_
   generalize f.nodes[f.nodes.length - 1 - k] = x at *
   ((try dsimp only[awp]);(conv=>whnf))
   refine LoopE.of <| LoopSpec.inv (.refl _ _) (fun j : Nat => j ≤ x.args.length) (fun j => [(40, .int .i64 j)]) (fun j => [(1, .arr 1 (f.vars + ((f.nodes.map Nd.av).length : Int)).toNat ((markA d (x.args.take j)).map .bool)), (0, .box f.av)]) (fun j => x.args.length - j) 0 ?_ (fun _ => rfl) ?_ ?_
   ·exact Nat.zero_le _
   ·refine ⟨?_, .mk ?_ ?_⟩
    ·(repeat' first|exact rfl|exact trivial|exact wR|exact lR _|apply aI)
    ·(repeat' first|exact rfl|exact trivial|exact wR|exact lR _|apply aI)
    ·exact ⟨by simp, by simp, trivial⟩
   intro j hj _
   have hml := markA_len (x.args.take j) d
   ((try dsimp only[awp]);(conv=>whnf))
   refine And.intro (fun g3 => ?_) (fun g3 => ?_)
   ·have hjl : j < x.args.length := by simpa using g3
    have hmt := markA_take (d := d) hjl
    have ha := hai _ (List.getElem_mem hjl)
    ((try dsimp only[awp]);(conv=>whnf))
    refine aidx hjl ?_
    generalize x.args[j] = a at *
    ((try dsimp only[awp]);(conv=>whnf))
    refine ⟨⟨by omega, by simp; omega⟩, ?_⟩
    ((try dsimp only[awp]);(conv=>whnf))
    refine ⟨by simp; omega, rfl, ?_⟩
    ((try dsimp only[awp]);(conv=>whnf))
    (refine ⟨inr64 (by omega) (by omega),?_⟩;(conv=>whnf))
    refine ⟨j + 1, ?_, ?_, ?_⟩
    ·exact hjl
    ·rw [hmt]
     refine ⟨?_, .mk ?_ ?_⟩
     ·(repeat' first|exact rfl|exact trivial|exact wR|exact lR _|apply aI)
     ·(repeat' first|exact rfl|exact trivial|exact wR|exact lR _|apply aI)
      all_goals (rw [Nat.zero_add]; refine leRL_setT ?_ _ _; first | exact rfl | (show _ ↔ _; simp))
     ·exact ⟨by simp, by simp, trivial⟩
    ·omega
   have hjl : j = x.args.length := by (have : ¬ j < x.args.length := by simpa using g3); omega
   subst hjl
   clear g3
   rw [List.take_length, ← hb1]
   ((try dsimp only[awp]);(conv=>whnf))
   refine ⟨inr64 (by omega) (by omega), ?_⟩
   ((try dsimp only[awp]);(conv=>whnf))
   refine ⟨k + 1, ?_, ?_, ?_⟩
   ·exact hlt
   ·refine ⟨?_, .mk ?_ ?_⟩
    ·(repeat' first|exact rfl|exact trivial|exact wR|exact lR _|apply aI)
     all_goals (push_cast; omega)
    ·(repeat' first|exact rfl|exact trivial|exact wR|exact lR _|apply aI)
    ·exact ⟨by simp, by simp, trivial⟩
   ·omega
  ·rw [Int.toNat_natCast] at g2
   rw [if_neg (by rw [g2]; simp)] at hb1
   rw [← hb1]
   ((try dsimp only[awp]);(conv=>whnf))
   refine ⟨inr64 (by omega) (by omega), ?_⟩
   ((try dsimp only[awp]);(conv=>whnf))
   refine ⟨k + 1, ?_, ?_, ?_⟩
   ·exact hlt
   ·refine ⟨?_, .mk ?_ ?_⟩
    ·(repeat' first|exact rfl|exact trivial|exact wR|exact lR _|apply aI)
     all_goals (push_cast; omega)
    ·(repeat' first|exact rfl|exact trivial|exact wR|exact lR _|apply aI)
    ·exact ⟨by simp, by simp, trivial⟩
   ·omega
 have hkl : k = f.nodes.length := by omega
 subst hkl
 ((try dsimp only[awp]);(conv=>whnf))
 refine ⟨⟨_, _, .keep 2 1 _ _ _ _ rfl rfl ?_ (.refl _ _), ?_⟩⟩
 ·have := belK_len f.vars.toNat f.nodes f.top.toNat f.nodes.length
  simp [this]; omega
 (conv=>whnf)
 refine ⟨?_, rfl, by simp [nextId], .mk ?_ (by simp [idsOk])⟩
 ·(repeat' first|exact rfl|exact trivial|exact wR|exact lR _|apply aI)
  all_goals (refine leRL_of ?_; rw [List.take_of_length_le (by rw [List.length_map, belK_len]; simp; omega)]; rfl)
 ·(repeat' first|exact rfl|exact trivial|exact wR|exact lR _|apply aI)

def supF (v : Nat) (d : List Bool) (n : Nat) : Nat := (List.range n).foldl (fun s i => if d.getD i false = true then s ||| 2 ^ i else s) 0

theorem supF_bit (v : Nat) (d : List Bool) (i : Nat) : ∀ n, (supF v d n).testBit i = (decide (i < n) && d.getD i false)
 | 0 => by simp [supF]
 | n + 1 => by
   have ih := supF_bit v d i n
   unfold supF at ih ⊢
   rw [List.range_succ, List.foldl_append, List.foldl_cons, List.foldl_nil]
   generalize (List.range n).foldl (fun s i => if d.getD i false = true then s ||| 2 ^ i else s) 0 = S at *
   split
   ·rename_i h
    rw [Nat.testBit_or, ih, Nat.testBit_two_pow]
    by_cases e : n = i
    ·subst e; rw [h]; simp
    ·have e2 : (i < n + 1) ↔ i < n := by omega
     simp [e, e2]
   ·rename_i h
    rw [ih]
    by_cases e : n = i
    ·subst e; rw [Bool.eq_false_iff.2 h]; simp
    ·have e2 : (i < n + 1) ↔ i < n := by omega
     simp [e2]

theorem supF_lt (v : Nat) (d : List Bool) (n : Nat) : supF v d n < 2 ^ n := by
 refine Nat.lt_pow_two_of_testBit _ fun i hi => ?_
 rw [supF_bit]
 simp; omega

theorem c_fSupport (f : Fo) (h : FOk f) : FnH Try.prog 16 [f.av] [] (.tup [.int .i64 (supF 0 (belF f.vars.toNat f.nodes f.top.toNat) f.vars.toNat), .nilI]) [] := by
 have cc := c_fCheck f h
 have cb := c_fbelow f h
 have hbl : (belF f.vars.toNat f.nodes f.top.toNat).length = f.vars.toNat + f.nodes.length := belK_len _ _ _ _
 obtain ⟨h1, h2, h3, h4⟩ := h
 generalize belF f.vars.toNat f.nodes f.top.toNat = d at *
 refine FnH.intro lay mixed Try.func16 (by kernel_rfl) rfl (by kernel_rfl) rfl fun hok => ?_
 ((try dsimp only[argC,succC]);(try dsimp only[awp]);(conv=>whnf))
 refine .pure _ _ ?_ ⟨rfl, rfl⟩ cc fun _ => ?_
 ·exact leL_refl _
 ((try dsimp only[awp]);(conv=>whnf))
 (refine ADraw.auto (by kernel_rfl) ?_;(conv=>whnf))
 refine ACallP.pure _ _ ?_ ⟨rfl, rfl⟩ cb ?_
 ·exact leL_refl _
 ((try dsimp only[awp]);(conv=>whnf))
 have hle : ((d.map AV.bool).drop (0 : Int).toNat).take (f.vars.toNat - (0 : Int).toNat) = (d.take f.vars.toNat).map AV.bool := by simp [List.map_take]
 refine ACut.mk ⟨by simp; omega, ?_⟩
 rw [hle]
 ((try dsimp only[awp]);(conv=>whnf))
 have hdl : (d.take f.vars.toNat).length = f.vars.toNat := by rw [List.length_take]; omega
 refine LoopE.of <| LoopSpec.inv (.refl _ _) (fun (i : Nat) => i ≤ f.vars.toNat) (fun (i : Nat) => [(19, .int .i64 i), (5, .int .i64 (supF 0 d i))]) (fun _ => _) (fun (i : Nat) => f.vars.toNat - i) 0 ?_ (fun _ => rfl) ?_ ?_
 ·exact Nat.zero_le _
 ·(repeat' first|exact rfl|exact trivial|exact wR|exact lR _|apply aI)
 intro i hi _
 ((try dsimp only[awp]);(conv=>whnf))
 refine And.intro (fun g1 => ?_) (fun g1 => ?_)
 ·have hil : i < f.vars.toNat := by simp at g1; omega
  have hsl := supF_lt 0 d i
  have hs2 : 2 ^ i < 2 ^ 62 := Nat.pow_lt_pow_right (by omega) (by omega)
  have hsn : supF 0 d (i + 1) = if d.getD i false = true then supF 0 d i ||| 2 ^ i else supF 0 d i := by
   unfold supF
   rw [List.range_succ, List.foldl_append]; rfl
  ((try dsimp only[awp]);(conv=>whnf))
  refine aidxD false (by omega) ?_
  rw [show (d.take f.vars.toNat).getD ((i : Nat) : Int).toNat false = d.getD i false by rw [Int.toNat_natCast, List.getD_eq_getElem?_getD, List.getD_eq_getElem?_getD, List.getElem?_take_of_lt hil]]
  ((try dsimp only[awp]);(conv=>whnf))
  refine And.intro (fun g2 => ?_) (fun g2 => ?_)
  ·rw [if_pos g2] at hsn
   ((try dsimp only[awp]);(conv=>whnf))
   refine ⟨by omega, ?_⟩
   rw [shl_one (by omega)]
   ((try dsimp only[awp]);(conv=>whnf))
   rw [or_nat (by omega) (by omega)]
   ((try dsimp only[awp]);(conv=>whnf))
   (refine ⟨inr64 (by omega) (by omega),?_⟩;(conv=>whnf))
   refine ⟨i + 1, ?_, ?_, ?_⟩
   ·exact hil
   ·rw [hsn]
    (repeat' first|exact rfl|exact trivial|exact wR|exact lR _|apply aI)
   ·omega
  ·rw [if_neg (by rw [g2]; simp)] at hsn
   ((try dsimp only[awp]);(conv=>whnf))
   (refine ⟨inr64 (by omega) (by omega),?_⟩;(conv=>whnf))
   refine ⟨i + 1, ?_, ?_, ?_⟩
   ·exact hil
   ·rw [hsn]
    (repeat' first|exact rfl|exact trivial|exact wR|exact lR _|apply aI)
   ·omega
 have hil : i = f.vars.toNat := by simp at g1; omega
 subst hil
 ((try dsimp only[awp]);(conv=>whnf))
 (refine fM ?_;(conv=>whnf);refine ⟨?_,rfl⟩;(conv=>whnf))
 (repeat' first|exact rfl|exact trivial|exact wR|exact lR _|apply aI)

def sizeF (v : Nat) (l : List Nd) (d : List Bool) (n : Nat) : Nat × Nat := (List.range n).foldl (fun p i => if d.getD (v + i) false = true then (p.1 + 1, p.2 + (argsAt l i).length) else p) (0, 0)

theorem sizeF_succ (v : Nat) (l : List Nd) (d : List Bool) (n : Nat) : sizeF v l d (n + 1) = if d.getD (v + n) false = true then ((sizeF v l d n).1 + 1, (sizeF v l d n).2 + (argsAt l n).length) else sizeF v l d n := by
 unfold sizeF
 rw [List.range_succ, List.foldl_append]; rfl

theorem sizeF_all (v : Nat) (l : List Nd) (d : List Bool) : ∀ n, (∀ i < n, d.getD (v + i) false = true) → (sizeF v l d n).1 = n
 | 0, _ => rfl
 | n + 1, h => by
   rw [sizeF_succ, if_pos (h n (by omega))]
   show (sizeF v l d n).1 + 1 = _
   rw [sizeF_all v l d n fun i hi => h i (by omega)]

theorem c_fSize (f : Fo) (h : FOk f) : FnH Try.prog 15 [f.av] [] (.tup [.int .i64 (sizeF f.vars.toNat f.nodes (belF f.vars.toNat f.nodes f.top.toNat) f.nodes.length).1, .int .i64 (sizeF f.vars.toNat f.nodes (belF f.vars.toNat f.nodes f.top.toNat) f.nodes.length).2, .nilI]) [] := by
 have cc := c_fCheck f h
 have cb := c_fbelow f h
 have hbl : (belF f.vars.toNat f.nodes f.top.toNat).length = f.vars.toNat + f.nodes.length := belK_len _ _ _ _
 obtain ⟨h1, h2, h3, h4⟩ := h
 generalize belF f.vars.toNat f.nodes f.top.toNat = d at *
 refine FnH.intro lay mixed Try.func15 (by kernel_rfl) rfl (by kernel_rfl) rfl fun hok => ?_
 ((try dsimp only[argC,succC]);(try dsimp only[awp]);(conv=>whnf))
 refine .pure _ _ ?_ ⟨rfl, rfl⟩ cc fun _ => ?_
 ·exact leL_refl _
 ((try dsimp only[awp]);(conv=>whnf))
 (refine ADraw.auto (by kernel_rfl) ?_;(conv=>whnf))
 refine ACallP.pure _ _ ?_ ⟨rfl, rfl⟩ cb ?_
 ·exact leL_refl _
 ((try dsimp only[awp]);(conv=>whnf))
 have hle : ((d.map AV.bool).drop f.vars.toNat).take (((d.map AV.bool).length : Int).toNat - f.vars.toNat) = (d.drop f.vars.toNat).map AV.bool := by
  rw [← List.map_drop, ← List.map_take, List.take_of_length_le (by simp)]
 refine ACut.mk ⟨by simp; omega, ?_⟩
 rw [hle]
 ((try dsimp only[awp]);(conv=>whnf))
 have hdl : (d.drop f.vars.toNat).length = f.nodes.length := by rw [List.length_drop]; omega
 refine LoopE.of <| LoopSpec.inv (.refl _ _) (fun (i : Nat) => i ≤ f.nodes.length ∧ (sizeF f.vars.toNat f.nodes d i).1 ≤ i ∧ (sizeF f.vars.toNat f.nodes d i).2 ≤ 16 * i) (fun (i : Nat) => [(19, .int .i64 i), (2, .int .i64 (sizeF f.vars.toNat f.nodes d i).1), (3, .int .i64 (sizeF f.vars.toNat f.nodes d i).2)]) (fun _ => _) (fun (i : Nat) => f.nodes.length - i) 0 ?_ (fun _ => rfl) ?_ ?_
 ·exact ⟨Nat.zero_le _, Nat.le_refl _, Nat.le_refl _⟩
 ·(repeat' first|exact rfl|exact trivial|exact wR|exact lR _|apply aI)
 rintro i ⟨hi, hs1, hs2⟩ _
 ((try dsimp only[awp]);(conv=>whnf))
 refine And.intro (fun g1 => ?_) (fun g1 => ?_)
 ·have hil : i < f.nodes.length := by simp at g1; omega
  have hsn := sizeF_succ f.vars.toNat f.nodes d i
  have hae : argsAt f.nodes i = (f.nodes[i]).args := by unfold argsAt; rw [List.getD_eq_getElem?_getD, List.getElem?_eq_getElem hil]; rfl
  rw [hae] at hsn
  have hnl : (f.nodes[i]).args.length ≤ 16 := by
   have hal := (h3 _ hil).num
   split at hal
   ·omega
   ·split at hal <;> omega
  ((try dsimp only[awp]);(conv=>whnf))
  refine aidxD false (by omega) ?_
  rw [show (d.drop f.vars.toNat).getD ((i : Nat) : Int).toNat false = d.getD (f.vars.toNat + i) false by rw [Int.toNat_natCast, List.getD_eq_getElem?_getD, List.getD_eq_getElem?_getD, List.getElem?_drop]]
  generalize sizeF f.vars.toNat f.nodes d i = p at *
  ((try dsimp only[awp]);(conv=>whnf))
  refine And.intro (fun g2 => ?_) (fun g2 => ?_)
  ·rw [if_pos g2] at hsn
   ((try dsimp only[awp]);(conv=>whnf))
   (refine ⟨inr64 (by omega) (by omega),?_⟩;(conv=>whnf))
   ((try dsimp only[awp]);(conv=>whnf))
   refine aidx hil ?_
   generalize f.nodes[i] = x at *
   ((try dsimp only[awp]);(conv=>whnf))
   refine ⟨inr64 (by simp; omega) (by simp; omega), ?_⟩
   ((try dsimp only[awp]);(conv=>whnf))
   (refine ⟨inr64 (by omega) (by omega),?_⟩;(conv=>whnf))
   refine ⟨i + 1, ?_, ?_, ?_⟩
   ·rw [hsn]; exact ⟨hil, by dsimp only; omega, by dsimp only; omega⟩
   ·rw [hsn]
    refine ⟨?_, .mk ?_ (by simp [idsOk])⟩
    ·(repeat' first|exact rfl|exact trivial|exact wR|exact lR _|apply aI)
     all_goals (simp; done)
    ·(repeat' first|exact rfl|exact trivial|exact wR|exact lR _|apply aI)
   ·omega
  ·rw [if_neg (by rw [g2]; simp)] at hsn
   ((try dsimp only[awp]);(conv=>whnf))
   (refine ⟨inr64 (by omega) (by omega),?_⟩;(conv=>whnf))
   refine ⟨i + 1, ?_, ?_, ?_⟩
   ·rw [hsn]; exact ⟨hil, by omega, by omega⟩
   ·rw [hsn]
    refine ⟨?_, .mk ?_ (by simp [idsOk])⟩
    ·(repeat' first|exact rfl|exact trivial|exact wR|exact lR _|apply aI)
    ·(repeat' first|exact rfl|exact trivial|exact wR|exact lR _|apply aI)
   ·omega
 have hil : i = f.nodes.length := by simp at g1; omega
 subst hil
 ((try dsimp only[awp]);(conv=>whnf))
 (refine fM ?_;(conv=>whnf);refine ⟨?_,rfl⟩;(conv=>whnf))
 (repeat' first|exact rfl|exact trivial|exact wR|exact lR _|apply aI)
end S

open Go Go.AL Go.Proofs
namespace S
set_option maxRecDepth 100000

abbrev WkO (T : HO) : Prop := leO T T ∧ (match T with | .amap _ es => bndM 3 es = true | o => bndO 3 o = true)
abbrev WkA (X : AV) : Prop := le0 X X ∧ bndB 3 X = true

abbrev hpF (m : Md) (X : AV) (T M : HO) : Heap := [(2, T), (1, .box (.ag [m.av, X, .mp 0])), (0, M)]

theorem c_find1 (x : Pg) (s : Str) (h0 : 0 < s.length) : FnH Try.prog 119 [x.av, .ptr 0 [] 0] [(0, .box (.str s))] (.bool (decide (x.name = s.drop 1))) [(0, .box (.str s))] := by
 refine FnH.intro lay mixed Try.func119 (by kernel_rfl) rfl (by kernel_rfl) rfl fun hok => ?_
 ((try dsimp only[argC,succC]);(try dsimp only[awp]);(conv=>whnf))
 (refine ADraw.auto (by kernel_rfl) ?_;(conv=>whnf))
 refine ⟨⟨by omega, by omega, by omega⟩, ?_⟩
 rw [cut1]
 ((try dsimp only[awp]);(conv=>whnf))
 refine ⟨⟨_, _, .refl _ _, ?_⟩⟩
 (conv=>whnf)
 refine ⟨?_, rfl, by simp [nextId], .mk ?_ ⟨by simp, trivial⟩⟩
 ·show _ ↔ _
  simp
 ·(repeat' first|exact rfl|exact trivial|exact wR|exact lR _|apply aI)

theorem c_find2 (x : Ev) (s : Str) : FnH Try.prog 120 [x.av, .ptr 0 [] 0] [(0, .box (.str s))] (.bool (decide (x.name = s))) [(0, .box (.str s))] := by
 refine FnH.intro lay mixed Try.func120 (by kernel_rfl) rfl (by kernel_rfl) rfl fun hok => ?_
 ((try dsimp only[argC,succC]);(try dsimp only[awp]);(conv=>whnf))
 refine ⟨⟨_, _, .refl _ _, ?_⟩⟩
 (conv=>whnf)
 refine ⟨?_, rfl, by simp [nextId], .mk ?_ ⟨by simp, trivial⟩⟩
 ·show _ ↔ _
  simp
 ·(repeat' first|exact rfl|exact trivial|exact wR|exact lR _|apply aI)
theorem c_find3 (x : Hs) (s : Str) : FnH Try.prog 121 [x.av, .ptr 0 [] 0] [(0, .box (.str s))] (.bool (decide (x.name = s))) [(0, .box (.str s))] := by
 refine FnH.intro lay mixed Try.func121 (by kernel_rfl) rfl (by kernel_rfl) rfl fun hok => ?_
 ((try dsimp only[argC,succC]);(try dsimp only[awp]);(conv=>whnf))
 refine ⟨⟨_, _, .refl _ _, ?_⟩⟩
 (conv=>whnf)
 refine ⟨?_, rfl, by simp [nextId], .mk ?_ ⟨by simp, trivial⟩⟩
 ·show _ ↔ _
  simp
 ·(repeat' first|exact rfl|exact trivial|exact wR|exact lR _|apply aI)
theorem c_find4 (x : Mg) (s : Str) : FnH Try.prog 122 [x.av, .ptr 0 [] 0] [(0, .box (.str s))] (.bool (decide (x.name = s))) [(0, .box (.str s))] := by
 refine FnH.intro lay mixed Try.func122 (by kernel_rfl) rfl (by kernel_rfl) rfl fun hok => ?_
 ((try dsimp only[argC,succC]);(try dsimp only[awp]);(conv=>whnf))
 refine ⟨⟨_, _, .refl _ _, ?_⟩⟩
 (conv=>whnf)
 refine ⟨?_, rfl, by simp [nextId], .mk ?_ ⟨by simp, trivial⟩⟩
 ·show _ ↔ _
  simp
 ·(repeat' first|exact rfl|exact trivial|exact wR|exact lR _|apply aI)

theorem c_cgates (m : Md) (X : AV) (T M B3 B4 : HO) (a : Int) (h : a = -1 ∨ (0 ≤ a ∧ a < (m.pages.length : Int))) : FnH Try.prog 110 [.ptr 1 [] 0, .int .i64 a] ((4, B4) :: (3, B3) :: hpF m X T M) (gL (gatesM m a)) ((4, B4) :: (3, B3) :: hpF m X T M) := by
 refine FnH.intro lay mixed Try.func110 (by kernel_rfl) rfl (by kernel_rfl) rfl fun hok => ?_
 ((try dsimp only[argC,succC]);(try dsimp only[awp]);(conv=>whnf))
 refine And.intro (fun h1 => ?_) (fun h1 => ?_)
 ·rw [show gatesM m a = m.gates from if_pos h1]
  ((try dsimp only[awp]);(conv=>whnf))
  (refine FinSpec.same ?_;(conv=>whnf);refine ⟨?_,rfl⟩;(conv=>whnf))
  (repeat' first|exact rfl|exact trivial|exact wR|exact lR _|apply aI)
 ·have hb : 0 ≤ a ∧ a < (m.pages.length : Int) := by omega
  rw [show gatesM m a = (m.pages.getD a.toNat default).gates from if_neg h1]
  ((try dsimp only[awp]);(conv=>whnf))
  refine aidxD default hb ?_
  ((try dsimp only[awp]);(conv=>whnf))
  (refine FinSpec.same ?_;(conv=>whnf);refine ⟨?_,rfl⟩;(conv=>whnf))
  (repeat' first|exact rfl|exact trivial|exact wR|exact lR _|apply aI)

theorem c_cfind (m : Md) (X : AV) (T M : HO) (hX : WkA X) (hT : WkO T) (hO : WkO M) (a : Int) (s : Str) (h0 : 0 < s.length) (ha : a = -1 ∨ (0 ≤ a ∧ a < (m.pages.length : Int))) (hp : atS s = true → 0 ≤ i_page m.pages (s.drop 1)) :
  FnH Try.prog 109 [.ptr 1 [] 0, .int .i64 a, .str s] (hpF m X T M) (nAV (resR m a s)) (hpF m X T M) := by
 have hpl : i_page m.pages (s.drop 1) < (m.pages.length : Int) := idxP_lt _ _
 refine FnH.intro lay mixed Try.func109 (by kernel_rfl) rfl (by kernel_rfl) rfl fun hok => ?_
 ((try dsimp only[argC,succC]);(try dsimp only[awp]);(conv=>whnf))
 refine sidx0 h0 ?_
 ((try dsimp only[awp]);(conv=>whnf))
 refine And.intro (fun h2 => ?_) (fun h2 => ?_)
 ·have e : atS s = true := by simp only [atS, h0, h2, decide_true, Bool.true_and]
  have hp := hp e
  rw [show resR m a s = resOn m (i_page m.pages (s.drop 1)) (pageTop m (i_page m.pages (s.drop 1))) from if_pos e]
  have hpt : (m.pages.getD (i_page m.pages (s.drop 1)).toNat default).top = pageTop m (i_page m.pages (s.drop 1)) := rfl
  ((try dsimp only[awp]);(conv=>whnf))
  refine .gen _ _ (c_idx_Pg m.pages 119 [.ptr 3 [] 0] (fun x => decide (x.name = s.drop 1)) _ fun x _ => FnH.frame [3] (c_find1 x s h0) ⟨rfl, rfl, rfl, rfl⟩ (by (repeat' first|exact rfl|exact trivial|exact wR|exact lR _|apply aI)) (by (repeat' first|exact rfl|exact trivial|exact wR|exact lR _|apply aI))) fun _ => ?_
  rw [show idxP (fun x => decide (x.name = s.drop 1)) m.pages = i_page m.pages (s.drop 1) from rfl]
  generalize i_page m.pages (s.drop 1) = p at *
  have hpb : p = -1 ∨ (0 ≤ p ∧ p < (m.pages.length : Int)) := .inr ⟨hp, hpl⟩
  ((try dsimp only[awp]);(conv=>whnf))
  refine aidxD default ⟨hp, hpl⟩ ?_
  ((try dsimp only[awp]);(conv=>whnf))
  rw [hpt]
  generalize pageTop m p = t at *
  ((try dsimp only[awp]);(conv=>whnf))
  refine .gen _ _ (c_idx_Ev m.evs 120 [.ptr 3 [] 0] (fun x => decide (x.name = t)) _ fun x _ => FnH.frame [3] (c_find2 x t) ⟨rfl, rfl, rfl, rfl⟩ (by (repeat' first|exact rfl|exact trivial|exact wR|exact lR _|apply aI)) (by (repeat' first|exact rfl|exact trivial|exact wR|exact lR _|apply aI))) fun _ => ?_
  ((try dsimp only[awp]);(conv=>whnf))
  refine And.intro (fun h3 => ?_) (fun h3 => ?_)
  ·rw [show resOn m p t = (0, 0, i_event m.evs t) from if_pos h3]
   ((try dsimp only[awp]);(conv=>whnf))
   refine ⟨⟨_, _, .refl _ _, ?_⟩⟩
   (conv=>whnf)
   refine ⟨?_, rfl, by simp [nextId], .mk ?_ (by simp [idsOk])⟩
   ·(repeat' first|exact rfl|exact trivial|exact wR|exact lR _|apply aI)
   ·(repeat' first|exact rfl|exact trivial|exact wR|exact lR _|apply aI)
    all_goals first | exact hT.1 | exact hT.2 | exact hO.1 | exact hO.2 | exact hX.1 | (show (match bndB 3 X with | true => _ | false => _) = true; rw [hX.2]; rfl)
  ((try dsimp only[awp]);(conv=>whnf))
  refine .gen _ _ (c_idx_Hs m.hs 121 [.ptr 3 [] 0] (fun x => decide (x.name = t)) _ fun x _ => FnH.frame [3] (c_find3 x t) ⟨rfl, rfl, rfl, rfl⟩ (by (repeat' first|exact rfl|exact trivial|exact wR|exact lR _|apply aI)) (by (repeat' first|exact rfl|exact trivial|exact wR|exact lR _|apply aI))) fun _ => ?_
  ((try dsimp only[awp]);(conv=>whnf))
  refine And.intro (fun h4 => ?_) (fun h4 => ?_)
  ·rw [show resOn m p t = (1, 0, i_house m.hs t) from (if_neg h3).trans (if_pos h4)]
   ((try dsimp only[awp]);(conv=>whnf))
   refine ⟨⟨_, _, .refl _ _, ?_⟩⟩
   (conv=>whnf)
   refine ⟨?_, rfl, by simp [nextId], .mk ?_ (by simp [idsOk])⟩
   ·(repeat' first|exact rfl|exact trivial|exact wR|exact lR _|apply aI)
   ·(repeat' first|exact rfl|exact trivial|exact wR|exact lR _|apply aI)
    all_goals first | exact hT.1 | exact hT.2 | exact hO.1 | exact hO.2 | exact hX.1 | (show (match bndB 3 X with | true => _ | false => _) = true; rw [hX.2]; rfl)
  rw [show resOn m p t = (2, p, i_gate (gatesM m p) t) from (if_neg h3).trans (if_neg h4)]
  ((try dsimp only[awp]);(conv=>whnf))
  refine .gen _ _ (c_cgates m X T M _ _ p (by assumption)) fun _ => ?_
  ((try dsimp only[awp]);(conv=>whnf))
  refine .gen _ _ (c_idx_Mg (gatesM m p) 122 [.ptr 3 [] 0] (fun x => decide (x.name = t)) _ fun x _ => FnH.frame [3] (c_find4 x t) ⟨rfl, rfl, rfl, rfl⟩ (by (repeat' first|exact rfl|exact trivial|exact wR|exact lR _|apply aI)) (by (repeat' first|exact rfl|exact trivial|exact wR|exact lR _|apply aI))) fun _ => ?_
  ((try dsimp only[awp]);(conv=>whnf))
  refine ⟨⟨_, _, .refl _ _, ?_⟩⟩
  (conv=>whnf)
  refine ⟨?_, rfl, by simp [nextId], .mk ?_ (by simp [idsOk])⟩
  ·(repeat' first|exact rfl|exact trivial|exact wR|exact lR _|apply aI)
  ·(repeat' first|exact rfl|exact trivial|exact wR|exact lR _|apply aI)
   all_goals first | exact hT.1 | exact hT.2 | exact hO.1 | exact hO.2 | exact hX.1 | (show (match bndB 3 X with | true => _ | false => _) = true; rw [hX.2]; rfl)
 ·have e : atS s = false := by simp only [atS, decide_eq_false h2, Bool.and_false]
  rw [show resR m a s = resOn m a s from if_neg (by rw [e]; simp)]
  ((try dsimp only[awp]);(conv=>whnf))
  refine .gen _ _ (c_idx_Ev m.evs 120 [.ptr 3 [] 0] (fun x => decide (x.name = s)) _ fun x _ => FnH.frame [3] (c_find2 x s) ⟨rfl, rfl, rfl, rfl⟩ (by (repeat' first|exact rfl|exact trivial|exact wR|exact lR _|apply aI)) (by (repeat' first|exact rfl|exact trivial|exact wR|exact lR _|apply aI))) fun _ => ?_
  ((try dsimp only[awp]);(conv=>whnf))
  refine And.intro (fun h3 => ?_) (fun h3 => ?_)
  ·rw [show resOn m a s = (0, 0, i_event m.evs s) from if_pos h3]
   ((try dsimp only[awp]);(conv=>whnf))
   refine ⟨⟨_, _, .refl _ _, ?_⟩⟩
   (conv=>whnf)
   refine ⟨?_, rfl, by simp [nextId], .mk ?_ (by simp [idsOk])⟩
   ·(repeat' first|exact rfl|exact trivial|exact wR|exact lR _|apply aI)
   ·(repeat' first|exact rfl|exact trivial|exact wR|exact lR _|apply aI)
    all_goals first | exact hT.1 | exact hT.2 | exact hO.1 | exact hO.2 | exact hX.1 | (show (match bndB 3 X with | true => _ | false => _) = true; rw [hX.2]; rfl)
  ((try dsimp only[awp]);(conv=>whnf))
  refine .gen _ _ (c_idx_Hs m.hs 121 [.ptr 3 [] 0] (fun x => decide (x.name = s)) _ fun x _ => FnH.frame [3] (c_find3 x s) ⟨rfl, rfl, rfl, rfl⟩ (by (repeat' first|exact rfl|exact trivial|exact wR|exact lR _|apply aI)) (by (repeat' first|exact rfl|exact trivial|exact wR|exact lR _|apply aI))) fun _ => ?_
  ((try dsimp only[awp]);(conv=>whnf))
  refine And.intro (fun h4 => ?_) (fun h4 => ?_)
  ·rw [show resOn m a s = (1, 0, i_house m.hs s) from (if_neg h3).trans (if_pos h4)]
   ((try dsimp only[awp]);(conv=>whnf))
   refine ⟨⟨_, _, .refl _ _, ?_⟩⟩
   (conv=>whnf)
   refine ⟨?_, rfl, by simp [nextId], .mk ?_ (by simp [idsOk])⟩
   ·(repeat' first|exact rfl|exact trivial|exact wR|exact lR _|apply aI)
   ·(repeat' first|exact rfl|exact trivial|exact wR|exact lR _|apply aI)
    all_goals first | exact hT.1 | exact hT.2 | exact hO.1 | exact hO.2 | exact hX.1 | (show (match bndB 3 X with | true => _ | false => _) = true; rw [hX.2]; rfl)
  rw [show resOn m a s = (2, a, i_gate (gatesM m a) s) from (if_neg h3).trans (if_neg h4)]
  ((try dsimp only[awp]);(conv=>whnf))
  refine .gen _ _ (c_cgates m X T M _ _ a (by assumption)) fun _ => ?_
  ((try dsimp only[awp]);(conv=>whnf))
  refine .gen _ _ (c_idx_Mg (gatesM m a) 122 [.ptr 3 [] 0] (fun x => decide (x.name = s)) _ fun x _ => FnH.frame [3] (c_find4 x s) ⟨rfl, rfl, rfl, rfl⟩ (by (repeat' first|exact rfl|exact trivial|exact wR|exact lR _|apply aI)) (by (repeat' first|exact rfl|exact trivial|exact wR|exact lR _|apply aI))) fun _ => ?_
  ((try dsimp only[awp]);(conv=>whnf))
  refine ⟨⟨_, _, .refl _ _, ?_⟩⟩
  (conv=>whnf)
  refine ⟨?_, rfl, by simp [nextId], .mk ?_ (by simp [idsOk])⟩
  ·(repeat' first|exact rfl|exact trivial|exact wR|exact lR _|apply aI)
  ·(repeat' first|exact rfl|exact trivial|exact wR|exact lR _|apply aI)
   all_goals first | exact hT.1 | exact hT.2 | exact hO.1 | exact hO.2 | exact hX.1 | (show (match bndB 3 X with | true => _ | false => _) = true; rw [hX.2]; rfl)
end S

open Go Go.AL Go.Proofs
namespace S
set_option maxRecDepth 100000

def fewG (x : Mg) : Bool := decide (x.ins.length ≤ 40) && shortR x.dorm
def fewR (l : List Mg) : Bool := l.all fewG && decide (l.length ≤ 100)
def evS (x : Ev) : Bool := shortR x.p && shortR x.fail && shortR x.repair
def grS (x : Gr) : Bool := decide (x.mem.length ≤ 60) && decide (x.fac.length ≤ 60) && x.fac.all shortR
def phS (x : Ph) : Bool := decide (x.vals.length ≤ 60) && x.vals.all fun v => shortR v.p

def lightM (m : Md) : Bool := decide (m.evs.length ≤ 60) && decide (m.hs.length ≤ 60) && decide (m.pages.length ≤ 30) && decide (m.grs.length ≤ 30) && decide (m.phs.length ≤ 30) && fewR m.gates &&
 m.evs.all evS && (m.pages.all fun p => fewR p.gates) && m.grs.all grS && m.phs.all phS

theorem c_few (l : List Mg) (R : AV) (hR : R = .bool (fewR l)) : FnH Try.prog 26 [gL l] [] R [] := by
 refine FnH.intro lay mixed Try.func26 (by kernel_rfl) rfl (by kernel_rfl) rfl fun hok => ?_
 have lg : l.length ≤ 9223372036854775807 := by have := hok.1.1; simpa [maxL] using this
 ((try dsimp only[argC,succC]);(try dsimp only[awp]);(conv=>whnf))
 refine LoopE.of <| LoopSpec.inv (.refl _ _) (fun (i : Nat) => i ≤ l.length ∧ (l.take i).all fewG = true) (fun (i : Nat) => [(7, .int .i64 i)]) (fun _ => _) (fun (i : Nat) => l.length - i) 0 ?_ (fun _ => rfl) ?_ ?_
 ·exact ⟨Nat.zero_le _, by simp⟩
 ·(repeat' first|exact rfl|exact trivial|exact wR|exact lR _|apply aI)
 rintro i ⟨hi, hn⟩ _
 ((try dsimp only[awp]);(conv=>whnf))
 refine And.intro (fun h => ?_) (fun h => ?_)
 ·have hlt : i < l.length := by simpa using h
  have hall := all_take (p := fewG) hlt
  have hmem := List.getElem_mem hlt
  ((try dsimp only[awp]);(conv=>whnf))
  refine aidx hlt ?_
  generalize l[i] = g at *
  have no : fewG g = false → R = .bool false := fun h => by rw [hR]; unfold fewR; rw [all_false hmem h]; rfl
  ((try dsimp only[awp]);(conv=>whnf))
  refine And.intro (fun h1 => ?_) (fun h1 => ?_)
  ·have h1 : ¬ g.ins.length ≤ 40 := by simp only [List.length_map] at h1; omega
   obtain rfl := no (by simp [fewG, h1])
   ((try dsimp only[awp]);(conv=>whnf))
   (refine fM ?_;(conv=>whnf);refine ⟨?_,rfl⟩;(conv=>whnf))
   (repeat' first|exact rfl|exact trivial|exact wR|exact lR _|apply aI)
  have h1 : g.ins.length ≤ 40 := by simp only [List.length_map] at h1; omega
  ((try dsimp only[awp]);(conv=>whnf))
  refine .pure _ _ ?_ ⟨rfl, rfl⟩ (c_Short g.dorm) fun _ => ?_
  ·exact leL_refl _
  ((try dsimp only[awp]);(conv=>whnf))
  refine And.intro (fun h2 => ?_) (fun h2 => ?_)
  ·have h2 : shortR g.dorm = false := by simpa using h2
   obtain rfl := no (by simp [fewG, h2])
   ((try dsimp only[awp]);(conv=>whnf))
   (refine fM ?_;(conv=>whnf);refine ⟨?_,rfl⟩;(conv=>whnf))
   (repeat' first|exact rfl|exact trivial|exact wR|exact lR _|apply aI)
  have h2 : shortR g.dorm = true := by simpa using h2
  ((try dsimp only[awp]);(conv=>whnf))
  (refine ⟨inr64 (by omega) (by omega),?_⟩;(conv=>whnf))
  refine ⟨i + 1, ?_, ?_, ?_⟩
  ·exact ⟨hlt, by rw [hall, hn]; simp [fewG, h1, h2]⟩
  ·refine ⟨?_, .mk ?_ trivial⟩
   ·(repeat' first|exact rfl|exact trivial|exact wR|exact lR _|apply aI)
   ·(repeat' first|exact rfl|exact trivial|exact wR|exact lR _|apply aI)
  ·omega
 have hil : i = l.length := by have : ¬ i < l.length := by simpa using h
                               omega
 subst hil
 rw [List.take_length] at hn
 subst hR
 ((try dsimp only[awp]);(conv=>whnf))
 (refine fM ?_;(conv=>whnf);refine ⟨?_,rfl⟩;(conv=>whnf))
 show _ ↔ _
 simp [fewR, hn]
 omega

theorem c_LightM (m : Md) (R : AV) (hR : R = .bool (lightM m)) : FnH Try.prog 8 [m.av] [] R [] := by
 refine FnH.intro lay mixed Try.func8 (by kernel_rfl) rfl (by kernel_rfl) rfl fun hok => ?_
 ((try dsimp only[argC,succC]);(try dsimp only[awp]);(conv=>whnf))
 refine And.intro (fun h1 => ?_) (fun h1 => ?_)
 ·have h1 : ¬ m.evs.length ≤ 60 := by simp only [List.length_map] at h1; omega
  obtain rfl : R = .bool false := by rw [hR]; congr 1; unfold lightM; rw [decide_eq_false h1]; simp
  ((try dsimp only[awp]);(conv=>whnf))
  (refine fM ?_;(conv=>whnf);refine ⟨?_,rfl⟩;(conv=>whnf))
  (repeat' first|exact rfl|exact trivial|exact wR|exact lR _|apply aI)
 have h1 : m.evs.length ≤ 60 := by simp only [List.length_map] at h1; omega
 ((try dsimp only[awp]);(conv=>whnf))
 refine And.intro (fun h2 => ?_) (fun h2 => ?_)
 ·have h2 : ¬ m.hs.length ≤ 60 := by simp only [List.length_map] at h2; omega
  obtain rfl : R = .bool false := by rw [hR]; congr 1; unfold lightM; rw [decide_eq_false h2]; simp
  ((try dsimp only[awp]);(conv=>whnf))
  (refine fM ?_;(conv=>whnf);refine ⟨?_,rfl⟩;(conv=>whnf))
  (repeat' first|exact rfl|exact trivial|exact wR|exact lR _|apply aI)
 have h2 : m.hs.length ≤ 60 := by simp only [List.length_map] at h2; omega
 ((try dsimp only[awp]);(conv=>whnf))
 refine And.intro (fun h3 => ?_) (fun h3 => ?_)
 ·have h3 : ¬ m.pages.length ≤ 30 := by simp only [List.length_map] at h3; omega
  obtain rfl : R = .bool false := by rw [hR]; congr 1; unfold lightM; rw [decide_eq_false h3]; simp
  ((try dsimp only[awp]);(conv=>whnf))
  (refine fM ?_;(conv=>whnf);refine ⟨?_,rfl⟩;(conv=>whnf))
  (repeat' first|exact rfl|exact trivial|exact wR|exact lR _|apply aI)
 have h3 : m.pages.length ≤ 30 := by simp only [List.length_map] at h3; omega
 ((try dsimp only[awp]);(conv=>whnf))
 refine And.intro (fun h4 => ?_) (fun h4 => ?_)
 ·have h4 : ¬ m.grs.length ≤ 30 := by simp only [List.length_map] at h4; omega
  obtain rfl : R = .bool false := by rw [hR]; congr 1; unfold lightM; rw [decide_eq_false h4]; simp
  ((try dsimp only[awp]);(conv=>whnf))
  (refine fM ?_;(conv=>whnf);refine ⟨?_,rfl⟩;(conv=>whnf))
  (repeat' first|exact rfl|exact trivial|exact wR|exact lR _|apply aI)
 have h4 : m.grs.length ≤ 30 := by simp only [List.length_map] at h4; omega
 ((try dsimp only[awp]);(conv=>whnf))
 refine And.intro (fun h5 => ?_) (fun h5 => ?_)
 ·have h5 : ¬ m.phs.length ≤ 30 := by simp only [List.length_map] at h5; omega
  obtain rfl : R = .bool false := by rw [hR]; congr 1; unfold lightM; rw [decide_eq_false h5]; simp
  ((try dsimp only[awp]);(conv=>whnf))
  (refine fM ?_;(conv=>whnf);refine ⟨?_,rfl⟩;(conv=>whnf))
  (repeat' first|exact rfl|exact trivial|exact wR|exact lR _|apply aI)
 have h5 : m.phs.length ≤ 30 := by simp only [List.length_map] at h5; omega
 ((try dsimp only[awp]);(conv=>whnf))
 refine .pure _ _ ?_ ⟨rfl, rfl⟩ (c_few m.gates _ rfl) fun _ => ?_
 ·exact leL_refl _
 ((try dsimp only[awp]);(conv=>whnf))
 refine And.intro (fun h6 => ?_) (fun h6 => ?_)
 ·have h6 : fewR m.gates = false := by simpa using h6
  obtain rfl : R = .bool false := by rw [hR]; congr 1; unfold lightM; rw [h6]; simp
  ((try dsimp only[awp]);(conv=>whnf))
  (refine fM ?_;(conv=>whnf);refine ⟨?_,rfl⟩;(conv=>whnf))
  (repeat' first|exact rfl|exact trivial|exact wR|exact lR _|apply aI)
 have h6 : fewR m.gates = true := by simpa using h6
 ((try dsimp only[awp]);(conv=>whnf))
 refine LoopE.of <| LoopSpec.inv (.refl _ _) (fun (i : Nat) => i ≤ m.evs.length ∧ (m.evs.take i).all evS = true) (fun (i : Nat) => [(52, .int .i64 i)]) (fun _ => _) (fun (i : Nat) => m.evs.length - i) 0 ?_ (fun _ => rfl) ?_ ?_
 ·exact ⟨Nat.zero_le _, by simp⟩
 ·(repeat' first|exact rfl|exact trivial|exact wR|exact lR _|apply aI)
 rintro i ⟨hi, hn⟩ _
 ((try dsimp only[awp]);(conv=>whnf))
 refine And.intro (fun h => ?_) (fun h => ?_)
 ·have hlt : i < m.evs.length := by simpa using h
  have hall := all_take (p := evS) hlt
  have hmem := List.getElem_mem hlt
  ((try dsimp only[awp]);(conv=>whnf))
  refine aidx hlt ?_
  generalize m.evs[i] = g at *
  ((try dsimp only[awp]);(conv=>whnf))
  refine .pure _ _ ?_ ⟨rfl, rfl⟩ (c_Short g.p) fun _ => ?_
  ·exact leL_refl _
  ((try dsimp only[awp]);(conv=>whnf))
  refine And.intro (fun q1 => ?_) (fun q1 => ?_)
  ·have q1 : shortR g.p = false := by simpa using q1
   obtain rfl : R = .bool false := by rw [hR]; congr 1; unfold lightM; rw [all_false hmem (show evS g = false by simp [evS, q1])]; simp
   ((try dsimp only[awp]);(conv=>whnf))
   (refine fM ?_;(conv=>whnf);refine ⟨?_,rfl⟩;(conv=>whnf))
   (repeat' first|exact rfl|exact trivial|exact wR|exact lR _|apply aI)
  have q1 : shortR g.p = true := by simpa using q1
  ((try dsimp only[awp]);(conv=>whnf))
  refine .pure _ _ ?_ ⟨rfl, rfl⟩ (c_Short g.fail) fun _ => ?_
  ·exact leL_refl _
  ((try dsimp only[awp]);(conv=>whnf))
  refine And.intro (fun q2 => ?_) (fun q2 => ?_)
  ·have q2 : shortR g.fail = false := by simpa using q2
   obtain rfl : R = .bool false := by rw [hR]; congr 1; unfold lightM; rw [all_false hmem (show evS g = false by simp [evS, q2])]; simp
   ((try dsimp only[awp]);(conv=>whnf))
   (refine fM ?_;(conv=>whnf);refine ⟨?_,rfl⟩;(conv=>whnf))
   (repeat' first|exact rfl|exact trivial|exact wR|exact lR _|apply aI)
  have q2 : shortR g.fail = true := by simpa using q2
  ((try dsimp only[awp]);(conv=>whnf))
  refine .pure _ _ ?_ ⟨rfl, rfl⟩ (c_Short g.repair) fun _ => ?_
  ·exact leL_refl _
  ((try dsimp only[awp]);(conv=>whnf))
  refine And.intro (fun q3 => ?_) (fun q3 => ?_)
  ·have q3 : shortR g.repair = false := by simpa using q3
   obtain rfl : R = .bool false := by rw [hR]; congr 1; unfold lightM; rw [all_false hmem (show evS g = false by simp [evS, q3])]; simp
   ((try dsimp only[awp]);(conv=>whnf))
   (refine fM ?_;(conv=>whnf);refine ⟨?_,rfl⟩;(conv=>whnf))
   (repeat' first|exact rfl|exact trivial|exact wR|exact lR _|apply aI)
  have q3 : shortR g.repair = true := by simpa using q3
  ((try dsimp only[awp]);(conv=>whnf))
  (refine ⟨inr64 (by omega) (by omega),?_⟩;(conv=>whnf))
  refine ⟨i + 1, ?_, ?_, ?_⟩
  ·exact ⟨hlt, by rw [hall, hn]; simp [evS, q1, q2, q3]⟩
  ·refine ⟨?_, .mk ?_ ⟨by simp, trivial⟩⟩
   ·(repeat' first|exact rfl|exact trivial|exact wR|exact lR _|apply aI)
   ·(repeat' first|exact rfl|exact trivial|exact wR|exact lR _|apply aI)
  ·omega
 have hil : i = m.evs.length := by have : ¬ i < m.evs.length := by simpa using h
                                   omega
 subst hil
 rw [List.take_length] at hn
 have a1 := hn
 clear h hi hn
 ((try dsimp only[awp]);(conv=>whnf))
 refine LoopE.of <| LoopSpec.inv (.refl _ _) (fun (i : Nat) => i ≤ m.pages.length ∧ (m.pages.take i).all (fun p => fewR p.gates) = true) (fun (i : Nat) => [(76, .int .i64 i)]) (fun _ => _) (fun (i : Nat) => m.pages.length - i) 0 ?_ (fun _ => rfl) ?_ ?_
 ·exact ⟨Nat.zero_le _, by simp⟩
 ·(repeat' first|exact rfl|exact trivial|exact wR|exact lR _|apply aI)
 rintro i ⟨hi, hn⟩ _
 ((try dsimp only[awp]);(conv=>whnf))
 refine And.intro (fun h => ?_) (fun h => ?_)
 ·have hlt : i < m.pages.length := by simpa using h
  have hall := all_take (p := fun p : Pg => fewR p.gates) hlt
  have hmem := List.getElem_mem hlt
  ((try dsimp only[awp]);(conv=>whnf))
  refine aidx hlt ?_
  generalize m.pages[i] = g at *
  ((try dsimp only[awp]);(conv=>whnf))
  refine .pure _ _ ?_ ⟨rfl, rfl⟩ (c_few g.gates _ rfl) fun _ => ?_
  ·exact leL_refl _
  ((try dsimp only[awp]);(conv=>whnf))
  refine And.intro (fun q1 => ?_) (fun q1 => ?_)
  ·have q1 : fewR g.gates = false := by simpa using q1
   obtain rfl : R = .bool false := by rw [hR]; congr 1; unfold lightM; rw [all_false (p := fun p : Pg => fewR p.gates) hmem q1]; simp
   ((try dsimp only[awp]);(conv=>whnf))
   (refine fM ?_;(conv=>whnf);refine ⟨?_,rfl⟩;(conv=>whnf))
   (repeat' first|exact rfl|exact trivial|exact wR|exact lR _|apply aI)
  have q1 : fewR g.gates = true := by simpa using q1
  ((try dsimp only[awp]);(conv=>whnf))
  (refine ⟨inr64 (by omega) (by omega),?_⟩;(conv=>whnf))
  refine ⟨i + 1, ?_, ?_, ?_⟩
  ·exact ⟨hlt, by rw [hall, hn]; simp [q1]⟩
  ·refine ⟨?_, .mk ?_ ⟨by simp, trivial⟩⟩
   ·(repeat' first|exact rfl|exact trivial|exact wR|exact lR _|apply aI)
   ·(repeat' first|exact rfl|exact trivial|exact wR|exact lR _|apply aI)
  ·omega
 have hil : i = m.pages.length := by have : ¬ i < m.pages.length := by simpa using h
                                     omega
 subst hil
 rw [List.take_length] at hn
 have a2 := hn
 clear h hi hn
 ((try dsimp only[awp]);(conv=>whnf))
 refine LoopE.of <| LoopSpec.inv (.refl _ _) (fun (i : Nat) => i ≤ m.grs.length ∧ (m.grs.take i).all grS = true) (fun (i : Nat) => [(88, .int .i64 i)]) (fun _ => _) (fun (i : Nat) => m.grs.length - i) 0 ?_ (fun _ => rfl) ?_ ?_
 ·exact ⟨Nat.zero_le _, by simp⟩
 ·(repeat' first|exact rfl|exact trivial|exact wR|exact lR _|apply aI)
 rintro i ⟨hi, hn⟩ _
 ((try dsimp only[awp]);(conv=>whnf))
 refine And.intro (fun h => ?_) (fun h => ?_)
 ·have hlt : i < m.grs.length := by simpa using h
  have hall := all_take (p := grS) hlt
  have hmem := List.getElem_mem hlt
  ((try dsimp only[awp]);(conv=>whnf))
  refine aidx hlt ?_
  generalize m.grs[i] = g at *
  ((try dsimp only[awp]);(conv=>whnf))
  refine And.intro (fun q1 => ?_) (fun q1 => ?_)
  ·have q1 : ¬ g.mem.length ≤ 60 := by simp only [List.length_map] at q1; omega
   obtain rfl : R = .bool false := by rw [hR]; congr 1; unfold lightM; rw [all_false hmem (show grS g = false by simp [grS, q1])]; simp
   ((try dsimp only[awp]);(conv=>whnf))
   (refine fM ?_;(conv=>whnf);refine ⟨?_,rfl⟩;(conv=>whnf))
   (repeat' first|exact rfl|exact trivial|exact wR|exact lR _|apply aI)
  have q1 : g.mem.length ≤ 60 := by simp only [List.length_map] at q1; omega
  ((try dsimp only[awp]);(conv=>whnf))
  refine And.intro (fun q2 => ?_) (fun q2 => ?_)
  ·have q2 : ¬ g.fac.length ≤ 60 := by simp only [List.length_map] at q2; omega
   obtain rfl : R = .bool false := by rw [hR]; congr 1; unfold lightM; rw [all_false hmem (show grS g = false by simp [grS, q2])]; simp
   ((try dsimp only[awp]);(conv=>whnf))
   (refine fM ?_;(conv=>whnf);refine ⟨?_,rfl⟩;(conv=>whnf))
   (repeat' first|exact rfl|exact trivial|exact wR|exact lR _|apply aI)
  have q2 : g.fac.length ≤ 60 := by simp only [List.length_map] at q2; omega
  ((try dsimp only[awp]);(conv=>whnf))
  refine LoopE.of <| LoopSpec.inv (.refl _ _) (fun (j : Nat) => j ≤ g.fac.length ∧ (g.fac.take j).all shortR = true) (fun (j : Nat) => [(105, .int .i64 j)]) (fun _ => _) (fun (j : Nat) => g.fac.length - j) 0 ?_ (fun _ => rfl) ?_ ?_
  ·exact ⟨Nat.zero_le _, by simp⟩
  ·(repeat' first|exact rfl|exact trivial|exact wR|exact lR _|apply aI)
  rintro j ⟨hj, hnj⟩ _
  ((try dsimp only[awp]);(conv=>whnf))
  refine And.intro (fun hh => ?_) (fun hh => ?_)
  ·have hjl : j < g.fac.length := by simpa using hh
   have hallj := all_take (p := shortR) hjl
   have hmj := List.getElem_mem hjl
   ((try dsimp only[awp]);(conv=>whnf))
   refine aidx hjl ?_
   generalize g.fac[j] = r at *
   ((try dsimp only[awp]);(conv=>whnf))
   refine .pure _ _ ?_ ⟨rfl, rfl⟩ (c_Short r) fun _ => ?_
   ·exact leL_refl _
   ((try dsimp only[awp]);(conv=>whnf))
   refine And.intro (fun q3 => ?_) (fun q3 => ?_)
   ·have q3 : shortR r = false := by simpa using q3
    obtain rfl : R = .bool false := by rw [hR]; congr 1; unfold lightM; rw [all_false hmem (show grS g = false by simp [grS, all_false hmj q3])]; simp
    ((try dsimp only[awp]);(conv=>whnf))
    (refine fM ?_;(conv=>whnf);refine ⟨?_,rfl⟩;(conv=>whnf))
    (repeat' first|exact rfl|exact trivial|exact wR|exact lR _|apply aI)
   have q3 : shortR r = true := by simpa using q3
   ((try dsimp only[awp]);(conv=>whnf))
   (refine ⟨inr64 (by omega) (by omega),?_⟩;(conv=>whnf))
   refine ⟨j + 1, ?_, ?_, ?_⟩
   ·exact ⟨hjl, by rw [hallj, hnj, q3]; rfl⟩
   ·refine ⟨?_, .mk ?_ ⟨by simp, by simp, trivial⟩⟩
    ·(repeat' first|exact rfl|exact trivial|exact wR|exact lR _|apply aI)
    ·(repeat' first|exact rfl|exact trivial|exact wR|exact lR _|apply aI)
   ·omega
  have hjl : j = g.fac.length := by have : ¬ j < g.fac.length := by simpa using hh
                                    omega
  subst hjl
  rw [List.take_length] at hnj
  ((try dsimp only[awp]);(conv=>whnf))
  (refine ⟨inr64 (by omega) (by omega),?_⟩;(conv=>whnf))
  refine ⟨i + 1, ?_, ?_, ?_⟩
  ·exact ⟨hlt, by rw [hall, hn]; simp [grS, q1, q2, hnj]⟩
  ·refine ⟨?_, .mk ?_ ⟨by simp, trivial⟩⟩
   ·(repeat' first|exact rfl|exact trivial|exact wR|exact lR _|apply aI)
   ·(repeat' first|exact rfl|exact trivial|exact wR|exact lR _|apply aI)
  ·omega
 have hil : i = m.grs.length := by have : ¬ i < m.grs.length := by simpa using h
                                   omega
 subst hil
 rw [List.take_length] at hn
 have a3 := hn
 clear h hi hn
 ((try dsimp only[awp]);(conv=>whnf))
 refine LoopE.of <| LoopSpec.inv (.refl _ _) (fun (i : Nat) => i ≤ m.phs.length ∧ (m.phs.take i).all phS = true) (fun (i : Nat) => [(117, .int .i64 i)]) (fun _ => _) (fun (i : Nat) => m.phs.length - i) 0 ?_ (fun _ => rfl) ?_ ?_
 ·exact ⟨Nat.zero_le _, by simp⟩
 ·(repeat' first|exact rfl|exact trivial|exact wR|exact lR _|apply aI)
 rintro i ⟨hi, hn⟩ _
 ((try dsimp only[awp]);(conv=>whnf))
 refine And.intro (fun h => ?_) (fun h => ?_)
 ·have hlt : i < m.phs.length := by simpa using h
  have hall := all_take (p := phS) hlt
  have hmem := List.getElem_mem hlt
  ((try dsimp only[awp]);(conv=>whnf))
  refine aidx hlt ?_
  generalize m.phs[i] = g at *
  ((try dsimp only[awp]);(conv=>whnf))
  refine And.intro (fun q1 => ?_) (fun q1 => ?_)
  ·have q1 : ¬ g.vals.length ≤ 60 := by simp only [List.length_map] at q1; omega
   obtain rfl : R = .bool false := by rw [hR]; congr 1; unfold lightM; rw [all_false hmem (show phS g = false by simp [phS, q1])]; simp
   ((try dsimp only[awp]);(conv=>whnf))
   (refine fM ?_;(conv=>whnf);refine ⟨?_,rfl⟩;(conv=>whnf))
   (repeat' first|exact rfl|exact trivial|exact wR|exact lR _|apply aI)
  have q1 : g.vals.length ≤ 60 := by simp only [List.length_map] at q1; omega
  ((try dsimp only[awp]);(conv=>whnf))
  refine LoopE.of <| LoopSpec.inv (.refl _ _) (fun (j : Nat) => j ≤ g.vals.length ∧ (g.vals.take j).all (fun v => shortR v.p) = true) (fun (j : Nat) => [(128, .int .i64 j)]) (fun _ => _) (fun (j : Nat) => g.vals.length - j) 0 ?_ (fun _ => rfl) ?_ ?_
  ·exact ⟨Nat.zero_le _, by simp⟩
  ·(repeat' first|exact rfl|exact trivial|exact wR|exact lR _|apply aI)
  rintro j ⟨hj, hnj⟩ _
  ((try dsimp only[awp]);(conv=>whnf))
  refine And.intro (fun hh => ?_) (fun hh => ?_)
  ·have hjl : j < g.vals.length := by simpa using hh
   have hallj := all_take (p := fun v : Pv => shortR v.p) hjl
   have hmj := List.getElem_mem hjl
   ((try dsimp only[awp]);(conv=>whnf))
   refine aidx hjl ?_
   generalize g.vals[j] = r at *
   ((try dsimp only[awp]);(conv=>whnf))
   refine .pure _ _ ?_ ⟨rfl, rfl⟩ (c_Short r.p) fun _ => ?_
   ·exact leL_refl _
   ((try dsimp only[awp]);(conv=>whnf))
   refine And.intro (fun q3 => ?_) (fun q3 => ?_)
   ·have q3 : shortR r.p = false := by simpa using q3
    have q4 := all_false (p := fun v : Pv => shortR v.p) hmj q3
    obtain rfl : R = .bool false := by rw [hR]; congr 1; unfold lightM; rw [all_false hmem (show phS g = false by unfold phS; rw [q4]; simp)]; simp
    ((try dsimp only[awp]);(conv=>whnf))
    (refine fM ?_;(conv=>whnf);refine ⟨?_,rfl⟩;(conv=>whnf))
    (repeat' first|exact rfl|exact trivial|exact wR|exact lR _|apply aI)
   have q3 : shortR r.p = true := by simpa using q3
   ((try dsimp only[awp]);(conv=>whnf))
   (refine ⟨inr64 (by omega) (by omega),?_⟩;(conv=>whnf))
   refine ⟨j + 1, ?_, ?_, ?_⟩
   ·exact ⟨hjl, by rw [hallj, hnj, q3]; rfl⟩
   ·refine ⟨?_, .mk ?_ ⟨by simp, by simp, trivial⟩⟩
    ·(repeat' first|exact rfl|exact trivial|exact wR|exact lR _|apply aI)
    ·(repeat' first|exact rfl|exact trivial|exact wR|exact lR _|apply aI)
   ·omega
  have hjl : j = g.vals.length := by have : ¬ j < g.vals.length := by simpa using hh
                                     omega
  subst hjl
  rw [List.take_length] at hnj
  ((try dsimp only[awp]);(conv=>whnf))
  (refine ⟨inr64 (by omega) (by omega),?_⟩;(conv=>whnf))
  refine ⟨i + 1, ?_, ?_, ?_⟩
  ·exact ⟨hlt, by rw [hall, hn]; unfold phS; rw [hnj]; simp [q1]⟩
  ·refine ⟨?_, .mk ?_ ⟨by simp, trivial⟩⟩
   ·(repeat' first|exact rfl|exact trivial|exact wR|exact lR _|apply aI)
   ·(repeat' first|exact rfl|exact trivial|exact wR|exact lR _|apply aI)
  ·omega
 have hil : i = m.phs.length := by have : ¬ i < m.phs.length := by simpa using h
                                   omega
 subst hil
 rw [List.take_length] at hn
 obtain rfl : R = .bool true := by rw [hR]; congr 1; unfold lightM; rw [a1, a2, a3, hn, h6]; simp [h1, h2, h3, h4, h5]
 ((try dsimp only[awp]);(conv=>whnf))
 (refine fM ?_;(conv=>whnf);refine ⟨?_,rfl⟩;(conv=>whnf))
 (repeat' first|exact rfl|exact trivial|exact wR|exact lR _|apply aI)

theorem few_B {l : List Mg} (h : fewR l = true) : l.length ≤ 100 ∧ (∀ x ∈ l, x.ins.length ≤ 40) ∧ mgC l := by
 unfold fewR at h
 simp only [Bool.and_eq_true, decide_eq_true_eq] at h
 refine ⟨h.2, fun x hx => ?_, fun x hx => ?_⟩
 ·have := List.all_eq_true.1 h.1 x hx
  simp only [fewG, Bool.and_eq_true, decide_eq_true_eq] at this
  exact this.1
 ·have := List.all_eq_true.1 h.1 x hx
  simp only [fewG, Bool.and_eq_true, decide_eq_true_eq] at this
  exact shortR_C this.2

theorem lightM_B {m : Md} (h : lightM m = true) : MdB m ∧ MdC m := by
 unfold lightM at h
 simp only [Bool.and_eq_true, decide_eq_true_eq] at h
 obtain ⟨⟨⟨⟨⟨⟨⟨⟨⟨h1, h2⟩, h3⟩, h4⟩, h5⟩, h6⟩, h7⟩, h8⟩, h9⟩, h10⟩ := h
 have f6 := few_B h6
 refine ⟨⟨h1, h2, ⟨f6.1, f6.2.1⟩, h3, fun p hp => ?_, h4, fun g hg => ?_, h5, fun p hp => ?_⟩, ⟨fun x hx => ?_, f6.2.2, fun p hp => ?_, fun g hg f hf => ?_, fun p hp v hv => ?_⟩⟩
 ·have := few_B (List.all_eq_true.1 h8 p hp)
  exact ⟨this.1, this.2.1⟩
 ·have := List.all_eq_true.1 h9 g hg
  simp only [grS, Bool.and_eq_true, decide_eq_true_eq] at this
  exact this.1
 ·have := List.all_eq_true.1 h10 p hp
  simp only [phS, Bool.and_eq_true, decide_eq_true_eq] at this
  exact this.1
 ·have := List.all_eq_true.1 h7 x hx
  simp only [evS, Bool.and_eq_true] at this
  exact ⟨shortR_C this.1.1, shortR_C this.1.2, shortR_C this.2⟩
 ·exact (few_B (List.all_eq_true.1 h8 p hp)).2.2
 ·have := List.all_eq_true.1 h9 g hg
  simp only [grS, Bool.and_eq_true, decide_eq_true_eq] at this
  exact shortR_C (List.all_eq_true.1 this.2 f hf)
 ·have := List.all_eq_true.1 h10 p hp
  simp only [phS, Bool.and_eq_true, decide_eq_true_eq] at this
  exact shortR_C (List.all_eq_true.1 this.2 v hv)
end S

open Go Go.AL Go.Proofs
namespace Go.AL
section
variable {P : Program} {ops : Array Oper} {Q : Exit → Act → World → Prop} {a : Act} {w : World} {o : Oper} {l : List Oper}

structure Ext (w w' : World) : Prop where
 size : w.heap.size ≤ w'.heap.size
 old : ∀ b, b < w.heap.size → w'.heap[b]? = w.heap[b]?
 os : w'.os = w.os
 tape : w'.tape = w.tape
 output : w'.output = w.output

end
end Go.AL

namespace S
set_option maxRecDepth 100000

def exEv : Array Value := #[.string ⟨#[97]⟩, .bool false, .slice none 0 0, .slice none 0 0, .bool false, .slice none 0 0, .slice none 0 0, .bool false, .slice none 0 0, .slice none 0 0, .int .i64 0, .string ⟨#[98]⟩, .bool false, .slice none 0 0, .slice none 0 0, .bool false, .slice none 0 0, .slice none 0 0, .bool false, .slice none 0 0, .slice none 0 0, .int .i64 0, .string ⟨#[99]⟩, .bool false, .slice none 0 0, .slice none 0 0, .bool false, .slice none 0 0, .slice none 0 0, .bool false, .slice none 0 0, .slice none 0 0, .int .i64 0]
def exI0 : Array Value := #[.string ⟨#[97]⟩, .string ⟨#[64, 112]⟩]
def exG0 (n : Nat) : Array Value := #[.string ⟨#[103]⟩, .int .i64 0, .int .i64 0, .slice (some ⟨n, 0, none⟩) 2 2, .bool false, .slice none 0 0, .slice none 0 0]
def exI1 : Array Value := #[.string ⟨#[98]⟩, .string ⟨#[99]⟩]
def exG1 (n : Nat) : Array Value := #[.string ⟨#[104]⟩, .int .i64 1, .int .i64 0, .slice (some ⟨n, 0, none⟩) 2 2, .bool false, .slice none 0 0, .slice none 0 0]
def exP (n : Nat) : Array Value := #[.string ⟨#[112]⟩, .string ⟨#[104]⟩, .slice (some ⟨n, 0, none⟩) 1 1]
structure ExW (w w' : World) : Prop where
 ext : Ext w w'
 size : w'.heap.size = w.heap.size + 7
 ev : w'.heap[w.heap.size + 1]? = some (.cells exEv 78)
 i0 : w'.heap[w.heap.size + 2]? = some (.cells exI0 9)
 g0 : w'.heap[w.heap.size + 3]? = some (.cells (exG0 (w.heap.size + 2)) 55)
 i1 : w'.heap[w.heap.size + 4]? = some (.cells exI1 9)
 g1 : w'.heap[w.heap.size + 5]? = some (.cells (exG1 (w.heap.size + 4)) 55)
 pg : w'.heap[w.heap.size + 6]? = some (.cells (exP (w.heap.size + 5)) 81)

end S

open Go Go.AL Go.Proofs
namespace Go.AL
section
variable {P : Program} {L : Lay} {ops : Array Oper} {Q : Exit → Act → World → Prop} {a : Act} {w : World} {o : Oper} {l : List Oper}

structure PutA (a a' : Act) (d : Nat) (v : Value) : Prop where
 size : a'.tmps.size = a.tmps.size
 defers : a'.defers = a.defers
 new : a'.eval (.tmp d) = v
 old : ∀ t : Nat, t ≠ d → a'.eval (.tmp t) = a.eval (.tmp t)

end
end Go.AL

namespace S
set_option maxRecDepth 100000

end S

open Go Go.AL Go.Proofs
namespace S
set_option maxRecDepth 100000
section
variable {w : World} {Im : Nat → Nat → Prop}

end
end S

open Go Go.AL Go.Proofs
namespace S
set_option maxRecDepth 100000

end S

open Go Go.AL Go.Proofs
namespace S
set_option maxRecDepth 100000

structure CInv (m : Md) (st : CS) : Prop where
 len : st.nodes.length = st.es.length
 nd : (st.es.map (·.1)).Nodup
 ok : ∀ e ∈ st.es, okN m e.1 ∧ e.1.1 ≠ 0

def univ (m : Md) : List Node := (List.range m.hs.length).map (fun (i : Nat) => ((1, 0, (i : Int)) : Node)) ++ allNodes m

theorem univ_mem {m : Md} {x : Node} (h : okN m x) (h0 : x.1 ≠ 0) : x ∈ univ m := by
 unfold univ
 rw [List.mem_append]
 rcases h with h | h | h
 ·omega
 ·left
  obtain ⟨x1, x2, x3⟩ := x
  obtain ⟨rfl, rfl, h3, h4⟩ := h
  rw [List.mem_map]
  dsimp only at h3 h4
  exact ⟨x3.toNat, by rw [List.mem_range]; omega, by rw [Int.toNat_of_nonneg h3]⟩
 ·exact .inr h

theorem nodup_sub {α : Type} [DecidableEq α] : ∀ {l u : List α}, l.Nodup → (∀ x ∈ l, x ∈ u) → l.length ≤ u.length
 | [], _, _, _ => Nat.zero_le _
 | x :: l, u, hn, hs => by
   rw [List.nodup_cons] at hn
   have hx := hs x (by simp)
   have := nodup_sub (u := u.erase x) hn.2 fun y hy => (List.mem_erase_of_ne (fun e => hn.1 (by rw [← e]; exact hy))).2 (hs y (by simp [hy]))
   rw [List.length_erase_of_mem hx] at this
   have := List.length_pos_of_mem hx
   simp only [List.length_cons]; omega

theorem all_len {m : Md} (hB : MdB m) : (allNodes m).length ≤ 10000 := by
 have key : ∀ (l : List Int), (∀ a ∈ l, (gatesM m a).length ≤ 100) → (l.flatMap (nodesAt m)).length ≤ 100 * l.length := by
  intro l
  induction l with
  | nil => intro _; simp
  | cons a l ih =>
    intro h
    simp only [List.flatMap_cons, List.length_append, List.length_cons]
    have h1 := ih fun b hb => h b (by simp [hb])
    have h2 := h a (by simp)
    have h3 : (nodesAt m a).length = (gatesM m a).length := by simp [nodesAt]
    omega
 have h1 := key (atsM m) fun a _ => by
  unfold gatesM
  split
  ·exact hB.gates.1
  ·rw [List.getD_eq_getElem?_getD]
   cases hp : m.pages[a.toNat]? with
   | none => exact Nat.zero_le _
   | some p => exact (hB.pgates p (List.mem_of_getElem? hp)).1
 rw [ats_len] at h1
 have := hB.pages
 unfold allNodes
 omega

theorem CInv.short {m : Md} (hB : MdB m) {st : CS} (h : CInv m st) : st.nodes.length ≤ 20000 := by
 have := nodup_sub h.nd (u := univ m) fun x hx => by
  obtain ⟨e, he, rfl⟩ := List.mem_map.1 hx
  exact univ_mem (h.ok e he).1 (h.ok e he).2
 rw [List.length_map] at this
 have h1 := all_len hB
 have h2 := hB.hs
 have : (univ m).length = m.hs.length + (allNodes m).length := by simp [univ]
 rw [h.len]
 omega

theorem mark_new {x : Node} {v : Int} : ∀ {es : Marks}, lookO es x = none → mark es x v = es ++ [(x, v)] ∧ x ∉ es.map (·.1)
 | [], _ => ⟨rfl, by simp⟩
 | (y, u) :: es, h => by
   simp only [lookO] at h
   split at h
   ·cases h
   rename_i hy
   obtain ⟨h1, h2⟩ := mark_new h
   refine ⟨?_, ?_⟩
   ·simp only [mark, if_neg hy]; rw [h1]; rfl
   ·simp only [List.map_cons, List.mem_cons, not_or]
    exact ⟨fun e => hy e.symm, h2⟩

theorem CInv.push {m : Md} {st : CS} (h : CInv m st) {x : Node} (hx : okN m x) (h0 : x.1 ≠ 0) (hn : lookO st.es x = none) (vars : Int) (nd : Nd) : CInv m (pushN vars st x nd).2 := by
 obtain ⟨h1, h2⟩ := mark_new (v := vars + st.nodes.length) hn
 refine ⟨?_, ?_, ?_⟩
 ·show (st.nodes ++ [nd]).length = (mark _ _ _).length
  rw [h1, List.length_append, List.length_append, h.len]; rfl
 ·show ((mark _ _ _).map (·.1)).Nodup
  rw [h1, List.map_append, List.nodup_append]
  refine ⟨h.nd, by simp, ?_⟩
  intro a ha b hb
  simp at hb
  subst hb
  exact fun e => h2 (e ▸ ha)
 ·show ∀ e ∈ mark _ _ _, _
  rw [h1]
  intro e he
  rcases List.mem_append.1 he with he | he
  ·exact h.ok e he
  ·simp at he; subst he; exact ⟨hx, h0⟩

theorem comp_inv {m : Md} (hc : ClosedM m) {rank : Node → Nat} (hr : RankM m rank) (vars : Int) : ∀ (n : Nat) (x : Node) (st : CS), okN m x → CInv m st →
  CInv m (compN m vars n x st).2 ∧ ∀ z : Node, z.1 = 2 → (x.1 = 2 → rank x < rank z) → lookO st.es z = none → lookO (compN m vars n x st).2.es z = none
 | 0, _, _, _, h => ⟨h, fun _ _ _ h => h⟩
 | n + 1, x, st, hx, h => by
   have push : ∀ {s : CS} (nd : Nd), CInv m s → x.1 ≠ 0 → lookO s.es x = none → (∀ z : Node, z.1 = 2 → (x.1 = 2 → rank x < rank z) → lookO st.es z = none → lookO s.es z = none) →
     CInv m (pushN vars s x nd).2 ∧ ∀ z : Node, z.1 = 2 → (x.1 = 2 → rank x < rank z) → lookO st.es z = none → lookO (pushN vars s x nd).2.es z = none := by
    intro s nd h1 h2 h3 h4
    refine ⟨h1.push hx h2 h3 vars nd, fun z hz hxz hs => ?_⟩
    show lookO (mark s.es x _) z = none
    rw [lookO_mark, if_neg]
    ·exact h4 z hz hxz hs
    ·rintro rfl; have := hxz hz; omega
   unfold compN
   split
   ·exact ⟨h, fun _ _ _ h => h⟩
   rename_i h0
   split
   ·exact ⟨h, fun _ _ _ h => h⟩
   rename_i hn
   split
   ·exact push _ h h0 hn fun _ _ _ h => h
   rename_i h1
   split
   ·exact ⟨h, fun _ _ _ h => h⟩
   have h2 : x.1 = 2 := by
    rcases hx with h | h | h
    ·omega
    ·omega
    ·exact (mem_all.1 h).1
   have hk := (okN_kids hc hx h2).2
   have key : ∀ (l : List Node) (s : CS) (acc : List Int), (∀ y ∈ l, okN m y ∧ (y.1 = 2 → rank y < rank x)) → CInv m s → CInv m (compL (compN m vars n) l s acc).2 ∧
     ∀ z : Node, z.1 = 2 → rank x ≤ rank z → lookO s.es z = none → lookO (compL (compN m vars n) l s acc).2.es z = none := by
    intro l
    induction l with
    | nil => intro s acc _ h; exact ⟨h, fun _ _ _ h => h⟩
    | cons y l ih =>
      intro s acc hl h
      unfold compL
      obtain ⟨hy, hyr⟩ := hl y (by simp)
      obtain ⟨h', g'⟩ := comp_inv hc hr vars n y s hy h
      have g2 : ∀ z : Node, z.1 = 2 → rank x ≤ rank z → lookO s.es z = none → lookO (compN m vars n y s).2.es z = none := fun z hz hxz hs => g' z hz (fun e => by have := hyr e; omega) hs
      split
      ·exact ⟨h', g2⟩
      ·obtain ⟨i1, i2⟩ := ih (compN m vars n y s).2 (acc ++ [(compN m vars n y s).1.2]) (fun z hz => hl z (by simp [hz])) h'
       exact ⟨i1, fun z hz hxz hs => i2 z hz hxz (g2 z hz hxz hs)⟩
   obtain ⟨k1, k2⟩ := key (kidsM m x) st [] (fun y hy => ⟨hk y hy, hr x hx h2 y hy⟩) h
   split
   ·exact ⟨k1, fun z hz hxz hs => k2 z hz (by have := hxz h2; omega) hs⟩
   ·exact push _ k1 h0 (k2 x h2 (Nat.le_refl _) hn) fun z hz hxz hs => k2 z hz (by have := hxz h2; omega) hs
end S

open Go Go.AL Go.Proofs
namespace S
set_option maxRecDepth 100000

theorem c_nodeKind (k : Int) : FnH Try.prog 111 [.int .i64 k] [] (.tup [.int .i64 (kindN k), .bool (statK k)]) [] := by
 obtain ⟨a, ha⟩ : ∃ a, kindN k = a := ⟨_, rfl⟩
 obtain ⟨b, hb⟩ : ∃ b, statK k = b := ⟨_, rfl⟩
 rw [ha, hb]
 refine FnH.intro lay mixed Try.func111 (by kernel_rfl) rfl (by kernel_rfl) rfl fun hok => ?_
 ((try dsimp only[argC,succC]);(try dsimp only[awp]);(conv=>whnf))
 repeat' (first | (refine And.intro (fun _ => ?_) (fun _ => ?_) <;> ((try dsimp only[awp]);(conv=>whnf))))
 all_goals
  (refine fM ?_;(conv=>whnf);refine ⟨?_,rfl⟩;(conv=>whnf))
 all_goals
  rw [← ha, ← hb]
  (repeat' first|exact rfl|exact trivial|exact wR|exact lR _|apply aI)
 all_goals
  unfold kindN statK at *
  first | (simp_all [le0]; done) | (show le0 _ _; simp_all [le0]; done) | skip

abbrev xC (vars : Int) (st : CS) : AV := .ag [.int .i64 vars, .sl 3 (st.nodes.map Nd.av) (.own 2), .int .i64 0]
abbrev hpC (m : Md) (vars : Int) (st : CS) : Heap := hpF m (xC vars st) (.tok 3 st.nodes.length) (.amap shN (encM st.es))
abbrev compAV (r : (Bool × Int) × CS) : AV := .tup [.int .i64 r.1.2, errAV (if r.1.1 = true then 7 else 0)]

theorem xC_wk (vars : Int) (st : CS) : WkA (xC vars st) := ⟨le0_refl _, rfl⟩
theorem tC_wk (n : Nat) : WkO (.tok 3 n) := ⟨⟨rfl, rfl⟩, rfl⟩
theorem mC_wk (es : Marks) : WkO (.amap shN (encM es)) := ⟨⟨rfl, leM_refl _⟩, encM_bnd _ _⟩

theorem aupd_eq {es : Marks} {x : Node} {v w : Int} {k : List (AV × AV) → Prop} (e : w = v) (h : k (encM (mark es x v))) : AUpd (encM es) (nAV x) (.int .i64 w) k := by subst e; exact aupd_es h

def lvl (rank : Node → Nat) (x : Node) : Nat := if x.1 = 2 then rank x + 1 else 0

theorem c_cinput (m : Md) (hM : MOk m) (hB : MdB m) (rank : Node → Nat) (hr : RankM m rank) : ∀ (n : Nat) (a : Int) (s : Str) (st : CS), (a = -1 ∨ (0 ≤ a ∧ a < (m.pages.length : Int))) → InOk m a s → lvl rank (resR m a s) < n → CInv m st →
  FnH Try.prog 79 [.ptr 1 [] 0, .int .i64 a, .str s] (hpC m m.evs.length st) (compAV (compN m m.evs.length n (resR m a s) st)) (hpC m m.evs.length (compN m m.evs.length n (resR m a s) st).2) := by
 intro n
 induction n with
 | zero => intro a s st _ _ h; omega
 | succ n ih =>
   intro a s st ha hin hn hI
   have hev := hM.lens.1
   have cf := c_cfind m (xC m.evs.length st) (.tok 3 st.nodes.length) (.amap shN (encM st.es)) (xC_wk _ _) (tC_wk _) (mC_wk _) a s hin.pos ha hin.pg
   have hxo := hin.ok
   have hshort := hI.short hB
   have hcl := hM.closed
   have hkk := fun h2 => okN_kids hcl hxo h2
   have hrk := hr _ hxo
   have hInv := comp_inv hcl hr m.evs.length n
   generalize hx : resR m a s = x at *
   generalize hve : (m.evs.length : Int) = ve at *
   refine FnH.intro lay mixed Try.func79 (by kernel_rfl) rfl (by kernel_rfl) rfl fun hok => ?_
   ((try dsimp only[argC,succC]);(try dsimp only[awp]);(conv=>whnf))
   refine .gen _ _ cf fun _ => ?_
   ((try dsimp only[awp]);(conv=>whnf))
   refine And.intro (fun h0 => ?_) (fun h0 => ?_)
   ·rw [show compN m ve (n + 1) x st = ((false, x.2.2), st) from if_pos h0]
    ((try dsimp only[awp]);(conv=>whnf))
    refine ⟨⟨_, _, .refl _ _, ?_⟩⟩
    (conv=>whnf)
    refine ⟨?_, rfl, by simp [nextId], .mk ?_ (by simp [idsOk])⟩
    ·(repeat' first|exact rfl|exact trivial|exact wR|exact lR _|apply aI)
    ·(repeat' first|exact rfl|exact trivial|exact wR|exact lR _|apply aI)
     all_goals first | exact leM_refl _ | exact leM_nr _ _ | exact encM_bnd _ _ | (show leRL _ (List.map _ (_ ++ [_])); rw [List.map_append]; refine leRL_snoc ?_ (lR _); (repeat' first|exact rfl|exact trivial|exact wR|exact lR _|apply aI); done) | (simp [pushN]; done) | (simp [pushN]; omega)
   ((try dsimp only[awp]);(conv=>whnf))
   (refine ADraw.auto (by kernel_rfl) ?_;(conv=>whnf))
   refine alook_opt (fun v hv => ?_) (fun hv => ?_)
   ·rw [show compN m ve (n + 1) x st = ((false, v), st) from by unfold compN; rw [if_neg h0, hv]]
    ((try dsimp only[awp]);(conv=>whnf))
    refine ⟨⟨_, _, .refl _ _, ?_⟩⟩
    (conv=>whnf)
    refine ⟨?_, rfl, by simp [nextId], .mk ?_ (by simp [idsOk])⟩
    ·(repeat' first|exact rfl|exact trivial|exact wR|exact lR _|apply aI)
    ·(repeat' first|exact rfl|exact trivial|exact wR|exact lR _|apply aI)
     all_goals first | exact leM_refl _ | exact leM_nr _ _ | exact encM_bnd _ _ | (show leRL _ (List.map _ (_ ++ [_])); rw [List.map_append]; refine leRL_snoc ?_ (lR _); (repeat' first|exact rfl|exact trivial|exact wR|exact lR _|apply aI); done) | (simp [pushN]; done) | (simp [pushN]; omega)
   ((try dsimp only[awp]);(conv=>whnf))
   refine And.intro (fun h1 => ?_) (fun h1 => ?_)
   ·have hh : 0 ≤ x.2.2 ∧ x.2.2 < (m.hs.length : Int) := by
     rcases hxo with h | h | h
     ·omega
     ·exact ⟨h.2.2.1, h.2.2.2⟩
     ·have := (mem_all.1 h).1; omega
    have hR : compN m ve (n + 1) x st = pushN ve st x ⟨0, if (houseAt m x).on = true then 1 else 0, []⟩ := by unfold compN; rw [if_neg h0, hv]; exact if_pos h1
    rw [hR]
    ((try dsimp only[awp]);(conv=>whnf))
    (refine ADraw.auto (by kernel_rfl) ?_;(conv=>whnf))
    refine aidxD default hh ?_
    rw [show m.hs.getD x.2.2.toNat default = houseAt m x from rfl]
    generalize houseAt m x = hs at *
    ((try dsimp only[awp]);(conv=>whnf))
    refine And.intro (fun g => ?_) (fun g => ?_)
    ·rw [if_pos g]
     ((try dsimp only[awp]);(conv=>whnf))
     ((try dsimp only[awp]);(conv=>whnf))
     (refine ADraw.auto (by kernel_rfl) ?_;(conv=>whnf))
     refine ⟨by rw [List.length_map], .mk (by simp [maxL]; omega) (by simp; omega) ?_⟩
     ((try dsimp only[awp]);(conv=>whnf))
     (refine ADraw.auto (by kernel_rfl) ?_;(conv=>whnf))
     refine ⟨inr64 (by simp; omega) (by simp; omega), ?_⟩
     ((try dsimp only[awp]);(conv=>whnf))
     refine ⟨inr64 (by simp; omega) (by simp; omega), ?_⟩
     ((try dsimp only[awp]);(conv=>whnf))
     refine aupd_eq (v := ve + st.nodes.length) (by simp; omega) ?_
     ((try dsimp only[awp]);(conv=>whnf))
     (refine ADraw.auto (by kernel_rfl) ?_;(conv=>whnf))
     refine alook_put ?_
     ((try dsimp only[awp]);(conv=>whnf))
     refine ⟨⟨_, _, .refl _ _, ?_⟩⟩
     (conv=>whnf)
     refine ⟨?_, rfl, by simp [nextId], .mk ?_ (by simp [idsOk])⟩
     ·(repeat' first|exact rfl|exact trivial|exact wR|exact lR _|apply aI)
     ·(repeat' first|exact rfl|exact trivial|exact wR|exact lR _|apply aI)
      all_goals first | exact leM_refl _ | exact leM_nr _ _ | exact encM_bnd _ _ | (show leRL _ (List.map _ (_ ++ [_])); rw [List.map_append]; refine leRL_snoc ?_ (lR _); (repeat' first|exact rfl|exact trivial|exact wR|exact lR _|apply aI); done) | (simp [pushN]; done) | (simp [pushN]; omega)
    ·rw [if_neg (by rw [g]; simp)]
     ((try dsimp only[awp]);(conv=>whnf))
     (refine ADraw.auto (by kernel_rfl) ?_;(conv=>whnf))
     refine ⟨by rw [List.length_map], .mk (by simp [maxL]; omega) (by simp; omega) ?_⟩
     ((try dsimp only[awp]);(conv=>whnf))
     (refine ADraw.auto (by kernel_rfl) ?_;(conv=>whnf))
     refine ⟨inr64 (by simp; omega) (by simp; omega), ?_⟩
     ((try dsimp only[awp]);(conv=>whnf))
     refine ⟨inr64 (by simp; omega) (by simp; omega), ?_⟩
     ((try dsimp only[awp]);(conv=>whnf))
     refine aupd_eq (v := ve + st.nodes.length) (by simp; omega) ?_
     ((try dsimp only[awp]);(conv=>whnf))
     (refine ADraw.auto (by kernel_rfl) ?_;(conv=>whnf))
     refine alook_put ?_
     ((try dsimp only[awp]);(conv=>whnf))
     refine ⟨⟨_, _, .refl _ _, ?_⟩⟩
     (conv=>whnf)
     refine ⟨?_, rfl, by simp [nextId], .mk ?_ (by simp [idsOk])⟩
     ·(repeat' first|exact rfl|exact trivial|exact wR|exact lR _|apply aI)
     ·(repeat' first|exact rfl|exact trivial|exact wR|exact lR _|apply aI)
      all_goals first | exact leM_refl _ | exact leM_nr _ _ | exact encM_bnd _ _ | (show leRL _ (List.map _ (_ ++ [_])); rw [List.map_append]; refine leRL_snoc ?_ (lR _); (repeat' first|exact rfl|exact trivial|exact wR|exact lR _|apply aI); done) | (simp [pushN]; done) | (simp [pushN]; omega)
   have h2 : x.1 = 2 := by
    rcases hxo with h | h | h
    ·omega
    ·omega
    ·exact (mem_all.1 h).1
   obtain ⟨hxa, hkk⟩ := hkk h2
   obtain ⟨_, hpg, hix⟩ := mem_all.1 hxa
   have hrk := hrk h2
   have hlv : rank x < n := by unfold lvl at hn; rw [if_pos h2] at hn; omega
   have hil : (gateAt m x).ins.length ≤ 40 := by
    have : gateAt m x ∈ gatesM m x.2.1 := by
     unfold gateAt
     rw [List.getD_eq_getElem?_getD, List.getElem?_eq_getElem (by omega)]
     exact List.getElem_mem _
    unfold gatesM at this
    split at this
    ·exact hB.gates.2 _ this
    ·rw [List.getD_eq_getElem?_getD] at this
     cases hp : m.pages[x.2.1.toNat]? with
     | none => rw [hp] at this; exact absurd this (by show ¬ gateAt m x ∈ ([] : List Mg); simp)
     | some p => rw [hp] at this; exact (hB.pgates p (List.mem_of_getElem? hp)).2 _ this
   have hins : ∀ (j : Nat) (h : j < (gateAt m x).ins.length), InOk m x.2.1 (gateAt m x).ins[j] ∧ (kidsM m x)[j]? = some (resR m x.2.1 (gateAt m x).ins[j]) := fun j h => by
    have hg : gateAt m x ∈ gatesM m x.2.1 := by
     unfold gateAt
     rw [List.getD_eq_getElem?_getD, List.getElem?_eq_getElem (by omega)]
     exact List.getElem_mem _
    exact ⟨hM.inOk hpg (hM.ins_in hpg hg (List.getElem_mem h)), by simp [kidsM, h]⟩
   have hlen : (kidsM m x).length = (gateAt m x).ins.length := by simp [kidsM]
   have hmem : ∀ y ∈ kidsM m x, lvl rank y < n := fun y hy => by
    unfold lvl
    split
    ·rename_i e; have := hrk y hy e; omega
    ·omega
   have hR : compN m ve (n + 1) x st = if statK (gateAt m x).kind = false then ((true, 0), st)
    else if (compL (compN m ve n) (kidsM m x) st []).1.1 = true then ((true, 0), (compL (compN m ve n) (kidsM m x) st []).2)
    else pushN ve (compL (compN m ve n) (kidsM m x) st []).2 x ⟨kindN (gateAt m x).kind, (gateAt m x).k, (compL (compN m ve n) (kidsM m x) st []).1.2⟩ := by
    conv => lhs; unfold compN
    rw [if_neg h0, hv]
    exact if_neg h1
   have cK := c_nodeKind (gateAt m x).kind
   ((try dsimp only[awp]);(conv=>whnf))
   refine ADraw.frz [3] ?_
   (conv=>whnf)
   refine And.intro ⟨rfl, rfl⟩ ?_
   (conv=>whnf)
   refine ⟨[true, true, true, false, true, true, true, true, false, false], by kernel_rfl, ?_⟩
   (conv=>whnf)
   refine .gen _ _ (c_cgates m _ _ _ _ _ x.2.1 hpg) fun _ => ?_
   ((try dsimp only[awp]);(conv=>whnf))
   refine aidxD default hix ?_
   have hga : (gatesM m x.2.1).getD x.2.2.toNat default = gateAt m x := rfl
   rw [hga]
   generalize gateAt m x = g at *
   generalize kidsM m x = K at *
   ((try dsimp only[awp]);(conv=>whnf))
   refine .pure _ _ ?_ ⟨rfl, rfl⟩ cK fun _ => ?_
   ·exact leL_refl _
   ((try dsimp only[awp]);(conv=>whnf))
   refine And.intro (fun g1 => ?_) (fun g1 => ?_)
   ·rw [hR, if_pos (by simpa using g1)]
    ((try dsimp only[awp]);(conv=>whnf))
    refine ⟨⟨_, _, .refl _ _, ?_⟩⟩
    (conv=>whnf)
    refine ⟨?_, rfl, by simp [nextId], .mk ?_ (by simp [idsOk])⟩
    ·(repeat' first|exact rfl|exact trivial|exact wR|exact lR _|apply aI)
    ·(repeat' first|exact rfl|exact trivial|exact wR|exact lR _|apply aI)
     all_goals first | exact leM_refl _ | exact leM_nr _ _ | exact encM_bnd _ _ | (show leRL _ (List.map _ (_ ++ [_])); rw [List.map_append]; refine leRL_snoc ?_ (lR _); (repeat' first|exact rfl|exact trivial|exact wR|exact lR _|apply aI); done) | (simp [pushN]; done) | (simp [pushN]; omega)
   have g1 : statK g.kind = true := by simpa using g1
   rw [if_neg (by rw [g1]; simp)] at hR
   generalize hW : compN m ve n = W at *
   generalize hS : compL W K st [] = Rz at *
   ((try dsimp only[awp]);(conv=>whnf))
   refine LoopE.of <| LoopSpec.inv (.growF 4 [2] 1 [] (.ag [.int .i64 (kindN g.kind), .int .i64 g.k, .nils]) .nils _ rfl rfl (.inl ⟨rfl, rfl⟩) rfl (.refl _ _))
    (fun (q : Nat × CS × List Int) => q.1 ≤ g.ins.length ∧ compL W (K.drop q.1) q.2.1 q.2.2 = Rz ∧ q.2.2.length = q.1 ∧ CInv m q.2.1 ∧ (∀ z : Node, z.1 = 2 → rank x ≤ rank z → lookO st.es z = none → lookO q.2.1.es z = none))
    (fun q => [(78, .int .i64 q.1)]) (fun q => (6, .tok 1 q.1) :: (5, .gone) :: (4, .box (.ag [.int .i64 (kindN g.kind), .int .i64 g.k, .sl 1 (q.2.2.map (.int .i64)) (.own 6)])) :: (3, .gone) :: hpC m ve q.2.1) (fun q => g.ins.length - q.1) (0, st, []) ?_ (fun _ => rfl) ?_ ?_
   ·exact ⟨Nat.zero_le _, hS, rfl, hI, fun _ _ _ h => h⟩
   ·refine ⟨?_, .mk ?_ (by simp [idsOk])⟩
    ·(repeat' first|exact rfl|exact trivial|exact wR|exact lR _|apply aI)
    ·(repeat' first|exact rfl|exact trivial|exact wR|exact lR _|apply aI)
     all_goals first | exact leM_refl _ | exact encM_bnd _ _
   rintro ⟨j, sj, acc⟩ ⟨hj, hnj, hacc, hIj, hzj⟩ _
   dsimp only at hj hnj hacc hIj hzj
   ((try dsimp only[awp]);(conv=>whnf))
   refine And.intro (fun hh => ?_) (fun hh => ?_)
   ·have hjl : j < g.ins.length := by simpa using hh
    obtain ⟨hij, hKj⟩ := hins j hjl
    rw [drop_of_get? hKj] at hnj
    unfold compL at hnj
    have hyK := List.mem_of_getElem? hKj
    have hlj := hmem _ hyK
    have cw := ih x.2.1 g.ins[j] sj hpg hij hlj hIj
    have hIr := hInv (resR m x.2.1 g.ins[j]) sj hij.ok hIj
    have hyr := hrk _ hyK
    ((try dsimp only[awp]);(conv=>whnf))
    refine aidx hjl ?_
    generalize g.ins[j] = s2 at *
    generalize resR m x.2.1 s2 = y at *
    generalize hr0 : W y sj = r at *
    obtain ⟨⟨rb, ra⟩, rs⟩ := r
    dsimp only at hnj hIr cw
    cases rb with
    | true =>
      rw [if_pos rfl] at hnj
      rw [show compAV ((true, ra), rs) = .tup [.int .i64 ra, .ifc 45 (.int .i64 7)] from rfl] at cw
      ((try dsimp only[awp]);(conv=>whnf))
      refine .gen _ _ (FnH.frame [0, 1, 2] cw ⟨rfl, rfl, rfl, rfl⟩ ?_ ?_) fun _ => ?_
      ·(repeat' first|exact rfl|exact trivial|exact wR|exact lR _|apply aI)
       all_goals first | exact leM_rn _ _ | exact encM_bnd _ _
      ·(repeat' first|exact rfl|exact trivial|exact wR|exact lR _|apply aI)
      rw [hR, ← hnj, if_pos rfl]
      ((try dsimp only[awp]);(conv=>whnf))
      refine ⟨⟨_, _, .refl _ _, ?_⟩⟩
      (conv=>whnf)
      refine ⟨?_, rfl, by simp [nextId], .mk ?_ (by simp [idsOk])⟩
      ·(repeat' first|exact rfl|exact trivial|exact wR|exact lR _|apply aI)
      ·(repeat' first|exact rfl|exact trivial|exact wR|exact lR _|apply aI)
       all_goals first | exact leM_refl _ | exact leM_nr _ _ | exact encM_bnd _ _ | (show leRL _ (List.map _ (_ ++ [_])); rw [List.map_append]; refine leRL_snoc ?_ (lR _); (repeat' first|exact rfl|exact trivial|exact wR|exact lR _|apply aI); done) | (simp [pushN]; done) | (simp [pushN]; omega)
    | false =>
      rw [if_neg (by simp)] at hnj
      rw [show compAV ((false, ra), rs) = .tup [.int .i64 ra, .nilI] from rfl] at cw
      ((try dsimp only[awp]);(conv=>whnf))
      refine .gen _ _ (FnH.frame [0, 1, 2] cw ⟨rfl, rfl, rfl, rfl⟩ ?_ ?_) fun _ => ?_
      ·(repeat' first|exact rfl|exact trivial|exact wR|exact lR _|apply aI)
       all_goals first | exact leM_rn _ _ | exact encM_bnd _ _
      ·(repeat' first|exact rfl|exact trivial|exact wR|exact lR _|apply aI)
      ((try dsimp only[awp]);(conv=>whnf))
      refine ⟨by rw [List.length_map, hacc], .mk (by simp [maxL]; omega) (by simp; omega) ?_⟩
      ((try dsimp only[awp]);(conv=>whnf))
      (refine ⟨inr64 (by omega) (by omega),?_⟩;(conv=>whnf))
      refine ⟨(j + 1, rs, acc ++ [ra]), ?_, ?_, ?_⟩
      ·exact ⟨hjl, hnj, by simp [hacc], hIr.1, fun z hz hxz hs => hIr.2 z hz (fun e => by have := hyr e; omega) (hzj z hz hxz hs)⟩
      ·refine ⟨?_, .mk ?_ (by simp [idsOk])⟩
       ·(repeat' first|exact rfl|exact trivial|exact wR|exact lR _|apply aI)
       ·(repeat' first|exact rfl|exact trivial|exact wR|exact lR _|apply aI)
        all_goals first | exact leM_nr _ _ | exact encM_bnd _ _ | (show leRL _ (List.map _ (_ ++ [_])); rw [List.map_append]; exact lR _) | (simp [hacc]; done) | (simp; omega)
      ·show g.ins.length - (j + 1) < g.ins.length - j
       omega
   have hjl : K.length ≤ j := by (have : ¬ j < g.ins.length := by simpa using hh); omega
   rw [List.drop_eq_nil_of_le hjl] at hnj
   unfold compL at hnj
   rw [← hnj, if_neg (by simp)] at hR
   rw [hR]
   have hshort := hIj.short hB
   ((try dsimp only[awp]);(conv=>whnf))
   ((try dsimp only[awp]);(conv=>whnf))
   (refine ADraw.auto (by kernel_rfl) ?_;(conv=>whnf))
   refine ⟨by rw [List.length_map], .mk (by simp [maxL]; omega) (by simp; omega) ?_⟩
   ((try dsimp only[awp]);(conv=>whnf))
   (refine ADraw.auto (by kernel_rfl) ?_;(conv=>whnf))
   refine ⟨inr64 (by simp; omega) (by simp; omega), ?_⟩
   ((try dsimp only[awp]);(conv=>whnf))
   refine ⟨inr64 (by simp; omega) (by simp; omega), ?_⟩
   ((try dsimp only[awp]);(conv=>whnf))
   refine aupd_eq (v := ve + sj.nodes.length) (by simp; omega) ?_
   ((try dsimp only[awp]);(conv=>whnf))
   (refine ADraw.auto (by kernel_rfl) ?_;(conv=>whnf))
   refine alook_put ?_
   ((try dsimp only[awp]);(conv=>whnf))
   refine ⟨⟨_, _, .refl _ _, ?_⟩⟩
   (conv=>whnf)
   refine ⟨?_, rfl, by simp [nextId], .mk ?_ (by simp [idsOk])⟩
   ·(repeat' first|exact rfl|exact trivial|exact wR|exact lR _|apply aI)
   ·(repeat' first|exact rfl|exact trivial|exact wR|exact lR _|apply aI)
    all_goals first | exact leM_refl _ | exact leM_nr _ _ | exact encM_bnd _ _ | (show leRL _ (List.map _ (_ ++ [_])); rw [List.map_append]; refine leRL_snoc ?_ (lR _); (repeat' first|exact rfl|exact trivial|exact wR|exact lR _|apply aI); done) | (simp [pushN]; done) | (simp [pushN]; omega)
end S

open Go Go.AL Go.Proofs
namespace S
set_option maxRecDepth 100000

theorem countP_lt {α : Type} {p q : α → Bool} : ∀ {l : List α}, (∀ x ∈ l, p x = true → q x = true) → (∃ y ∈ l, q y = true ∧ p y = false) → l.countP p < l.countP q
 | [], _, h => by obtain ⟨y, hy, _⟩ := h; simp at hy
 | x :: l, h1, h2 => by
   simp only [List.countP_cons]
   have hle : l.countP p ≤ l.countP q := List.countP_mono_left fun y hy => h1 y (by simp [hy])
   obtain ⟨y, hy, hq, hp⟩ := h2
   rcases List.mem_cons.1 hy with rfl | hy
   ·rw [if_pos hq, if_neg (by rw [hp]; simp)]; omega
   ·have ih := countP_lt (l := l) (fun z hz => h1 z (by simp [hz])) ⟨y, hy, hq, hp⟩
    have := h1 x (by simp)
    split
    ·rename_i hpx; rw [if_pos (this hpx)]; omega
    ·omega

theorem ok_gateC {m : Md} {x : Node} (h : okN m x) (h2 : x.1 = 2) : x ∈ allNodes m := by
 rcases h with h | h | h
 ·omega
 ·omega
 ·exact h

theorem rank_bd {m : Md} (hc : ClosedM m) {rank : Node → Nat} (hr : RankM m rank) : ∃ rank', RankM m rank' ∧ ∀ x, rank' x ≤ (allNodes m).length := by
 refine ⟨fun x => (allNodes m).countP fun z => decide (rank z < rank x), ?_, fun x => List.countP_le_length⟩
 intro x hx h2 y hy hy2
 have hxa := (okN_kids hc hx h2)
 have hlt := hr x hx h2 y hy hy2
 refine countP_lt (fun z _ h => ?_) ⟨y, ?_, ?_, ?_⟩
 ·have := of_decide_eq_true h
  exact decide_eq_true (by omega)
 ·exact ok_gateC (hxa.2 y hy) hy2
 ·exact decide_eq_true hlt
 ·exact decide_eq_false (by omega)
def fuelC (m : Md) : Nat := (allNodes m).length + 2

theorem MOk.rank {m : Md} (hM : MOk m) : ∃ rank, RankM m rank ∧ ∀ x, lvl rank x < fuelC m := by
 obtain ⟨rank, hr⟩ := cyc_rank hM.closed hM.cyc
 obtain ⟨rank', hr', hb⟩ := rank_bd hM.closed hr
 refine ⟨rank', hr', fun x => ?_⟩
 have := hb x
 unfold lvl fuelC
 split <;> omega

def compTop (m : Md) (s : Str) : (Bool × Int) × CS := compN m m.evs.length (fuelC m) (resR m (-1) s) ⟨[], []⟩

def atR (m : Md) (s : Str) : Fo × Int :=
 if (inputR m (-1) s).2 ≠ 0 then (⟨0, [], 0⟩, (inputR m (-1) s).2) else if (compTop m s).1.1 = true then (⟨0, [], 0⟩, 7)
 else (⟨m.evs.length, (compTop m s).2.nodes, (compTop m s).1.2⟩, 0)

abbrev atAV (r : Fo × Int) : AV := .tup [r.1.av, errAV r.2]

theorem CInv.nil (m : Md) : CInv m ⟨[], []⟩ := ⟨rfl, by simp, by simp⟩

theorem c_at (m : Md) (s : Str) (hC : MdC m) (hB : MdB m) (R : AV) (hR : R = atAV (atR m s)) : FnH Try.prog 37 [m.av, .str s] [] R [] := by
 have ci := c_Input m (-1) s hC hB _ rfl
 have bE := errAV_bnd (inputR m (-1) s).2
 by_cases hi : (inputR m (-1) s).2 ≠ 0
 ·rw [show atR m s = (⟨0, [], 0⟩, (inputR m (-1) s).2) from if_pos hi] at hR
  subst hR
  rw [errAV_ne hi] at ci
  rw [show atAV (⟨0, [], 0⟩, (inputR m (-1) s).2) = .tup [(⟨0, [], 0⟩ : Fo).av, .ifc 45 (.int .i64 (inputR m (-1) s).2)] from by unfold atAV; rw [errAV_ne hi]]
  generalize inputR m (-1) s = q at *
  obtain ⟨⟨q1, q2, q3⟩, e⟩ := q
  refine FnH.intro lay mixed Try.func37 (by kernel_rfl) rfl (by kernel_rfl) rfl fun hok => ?_
  ((try dsimp only[argC,succC]);(try dsimp only[awp]);(conv=>whnf))
  refine .pure _ _ ?_ ⟨rfl, rfl⟩ ci fun _ => ?_
  ·exact leL_refl _
  ((try dsimp only[awp]);(conv=>whnf))
  refine ⟨⟨_, _, .refl _ _, ?_⟩⟩
  (conv=>whnf)
  refine ⟨?_, rfl, by simp [nextId], .mk ?_ (by simp [idsOk])⟩
  ·(repeat' first|exact rfl|exact trivial|exact wR|exact lR _|apply aI)
  ·(repeat' first|exact rfl|exact trivial|exact wR|exact lR _|apply aI)
 have hi : (inputR m (-1) s).2 = 0 := by simpa using hi
 have hin0 : checkM m = 0 ∧ isInR m (-1) s = true := by
  unfold inputR at hi
  split at hi
  ·rename_i h; exact absurd hi h
  rename_i h0
  rw [if_neg (by omega), if_neg (by omega)] at hi
  split at hi
  ·cases hi
  ·rename_i h; exact ⟨by simpa using h0, by simpa using h⟩
 have hM := checkM_ok hin0.1
 have hin := hM.inOk (.inl rfl) hin0.2
 obtain ⟨rank, hr, hb⟩ := hM.rank
 have cw := c_cinput m hM hB rank hr (fuelC m) (-1) s ⟨[], []⟩ (.inl rfl) hin (hb _) (.nil m)
 rw [show compN m m.evs.length (fuelC m) (resR m (-1) s) ⟨[], []⟩ = compTop m s from rfl] at cw
 rw [hi, errAV_zero] at ci
 have hR2 : atR m s = if (compTop m s).1.1 = true then (⟨0, [], 0⟩, 7) else (⟨m.evs.length, (compTop m s).2.nodes, (compTop m s).1.2⟩, 0) := if_neg (by rw [hi]; simp)
 rw [hR2] at hR
 clear hR2 hi
 generalize inputR m (-1) s = q at *
 obtain ⟨⟨q1, q2, q3⟩, e⟩ := q
 generalize compTop m s = r at *
 obtain ⟨⟨rb, ra⟩, rn, re⟩ := r
 dsimp only at hR
 have cv : Cv [] [(3, .box (.ag [m.av, .ag [.int .i64 m.evs.length, .nils, .int .i64 0], .mp 2])), (2, .amap shN []), (1, .box (.ag [.int .i64 0, .nils, .int .i64 0])), (0, .box m.av)] [] [(4, .tok 3 0), (3, .box (.ag [m.av, .ag [.int .i64 m.evs.length, .sl 3 [] (.own 4), .int .i64 0], .mp 2])), (2, .amap shN []), (1, .box (.ag [.int .i64 0, .nils, .int .i64 0])), (0, .box m.av)] :=
  .growF 3 [1, 1] 3 [] (.ag [m.av, .ag [.int .i64 m.evs.length, .nils, .int .i64 0], .mp 2]) .nils _ rfl rfl (.inl ⟨rfl, rfl⟩) rfl (.refl _ _)
 cases rb with
 | true =>
   rw [if_pos rfl] at hR
   subst hR
   rw [show compAV ((true, ra), ⟨rn, re⟩) = .tup [.int .i64 ra, .ifc 45 (.int .i64 7)] from rfl] at cw
   refine FnH.intro lay mixed Try.func37 (by kernel_rfl) rfl (by kernel_rfl) rfl fun hok => ?_
   ((try dsimp only[argC,succC]);(try dsimp only[awp]);(conv=>whnf))
   refine .pure _ _ ?_ ⟨rfl, rfl⟩ ci fun _ => ?_
   ·exact leL_refl _
   ((try dsimp only[awp]);(conv=>whnf))
   rw [show (((m.evs.map Ev.av).length : Nat) : Int) = (m.evs.length : Int) by simp]
   refine .gen _ _ (FnH.pre cv (FnH.frame [2, 3, 4] cw ⟨rfl, rfl, rfl, rfl⟩ ?_ ?_)) fun _ => ?_
   ·(repeat' first|exact rfl|exact trivial|exact wR|exact lR _|apply aI)
   ·(repeat' first|exact rfl|exact trivial|exact wR|exact lR _|apply aI)
   ((try dsimp only[awp]);(conv=>whnf))
   refine ⟨⟨_, _, .refl _ _, ?_⟩⟩
   (conv=>whnf)
   refine ⟨?_, rfl, by simp [nextId], .mk ?_ (by simp [idsOk])⟩
   ·(repeat' first|exact rfl|exact trivial|exact wR|exact lR _|apply aI)
   ·(repeat' first|exact rfl|exact trivial|exact wR|exact lR _|apply aI)
 | false =>
   rw [if_neg (by simp)] at hR
   subst hR
   rw [show compAV ((false, ra), ⟨rn, re⟩) = .tup [.int .i64 ra, .nilI] from rfl] at cw
   refine FnH.intro lay mixed Try.func37 (by kernel_rfl) rfl (by kernel_rfl) rfl fun hok => ?_
   ((try dsimp only[argC,succC]);(try dsimp only[awp]);(conv=>whnf))
   refine .pure _ _ ?_ ⟨rfl, rfl⟩ ci fun _ => ?_
   ·exact leL_refl _
   ((try dsimp only[awp]);(conv=>whnf))
   rw [show (((m.evs.map Ev.av).length : Nat) : Int) = (m.evs.length : Int) by simp]
   refine .gen _ _ (FnH.pre cv (FnH.frame [2, 3, 4] cw ⟨rfl, rfl, rfl, rfl⟩ ?_ ?_)) fun _ => ?_
   ·(repeat' first|exact rfl|exact trivial|exact wR|exact lR _|apply aI)
   ·(repeat' first|exact rfl|exact trivial|exact wR|exact lR _|apply aI)
   ((try dsimp only[awp]);(conv=>whnf))
   refine ⟨⟨_, _, .refl _ _, ?_⟩⟩
   (conv=>whnf)
   refine ⟨?_, rfl, by simp [nextId], .mk ?_ (by simp [idsOk])⟩
   ·(repeat' first|exact rfl|exact trivial|exact wR|exact lR _|apply aI)
   ·(repeat' first|exact rfl|exact trivial|exact wR|exact lR _|apply aI)

theorem errAV_two (e : Int) : errAV e = .nilI ∨ ∃ c : Int, errAV e = .ifc 45 (.int .i64 c) := by
 by_cases h : e = 0
 ·left; rw [h]; rfl
 ·right; exact ⟨e, errAV_ne h⟩

def staticR (m : Md) : Fo × Int := if checkM m ≠ 0 then (⟨0, [], 0⟩, checkM m) else atR m m.top

theorem c_Static (m : Md) (hC : MdC m) (hB : MdB m) (R : AV) (hR : R = atAV (staticR m)) : FnH Try.prog 10 [m.av] [] R [] := by
 have cc := c_mCheck m hC hB _ rfl
 by_cases h0 : checkM m ≠ 0
 ·rw [errAV_ne h0] at cc
  rw [show staticR m = (⟨0, [], 0⟩, checkM m) from if_pos h0] at hR
  rw [show atAV (⟨0, [], 0⟩, checkM m) = .tup [(⟨0, [], 0⟩ : Fo).av, .ifc 45 (.int .i64 (checkM m))] from by unfold atAV; rw [errAV_ne h0]] at hR
  subst hR
  refine FnH.intro lay mixed Try.func10 (by kernel_rfl) rfl (by kernel_rfl) rfl fun hok => ?_
  ((try dsimp only[argC,succC]);(try dsimp only[awp]);(conv=>whnf))
  refine .pure _ _ ?_ ⟨rfl, rfl⟩ cc fun _ => ?_
  ·exact leL_refl _
  ((try dsimp only[awp]);(conv=>whnf))
  refine ⟨⟨_, _, .refl _ _, ?_⟩⟩
  (conv=>whnf)
  refine ⟨?_, rfl, by simp [nextId], .mk ?_ (by simp [idsOk])⟩
  ·(repeat' first|exact rfl|exact trivial|exact wR|exact lR _|apply aI)
  ·(repeat' first|exact rfl|exact trivial|exact wR|exact lR _|apply aI)
 have h0 : checkM m = 0 := by simpa using h0
 rw [h0, errAV_zero] at cc
 have ca := c_at m m.top hC hB _ rfl
 rw [show staticR m = atR m m.top from if_neg (by rw [h0]; simp)] at hR
 subst hR
 unfold atAV at *
 have hE := errAV_two (atR m m.top).2
 generalize errAV (atR m m.top).2 = E at *
 generalize (atR m m.top).1 = f at *
 rcases hE with rfl | ⟨c, rfl⟩
 all_goals
  refine FnH.intro lay mixed Try.func10 (by kernel_rfl) rfl (by kernel_rfl) rfl fun hok => ?_
  ((try dsimp only[argC,succC]);(try dsimp only[awp]);(conv=>whnf))
  refine .pure _ _ ?_ ⟨rfl, rfl⟩ cc fun _ => ?_
  ·exact leL_refl _
  ((try dsimp only[awp]);(conv=>whnf))
  refine .pure _ _ ?_ ⟨rfl, rfl⟩ ca fun _ => ?_
  ·exact leL_refl _
  ((try dsimp only[awp]);(conv=>whnf))
  refine ⟨⟨_, _, .refl _ _, ?_⟩⟩
  (conv=>whnf)
  refine ⟨?_, rfl, by simp [nextId], .mk ?_ (by simp [idsOk])⟩
  ·(repeat' first|exact rfl|exact trivial|exact wR|exact lR _|apply aI)
  ·(repeat' first|exact rfl|exact trivial|exact wR|exact lR _|apply aI)
end S

open Go Go.AL Go.Proofs
namespace S
set_option maxRecDepth 100000

theorem all_len64 {m : Md} (hM : MOk m) : (allNodes m).length ≤ 64 := by
 have ht : totalM m ≤ 64 := by
  have := hM.pages
  unfold pagesErr at this
  split at this
  ·cases this
  ·omega
 have h1 : ∀ (l : List Pg) (n : Nat), l.foldl (fun n x => n + x.gates.length) n = n + (l.map fun p => p.gates.length).sum := by
  intro l
  induction l with
  | nil => intro n; simp
  | cons p l ih => intro n; simp only [List.foldl_cons, ih, List.map_cons, List.sum_cons]; omega
 have h2 : ∀ (l : List Int), (l.flatMap (nodesAt m)).length = (l.map fun a => (gatesM m a).length).sum := by
  intro l
  induction l with
  | nil => simp
  | cons a l ih => simp only [List.flatMap_cons, List.length_append, ih, List.map_cons, List.sum_cons]; simp [nodesAt]
 have h3 : (atsM m).map (fun a => (gatesM m a).length) = m.gates.length :: m.pages.map fun p => p.gates.length := by
  unfold atsM
  rw [List.map_map, List.range_succ_eq_map, List.map_cons, List.map_map]
  congr 1
  apply List.ext_getElem
  ·simp
  ·intro i h1 h2
   simp only [List.length_map, List.length_range] at h1
   simp only [List.getElem_map, List.getElem_range, Function.comp]
   unfold gatesM
   rw [if_neg (by omega)]
   have : (((i + 1 : Nat) : Int) - 1).toNat = i := by omega
   rw [show ((Nat.succ i : Nat) : Int) - 1 = (i : Int) by simp]
   rw [Int.toNat_natCast, List.getD_eq_getElem?_getD, List.getElem?_eq_getElem h1]; rfl
 unfold totalM at ht
 rw [h1] at ht
 unfold allNodes
 rw [h2, h3, List.sum_cons]
 exact ht

theorem CInv.short128 {m : Md} (hM : MOk m) {st : CS} (h : CInv m st) : st.nodes.length ≤ 128 := by
 have := nodup_sub h.nd (u := univ m) fun x hx => by
  obtain ⟨e, he, rfl⟩ := List.mem_map.1 hx
  exact univ_mem (h.ok e he).1 (h.ok e he).2
 rw [List.length_map] at this
 have h1 := all_len64 hM
 have h2 := hM.lens.2
 have : (univ m).length = m.hs.length + (allNodes m).length := by simp [univ]
 rw [h.len]
 omega

structure VInv (vars : Int) (st : CS) : Prop where
 nd : ∀ (i : Nat) (h : i < st.nodes.length), NdOk vars i st.nodes[i]
 va : ∀ z v, lookO st.es z = some v → 0 ≤ v ∧ v < vars + st.nodes.length

theorem VInv.push {vars : Int} (hv : 0 ≤ vars) {st : CS} (h : VInv vars st) (x : Node) (nd : Nd) (hn : NdOk vars st.nodes.length nd) : VInv vars (pushN vars st x nd).2 := by
 refine ⟨?_, ?_⟩
 ·show ∀ (i : Nat) (h : i < (st.nodes ++ [nd]).length), NdOk vars i (st.nodes ++ [nd])[i]
  intro i hi
  by_cases hl : i < st.nodes.length
  ·rw [List.getElem_append_left hl]; exact h.nd i hl
  ·obtain rfl : i = st.nodes.length := by simp at hi; omega
   rw [List.getElem_append_right (Nat.le_refl _)]
   simpa using hn
 ·show ∀ z v, lookO (mark st.es x (vars + st.nodes.length)) z = some v → 0 ≤ v ∧ v < vars + ((st.nodes ++ [nd]).length : Int)
  intro z v hz
  rw [lookO_mark] at hz
  rw [List.length_append]
  split at hz
  ·obtain rfl := Option.some.inj hz
   simp; omega
  ·have := h.va z v hz
   simp; omega

theorem gate_nd {m : Md} (hM : MOk m) {x : Node} (hx : x ∈ allNodes m) (hs : statK (gateAt m x).kind = true) {vars : Int} {i : Nat} {args : List Int} (hl : args.length = (gateAt m x).ins.length) (ha : ∀ a ∈ args, 0 ≤ a ∧ a < vars + i) :
  NdOk vars i ⟨kindN (gateAt m x).kind, (gateAt m x).k, args⟩ := by
 obtain ⟨_, h2, h3, h4⟩ := mem_all.1 hx
 have hk : x.2.2.toNat < (gatesM m x.2.1).length := by omega
 have ho := (hM.gate h2 hk).own
 have e : gateAt m x = (gatesM m x.2.1)[x.2.2.toNat] := by unfold gateAt; rw [List.getD_eq_getElem?_getD, List.getElem?_eq_getElem hk]; rfl
 rw [← e] at ho
 generalize gateAt m x = g at *
 clear e
 have hf : argsR g.kind g.ins.length = true ∧ ¬ (g.kind = 2 ∧ (g.k < 1 ∨ (g.ins.length : Int) < g.k)) ∧ ¬ (g.kind ≠ 2 ∧ g.k ≠ 0) := by
  unfold mgErr at ho
  split at ho
  ·cases ho
  split at ho
  ·cases ho
  split at ho
  ·cases ho
  split at ho
  ·cases ho
  split at ho
  ·cases ho
  rename_i q1 q2 q3
  exact ⟨by simpa using q1, q2, q3⟩
 obtain ⟨f1, f2, f3⟩ := hf
 unfold statK at hs
 simp only [Bool.or_eq_true, decide_eq_true_eq] at hs
 rcases hs with ((((e | e) | e) | e) | e) | e <;> rw [e] at f1 f2 f3 ⊢ <;> simp [argsR] at f1 f2 f3 <;> refine ⟨?_, ?_, ha, ?_⟩ <;> simp [kindN] <;> omega

theorem compL_app (f : Node → CS → (Bool × Int) × CS) : ∀ (l : List Node) (s : CS) (acc : List Int), (compL f l s acc).1.1 = false → (compL f l s acc).1.2.length = acc.length + l.length
 | [], _, _, _ => rfl
 | y :: l, s, acc, h => by
   unfold compL at h ⊢
   split
   ·rename_i hb; rw [if_pos hb] at h; cases h
   ·rename_i hb
    rw [if_neg hb] at h
    rw [compL_app f l _ _ h]
    simp; omega

theorem comp_wf {m : Md} (hM : MOk m) (vars : Int) (hv : vars = m.evs.length) : ∀ (n : Nat) (x : Node) (st : CS), okN m x → VInv vars st → (compN m vars n x st).1.1 = false →
  VInv vars (compN m vars n x st).2 ∧ (0 ≤ (compN m vars n x st).1.2 ∧ (compN m vars n x st).1.2 < vars + (compN m vars n x st).2.nodes.length) ∧ ∃ r, (compN m vars n x st).2.nodes = st.nodes ++ r
 | 0, _, _, _, _, h => by cases h
 | n + 1, x, st, hx, hI, h => by
   have hv0 : 0 ≤ vars := by omega
   unfold compN at h ⊢
   split
   ·rename_i h0
    refine ⟨hI, ?_, [], by simp⟩
    rcases hx with hx | hx | hx
    ·dsimp only; omega
    ·omega
    ·have := (mem_all.1 hx).1; omega
   rename_i h0
   rw [if_neg h0] at h
   split
   ·rename_i a ha; exact ⟨hI, hI.va x a ha, [], by simp⟩
   rename_i hn
   simp only [hn] at h
   have hpush : ∀ {s : CS} (nd : Nd), VInv vars s → NdOk vars s.nodes.length nd → (∃ r, s.nodes = st.nodes ++ r) → VInv vars (pushN vars s x nd).2 ∧ (0 ≤ (pushN vars s x nd).1.2 ∧ (pushN vars s x nd).1.2 < vars + (pushN vars s x nd).2.nodes.length) ∧ ∃ r, (pushN vars s x nd).2.nodes = st.nodes ++ r := by
    intro s nd h1 h2 ⟨r, hr⟩
    refine ⟨h1.push hv0 x nd h2, ?_, r ++ [nd], ?_⟩
    ·show 0 ≤ vars + (s.nodes.length : Int) ∧ vars + (s.nodes.length : Int) < vars + ((s.nodes ++ [nd]).length : Int)
     rw [List.length_append]; simp; omega
    ·show s.nodes ++ [nd] = _
     rw [hr, List.append_assoc]
   split
   ·rename_i h1
    refine hpush _ hI ⟨by simp, by simp, by simp, ?_⟩ ⟨[], by simp⟩
    simp
    try (cases (houseAt m x).on <;> simp)
   rename_i h1
   rw [if_neg h1] at h
   have h2 : x.1 = 2 := by
    rcases hx with h | h | h
    ·omega
    ·omega
    ·exact (mem_all.1 h).1
   obtain ⟨hxa, hk⟩ := okN_kids hM.closed hx h2
   split
   ·rename_i hs; rw [if_pos hs] at h; cases h
   rename_i hs
   rw [if_neg hs] at h
   have key : ∀ (l : List Node) (s : CS) (acc : List Int), (∀ y ∈ l, okN m y) → VInv vars s → (∀ a ∈ acc, 0 ≤ a ∧ a < vars + s.nodes.length) → (compL (compN m vars n) l s acc).1.1 = false →
     VInv vars (compL (compN m vars n) l s acc).2 ∧ (∀ a ∈ (compL (compN m vars n) l s acc).1.2, 0 ≤ a ∧ a < vars + (compL (compN m vars n) l s acc).2.nodes.length) ∧ ∃ r, (compL (compN m vars n) l s acc).2.nodes = s.nodes ++ r := by
    intro l
    induction l with
    | nil => intro s acc _ h1 h2 _; exact ⟨h1, h2, [], by simp [compL]⟩
    | cons y l ih =>
      intro s acc hl h1 h2 he
      unfold compL at he ⊢
      split
      ·rename_i hb; rw [if_pos hb] at he; cases he
      ·rename_i hb
       rw [if_neg hb] at he
       obtain ⟨g1, g2, r, g3⟩ := comp_wf hM vars hv n y s (hl y (by simp)) h1 (by simpa using hb)
       have hle : (s.nodes.length : Int) ≤ (compN m vars n y s).2.nodes.length := by rw [g3, List.length_append]; omega
       obtain ⟨i1, i2, r', i3⟩ := ih _ _ (fun z hz => hl z (by simp [hz])) g1 (fun a ha => by
        rcases List.mem_append.1 ha with ha | ha
        ·have := h2 a ha; omega
        ·simp at ha; subst ha; exact g2) he
       exact ⟨i1, i2, r ++ r', by rw [i3, g3, List.append_assoc]⟩
   split
   ·rename_i he; rw [if_pos he] at h; cases h
   ·rename_i he
    have he : (compL (compN m vars n) (kidsM m x) st []).1.1 = false := by simpa using he
    obtain ⟨k1, k2, k3⟩ := key _ _ _ hk hI (by simp) he
    refine hpush _ k1 (gate_nd hM hxa (by simpa using hs) ?_ k2) k3
    rw [compL_app _ _ _ _ he]
    simp [kidsM]

theorem VInv.nil (vars : Int) : VInv vars ⟨[], []⟩ := ⟨fun i h => by simp at h, fun z v h => by cases h⟩

theorem at_ok {m : Md} (hM : MOk m) {s : Str} (hs : isInR m (-1) s = true) (he : (compTop m s).1.1 = false) : FOk ⟨m.evs.length, (compTop m s).2.nodes, (compTop m s).1.2⟩ := by
 have hok := (hM.inOk (.inl rfl) hs).ok
 obtain ⟨rank, hr, _⟩ := hM.rank
 obtain ⟨h1, h2, _⟩ := comp_wf hM m.evs.length rfl (fuelC m) _ ⟨[], []⟩ hok (.nil _) he
 have h3 := (comp_inv hM.closed hr m.evs.length (fuelC m) _ ⟨[], []⟩ hok (.nil m)).1.short128 hM
 have := hM.lens.1
 exact ⟨⟨by simp, by show (m.evs.length : Int) ≤ 24; omega⟩, h3, h1.nd, h2⟩
end S

open Go Go.AL Go.Proofs
namespace S
set_option maxRecDepth 100000

def shortX (x : Rat) : Prop := x.num.length ≤ 40 ∧ x.den.length ≤ 40

structure MdX (m : Md) : Prop where
 evs : ∀ x ∈ m.evs, shortX x.p ∧ shortX x.fail ∧ shortX x.repair
 gates : ∀ x ∈ m.gates, shortX x.dorm
 pages : ∀ p ∈ m.pages, ∀ x ∈ p.gates, shortX x.dorm
 grs : ∀ x ∈ m.grs, ∀ f ∈ x.fac, shortX f
 phs : ∀ x ∈ m.phs, ∀ v ∈ x.vals, shortX v.p

end S

open Go Go.AL Go.Proofs
namespace S
set_option maxRecDepth 100000

end S

open Go Go.AL Go.Proofs
namespace S
set_option maxRecDepth 100000

end S

open Go Go.AL Go.Proofs
namespace S
set_option maxRecDepth 100000

end S

open Go Go.AL Go.Proofs
namespace S
set_option maxRecDepth 100000

end S

open Go Go.AL Go.Proofs
namespace S
set_option maxRecDepth 100000

end S

open Go Go.AL Go.Proofs
namespace S
set_option maxRecDepth 100000

end S

open Go Go.AL Go.Proofs
namespace S
set_option maxRecDepth 100000

end S

open Go Go.AL Go.Proofs
namespace S
set_option maxRecDepth 100000

end S

open Go Go.AL Go.Proofs
namespace S
set_option maxRecDepth 100000

end S

open Go Go.AL Go.Proofs
namespace S
set_option maxRecDepth 100000

end S

open Go Go.AL Go.Proofs
namespace S
set_option maxRecDepth 100000

end S

open Go Go.AL Go.Proofs
namespace S
set_option maxRecDepth 100000

end S

open Go Go.AL Go.Proofs
namespace S
set_option maxRecDepth 100000

end S

open Go Go.AL Go.Proofs
namespace S
set_option maxRecDepth 100000

end S

open Go Go.AL Go.Proofs
namespace S
set_option maxRecDepth 100000

end S

open Go Go.AL Go.Proofs
namespace S
set_option maxRecDepth 100000

end S

open Go Go.AL Go.Proofs
namespace S
set_option maxRecDepth 100000

end S

open Go Go.AL Go.Proofs
namespace S
set_option maxRecDepth 100000

def findR (m : Md) (a : Int) (s : Str) : Node :=
 if 0 ≤ i_event m.evs s then (0, 0, i_event m.evs s) else if 0 ≤ i_house m.hs s then (1, 0, i_house m.hs s) else if 0 ≤ i_gate (gatesM m a) s then (2, a, i_gate (gatesM m a) s) else (-1, 0, 0)

def findX (m : Md) (a : Int) (s : Str) : Node :=
 if atS s = true then (if i_page m.pages (s.drop 1) < 0 then (-1, 0, 0) else findR m (i_page m.pages (s.drop 1)) (pageTop m (i_page m.pages (s.drop 1)))) else findR m a s

end S

open Go Go.AL Go.Proofs
namespace S
set_option maxRecDepth 100000

end S

open Go Go.AL Go.Proofs
namespace S
set_option maxRecDepth 100000

end S

open Go Go.AL Go.Proofs
namespace S
set_option maxRecDepth 100000

end S

open Go Go.AL Go.Proofs
namespace S
set_option maxRecDepth 100000

def offR (m : Md) : Nat → Nat
 | 0 => 0
 | k + 1 => offR m k + (gatesM m ((k : Int) - 1)).length

def numR (m : Md) (x : Node) : Int := x.2.2 + offR m (x.2.1 + 1).toNat

def usesL (m : Md) (a : Int) (l : List Str) : List Int := ((l.map (findX m a)).filter fun x => decide (x.1 = 2)).map (numR m)
def usesAt (m : Md) (x : Node) : List Int := usesL m x.2.1 (gateAt m x).ins
def usesM (m : Md) : List (List Int) := (allNodes m).map (usesAt m)

theorem findX_gate {m : Md} {a : Int} {s : Str} (ha : a = -1 ∨ (0 ≤ a ∧ a < (m.pages.length : Int))) (h : (findX m a s).1 = 2) : findX m a s ∈ allNodes m := by
 have key : ∀ b t, (b = -1 ∨ (0 ≤ b ∧ b < (m.pages.length : Int))) → (findR m b t).1 = 2 → findR m b t ∈ allNodes m := by
  intro b t hb h
  unfold findR at h ⊢
  by_cases h1 : 0 ≤ i_event m.evs t
  ·rw [if_pos h1] at h; cases h
  rw [if_neg h1] at h ⊢
  by_cases h2 : 0 ≤ i_house m.hs t
  ·rw [if_pos h2] at h; cases h
  rw [if_neg h2] at h ⊢
  by_cases h3 : 0 ≤ i_gate (gatesM m b) t
  ·rw [if_pos h3]
   exact mem_all.2 ⟨rfl, hb, h3, idxP_lt _ _⟩
  ·rw [if_neg h3] at h; cases h
 unfold findX at h ⊢
 by_cases h1 : atS s = true
 ·rw [if_pos h1] at h ⊢
  by_cases h2 : i_page m.pages (s.drop 1) < 0
  ·rw [if_pos h2] at h; cases h
  rw [if_neg h2] at h ⊢
  exact key _ _ (.inr ⟨by omega, idxP_lt _ _⟩) h
 ·rw [if_neg h1] at h ⊢
  exact key _ _ ha h

end S

open Go Go.AL Go.Proofs
namespace S
set_option maxRecDepth 100000

theorem drop_off {m : Md} : ∀ {k : Nat}, k ≤ m.pages.length + 1 → (allNodes m).drop (offR m k) = nodesFrom m k
 | 0, _ => rfl
 | k + 1, h => by
   simp only [offR]
   rw [← List.drop_drop, drop_off (by omega : k ≤ _), nodesFrom_step (by omega), ← nodesAt_len, List.drop_left]

theorem num_get {m : Md} {x : Node} (hx : x ∈ allNodes m) : 0 ≤ numR m x ∧ (allNodes m)[(numR m x).toNat]? = some x := by
 obtain ⟨h1, h2, h3, h4⟩ := mem_all.1 hx
 obtain ⟨xk, a, i⟩ := x
 dsimp only at h1 h2 h3 h4
 subst h1
 have hb : (a + 1).toNat < m.pages.length + 1 := by omega
 have e := drop_off (m := m) (k := (a + 1).toNat) (by omega)
 have ha : (((a + 1).toNat : Nat) : Int) - 1 = a := by omega
 rw [nodesFrom_step hb, ha] at e
 have hi : i.toNat < (gatesM m a).length := by omega
 have g : ((allNodes m).drop (offR m (a + 1).toNat))[i.toNat]? = some (2, a, i) := by
  rw [e, List.getElem?_append_left (by rw [nodesAt_len]; exact hi), nodesAt_get hi, Int.toNat_of_nonneg h3]
 rw [List.getElem?_drop] at g
 have hn : numR m (2, a, i) = i + offR m (a + 1).toNat := rfl
 refine ⟨by rw [hn]; omega, ?_⟩
 rw [hn, show (i + (offR m (a + 1).toNat : Int)).toNat = offR m (a + 1).toNat + i.toNat by omega]
 exact g

theorem uses_lt {m : Md} : ∀ l ∈ usesM m, ∀ k ∈ l, 0 ≤ k ∧ k < ((usesM m).length : Int) := by
 intro l hl k hk
 unfold usesM at hl
 obtain ⟨x, hx, rfl⟩ := List.mem_map.1 hl
 unfold usesAt usesL at hk
 obtain ⟨y, hy, rfl⟩ := List.mem_map.1 hk
 obtain ⟨hy, h2⟩ := List.mem_filter.1 hy
 obtain ⟨s, _, rfl⟩ := List.mem_map.1 hy
 obtain ⟨g1, g2⟩ := num_get (findX_gate (mem_all.1 hx).2.1 (of_decide_eq_true h2))
 have := (List.getElem?_eq_some_iff.1 g2).1
 refine ⟨g1, ?_⟩
 simp only [usesM, List.length_map]
 omega

end S

open Go Go.AL Go.Proofs
namespace S
set_option maxRecDepth 100000

theorem findR_res {m : Md} {a : Int} {s : Str} (h : okN m (resOn m a s)) : findR m a s = resOn m a s := by
 unfold findR
 by_cases h1 : 0 ≤ i_event m.evs s
 ·rw [if_pos h1]; unfold resOn; rw [if_pos h1]
 by_cases h2 : 0 ≤ i_house m.hs s
 ·rw [if_neg h1, if_pos h2]; unfold resOn; rw [if_neg h1, if_pos h2]
 have e : resOn m a s = (2, a, i_gate (gatesM m a) s) := by unfold resOn; rw [if_neg h1, if_neg h2]
 rw [e] at h ⊢
 have h3 : 0 ≤ i_gate (gatesM m a) s := by
  rcases h with h | h | h
  ·exact absurd (show (2 : Int) = 0 from h.1) (by decide)
  ·exact absurd (show (2 : Int) = 1 from h.1) (by decide)
  ·exact (mem_all.1 h).2.2.1
 rw [if_neg h1, if_neg h2, if_pos h3]

theorem find_res {m : Md} {a : Int} {s : Str} (h : okN m (resR m a s)) (hp : atS s = true → 0 ≤ i_page m.pages (s.drop 1)) : findX m a s = resR m a s := by
 unfold findX
 by_cases e : atS s = true
 ·have hr : resR m a s = resOn m (i_page m.pages (s.drop 1)) (pageTop m (i_page m.pages (s.drop 1))) := if_pos e
  have := hp e
  rw [hr] at h ⊢
  rw [if_pos e, if_neg (by omega), findR_res h]
 ·have hr : resR m a s = resOn m a s := if_neg e
  rw [hr] at h ⊢
  rw [if_neg e, findR_res h]

theorem uses_kids {m : Md} (hc : ClosedM m) {x : Node} (hx : x ∈ allNodes m) : usesAt m x = ((kidsM m x).filter fun y => decide (y.1 = 2)).map (numR m) := by
 unfold usesAt usesL kidsM
 have : (gateAt m x).ins.map (findX m x.2.1) = (gateAt m x).ins.map (resR m x.2.1) := List.map_congr_left fun s hs => find_res (hc x hx s hs).2.2 (hc x hx s hs).2.1
 rw [this]

def LeD (d e : List Bool) : Prop := ∀ i : Nat, d.getD i false = true → e.getD i false = true

theorem LeD.refl (d : List Bool) : LeD d d := fun _ h => h
theorem LeD.trans {a b c : List Bool} (h : LeD a b) (g : LeD b c) : LeD a c := fun i e => g i (h i e)

theorem getD_set {d : List Bool} {i j : Nat} {b : Bool} : (d.set i b).getD j false = if i = j ∧ j < d.length then b else d.getD j false := by
 rw [List.getD_eq_getElem?_getD, List.getElem?_set, List.getD_eq_getElem?_getD]
 by_cases e : i = j
 ·subst e
  by_cases h : i < d.length
  ·simp [h]
  ·simp [h]
 ·simp [e]

theorem cnt_lt : ∀ (d e : List Bool), d.length = e.length → LeD d e → e.count false ≤ d.count false ∧ ((∃ i : Nat, i < d.length ∧ d.getD i false = false ∧ e.getD i false = true) → e.count false < d.count false)
 | [], [], _, _ => ⟨Nat.le_refl _, by rintro ⟨i, h, _⟩; simp at h⟩
 | [], _ :: _, h, _ => by simp at h
 | _ :: _, [], h, _ => by simp at h
 | x :: d, y :: e, h, hl => by
   obtain ⟨h1, h2⟩ := cnt_lt d e (by simpa using h) fun i hi => by simpa using hl (i + 1) (by simpa using hi)
   have h0 : x = true → y = true := fun hx => by simpa using hl 0 (by simpa using hx)
   simp only [List.count_cons]
   refine ⟨?_, ?_⟩
   ·cases x <;> cases y <;> simp_all <;> omega
   ·rintro ⟨i, hi, hd, he⟩
    cases i with
    | zero =>
      have hd : x = false := by simpa using hd
      have he : y = true := by simpa using he
      subst hd; subst he
      simp; omega
    | succ i =>
      have h3 := h2 ⟨i, by simpa using hi, by simpa using hd, by simpa using he⟩
      cases x <;> cases y <;> simp_all <;> omega

theorem uses_get {m : Md} {x : Node} (hx : x ∈ allNodes m) : (usesM m).getD (numR m x).toNat [] = usesAt m x := by
 obtain ⟨_, h⟩ := num_get hx
 unfold usesM
 rw [List.getD_eq_getElem?_getD, List.getElem?_map, h]; rfl

end S

open Go Go.AL Go.Proofs
namespace S
set_option maxRecDepth 100000

end S

open Go Go.AL Go.Proofs
namespace S

theorem list_of {α : Type} {f : α → AV} : ∀ {l : List AV}, (∀ x ∈ l, ∃ y, x = f y) → ∃ m : List α, l = m.map f
 | [], _ => ⟨[], rfl⟩
 | x :: l, h => by
   obtain ⟨y, rfl⟩ := h x (by simp)
   obtain ⟨m, rfl⟩ := list_of (l := l) fun z hz => h z (by simp [hz])
   exact ⟨y :: m, rfl⟩

theorem ints_of {sz : Nat} {k : IntKind} {A : AV} (h : (Sh.sl sz (.int k)).In A) : ∃ l : List Int, A = .sl sz (l.map (.int k)) .no := by
 simp only [Sh.In] at h
 obtain ⟨l, rfl, hl⟩ := h
 obtain ⟨m, rfl⟩ := list_of hl
 exact ⟨m, rfl⟩

abbrev shRat : Sh := .st [.bool, .sl 1 (.int .u32), .sl 1 (.int .u32)]
theorem Rat.of {A : AV} (h : shRat.In A) : ∃ r : Rat, A = r.av := by
 simp only [Sh.In, InL] at h
 obtain ⟨_, rfl, _, _, rfl, ⟨b, rfl⟩, _, _, rfl, h1, _, _, rfl, h2, rfl⟩ := h
 obtain ⟨n, rfl⟩ := ints_of (sz := 1) (k := .u32) (by simp only [Sh.In]; exact h1)
 obtain ⟨d, rfl⟩ := ints_of (sz := 1) (k := .u32) (by simp only [Sh.In]; exact h2)
 exact ⟨⟨b, n, d⟩, rfl⟩

theorem rats_of {A : AV} (h : (Sh.sl 3 shRat).In A) : ∃ l : List Rat, A = .sl 3 (l.map Rat.av) .no := by
 unfold Sh.In at h
 obtain ⟨l, rfl, hl⟩ := h
 obtain ⟨m, rfl⟩ := list_of fun x hx => Rat.of (hl x hx)
 exact ⟨m, rfl⟩

theorem int_of {k : IntKind} {A : AV} (h : (Sh.int k).In A) : ∃ n : Int, A = .int k n := by
 simpa only [Sh.In] using h

theorem str_of {A : AV} (h : Sh.str.In A) : ∃ s : List UInt8, A = .str s := by
 simpa only [Sh.In] using h
end S

open Go Go.AL Go.Proofs
namespace S
set_option maxRecDepth 100000

theorem sl_of {α : Type} {f : α → AV} {sh : Sh} {sz : Nat} {A : AV} (hf : ∀ x, sh.In x → ∃ y, x = f y) (h : (Sh.sl sz sh).In A) : ∃ l : List α, A = .sl sz (l.map f) .no := by
 unfold Sh.In at h
 obtain ⟨l, rfl, hl⟩ := h
 obtain ⟨m, rfl⟩ := list_of fun x hx => hf x (hl x hx)
 exact ⟨m, rfl⟩

abbrev shEv : Sh := .st [.str, shRat, shRat, shRat, .int .i64]
abbrev shHs : Sh := .st [.str, .bool]
abbrev shMg : Sh := .st [.str, .int .i64, .int .i64, .sl 1 .str, shRat]
abbrev shPg : Sh := .st [.str, .str, .sl 7 shMg]
abbrev shGr : Sh := .st [.str, .int .i64, .sl 1 .str, .sl 3 shRat]
abbrev shPv : Sh := .st [.str, shRat]
abbrev shPh : Sh := .st [.str, .str, .sl 4 shPv]
abbrev shMd : Sh := .st [.str, .str, .sl 11 shEv, .sl 2 shHs, .sl 7 shMg, .sl 3 shPg, .sl 4 shGr, .sl 3 shPh]

theorem strs_of {A : AV} (h : (Sh.sl 1 .str).In A) : ∃ l : List Str, A = sL l := sl_of (f := AV.str) (fun _ hx => str_of hx) h

theorem Ev.of {A : AV} (h : shEv.In A) : ∃ x : Ev, A = x.av := by
 unfold Sh.In at h
 simp only [InL] at h
 obtain ⟨_, rfl, _, _, rfl, h0, _, _, rfl, h1, _, _, rfl, h2, _, _, rfl, h3, _, _, rfl, h4, rfl⟩ := h
 obtain ⟨a, rfl⟩ := str_of h0
 obtain ⟨b, rfl⟩ := Rat.of h1
 obtain ⟨c, rfl⟩ := Rat.of h2
 obtain ⟨d, rfl⟩ := Rat.of h3
 obtain ⟨e, rfl⟩ := int_of h4
 exact ⟨⟨a, b, c, d, e⟩, rfl⟩

theorem Hs.of {A : AV} (h : shHs.In A) : ∃ x : Hs, A = x.av := by
 unfold Sh.In at h
 simp only [InL] at h
 obtain ⟨_, rfl, _, _, rfl, h0, _, _, rfl, h1, rfl⟩ := h
 obtain ⟨a, rfl⟩ := str_of h0
 simp only [Sh.In] at h1
 obtain ⟨b, rfl⟩ := h1
 exact ⟨⟨a, b⟩, rfl⟩

theorem Mg.of {A : AV} (h : shMg.In A) : ∃ x : Mg, A = x.av := by
 unfold Sh.In at h
 simp only [InL] at h
 obtain ⟨_, rfl, _, _, rfl, h0, _, _, rfl, h1, _, _, rfl, h2, _, _, rfl, h3, _, _, rfl, h4, rfl⟩ := h
 obtain ⟨a, rfl⟩ := str_of h0
 obtain ⟨b, rfl⟩ := int_of h1
 obtain ⟨c, rfl⟩ := int_of h2
 obtain ⟨d, rfl⟩ := strs_of h3
 obtain ⟨e, rfl⟩ := Rat.of h4
 exact ⟨⟨a, b, c, d, e⟩, rfl⟩

theorem Pg.of {A : AV} (h : shPg.In A) : ∃ x : Pg, A = x.av := by
 unfold Sh.In at h
 simp only [InL] at h
 obtain ⟨_, rfl, _, _, rfl, h0, _, _, rfl, h1, _, _, rfl, h2, rfl⟩ := h
 obtain ⟨a, rfl⟩ := str_of h0
 obtain ⟨b, rfl⟩ := str_of h1
 obtain ⟨c, rfl⟩ := sl_of (f := Mg.av) (fun _ hx => Mg.of hx) h2
 exact ⟨⟨a, b, c⟩, rfl⟩

theorem Gr.of {A : AV} (h : shGr.In A) : ∃ x : Gr, A = x.av := by
 unfold Sh.In at h
 simp only [InL] at h
 obtain ⟨_, rfl, _, _, rfl, h0, _, _, rfl, h1, _, _, rfl, h2, _, _, rfl, h3, rfl⟩ := h
 obtain ⟨a, rfl⟩ := str_of h0
 obtain ⟨b, rfl⟩ := int_of h1
 obtain ⟨c, rfl⟩ := strs_of h2
 obtain ⟨d, rfl⟩ := rats_of h3
 exact ⟨⟨a, b, c, d⟩, rfl⟩

theorem Pv.of {A : AV} (h : shPv.In A) : ∃ x : Pv, A = x.av := by
 unfold Sh.In at h
 simp only [InL] at h
 obtain ⟨_, rfl, _, _, rfl, h0, _, _, rfl, h1, rfl⟩ := h
 obtain ⟨a, rfl⟩ := str_of h0
 obtain ⟨b, rfl⟩ := Rat.of h1
 exact ⟨⟨a, b⟩, rfl⟩

theorem Ph.of {A : AV} (h : shPh.In A) : ∃ x : Ph, A = x.av := by
 unfold Sh.In at h
 simp only [InL] at h
 obtain ⟨_, rfl, _, _, rfl, h0, _, _, rfl, h1, _, _, rfl, h2, rfl⟩ := h
 obtain ⟨a, rfl⟩ := str_of h0
 obtain ⟨b, rfl⟩ := str_of h1
 obtain ⟨c, rfl⟩ := sl_of (f := Pv.av) (fun _ hx => Pv.of hx) h2
 exact ⟨⟨a, b, c⟩, rfl⟩

theorem Md.of {A : AV} (h : shMd.In A) : ∃ x : Md, A = x.av := by
 unfold Sh.In at h
 simp only [InL] at h
 obtain ⟨_, rfl, _, _, rfl, h0, _, _, rfl, h1, _, _, rfl, h2, _, _, rfl, h3, _, _, rfl, h4, _, _, rfl, h5, _, _, rfl, h6, _, _, rfl, h7, rfl⟩ := h
 obtain ⟨a, rfl⟩ := str_of h0
 obtain ⟨b, rfl⟩ := str_of h1
 obtain ⟨c, rfl⟩ := sl_of (f := Ev.av) (fun _ hx => Ev.of hx) h2
 obtain ⟨d, rfl⟩ := sl_of (f := Hs.av) (fun _ hx => Hs.of hx) h3
 obtain ⟨e, rfl⟩ := sl_of (f := Mg.av) (fun _ hx => Mg.of hx) h4
 obtain ⟨f, rfl⟩ := sl_of (f := Pg.av) (fun _ hx => Pg.of hx) h5
 obtain ⟨g, rfl⟩ := sl_of (f := Gr.av) (fun _ hx => Gr.of hx) h6
 obtain ⟨i, rfl⟩ := sl_of (f := Ph.av) (fun _ hx => Ph.of hx) h7
 exact ⟨⟨a, b, c, d, e, f, g, i⟩, rfl⟩

structure Ak where
 page : Int
 inp : Str
 old : Str
 new : Str

end S

open Go Go.AL Go.Proofs
namespace S
set_option maxRecDepth 100000

theorem okN_nonneg {m : Md} {x : Node} (h : okN m x) : 0 ≤ x.1 := by
 rcases h with h | h | h
 ·omega
 ·omega
 ·have := (mem_all.1 h).1; omega

theorem findX_in {m : Md} (hM : MOk m) {a : Int} (ha : a = -1 ∨ (0 ≤ a ∧ a < (m.pages.length : Int))) {s : Str} (hs : isInR m a s = true) : findX m a s = resR m a s ∧ 0 ≤ (findX m a s).1 := by
 have hi := hM.inOk ha hs
 have e := find_res hi.ok hi.pg
 rw [e]
 exact ⟨rfl, okN_nonneg hi.ok⟩

end S

open Go Go.AL Go.Proofs
namespace S
set_option maxRecDepth 100000

def markB (d : List Bool) (i : Nat) (k : Int) : List Bool := d.set k.toNat (d.getD k.toNat false || d.getD i false)
def marksB (i : Nat) : List Int → List Bool → List Bool
 | [], d => d
 | k :: l, d => marksB i l (markB d i k)
def passB : Nat → List (List Int) → List Bool → List Bool
 | _, [], d => d
 | i, l :: us, d => passB (i + 1) us (marksB i l d)
def roundsB (us : List (List Int)) : Nat → List Bool → List Bool
 | 0, d => d
 | r + 1, d => roundsB us r (passB 0 us d)
def belowU (us : List (List Int)) (f : Nat) : List Bool := roundsB us us.length ((List.replicate us.length false).set f true)

theorem markB_len {d : List Bool} {i : Nat} {k : Int} : (markB d i k).length = d.length := by simp [markB]

end S

open Go Go.AL Go.Proofs
namespace S
set_option maxRecDepth 100000

theorem marksB_len {i : Nat} : ∀ (l : List Int) (d : List Bool), (marksB i l d).length = d.length
 | [], _ => rfl
 | k :: l, d => by simp only [marksB]; rw [marksB_len l, markB_len]
theorem passB_len : ∀ (us : List (List Int)) (i : Nat) (d : List Bool), (passB i us d).length = d.length
 | [], _, _ => rfl
 | l :: us, i, d => by simp only [passB]; rw [passB_len us, marksB_len]
def evL (m : Md) (a : Int) : List Str → Nat → Nat
 | [], e => e
 | s :: l, e => evL m a l (if (findX m a s).1 = 0 then e ||| 2 ^ (findX m a s).2.2.toNat else e)
def dynG (g : Mg) : Bool := decide (g.kind = 6) || decide (g.kind = 7) || decide (g.kind = 8)
def stepN (m : Md) (F : List Bool) (p : Nat × Bool) (y : Node) : Nat × Bool :=
 if F.getD (numR m y).toNat false = true then (evL m y.2.1 (gateAt m y).ins p.1, p.2 || dynG (gateAt m y)) else p
def needsG (m : Md) (F : List Bool) : Nat × Bool := (allNodes m).foldl (stepN m F) (0, false)
def needsR (m : Md) (x : Node) : Nat × Bool :=
 if x.1 = 0 then (2 ^ x.2.2.toNat, false) else if x.1 = 1 then (0, false) else needsG m (belowU (usesM m) (numR m x).toNat)

theorem numR_lt {m : Md} {x : Node} (hx : x ∈ allNodes m) : 0 ≤ numR m x ∧ (numR m x).toNat < (usesM m).length := by
 obtain ⟨h1, h2⟩ := num_get hx
 exact ⟨h1, by simpa [usesM] using (List.getElem?_eq_some_iff.1 h2).1⟩

end S

open Go Go.AL Go.Proofs
namespace S
set_option maxRecDepth 100000

inductive Reach (m : Md) (r : Node) : Node → Prop
 | root : Reach m r r
 | step {x y : Node} (h : Reach m r x) (h2 : x.1 = 2) (hy : y ∈ kidsM m x) : Reach m r y

theorem Reach.leaf {m : Md} {r x : Node} (h : Reach m r x) (hr : r.1 ≠ 2) : x = r := by
 induction h with
 | root => rfl
 | step h h2 hy ih => rw [ih] at h2; exact absurd h2 hr

theorem Reach.ok {m : Md} {r x : Node} (hc : ClosedM m) (hr : okN m r) (h : Reach m r x) : okN m x := by
 induction h with
 | root => exact hr
 | step h h2 hy ih => exact (okN_kids hc ih h2).2 _ hy

theorem visited_reach {m : Md} (hM : MOk m) (x : Node) : x ∈ visitedM m ↔ Reach m (resR m (-1) m.top) x := by
 have hin := hM.inOk (.inl rfl) hM.top
 constructor
 ·have := walk_ok (kids := kidsM m) (step := fun (st : List Node) x => st ++ [x]) (fun x => Reach m (resR m (-1) m.top) x) (fun st => ∀ y ∈ st, Reach m (resR m (-1) m.top) y) (fun x hx h2 y hy => .step hx h2 hy) (fun st x hx h y hy => by
   rcases List.mem_append.1 hy with hy | hy
   ·exact h y hy
   ·obtain rfl : y = x := by simpa using hy
    exact hx) (fuelM m) (resR m (-1) m.top) ⟨[], []⟩ .root (by simp)
  exact this x
 ·intro h
  have haf := met_all hM.closed hM.cyc hin.ok
  have key : (x.1 = 2 → look (walkF (kidsM m) (fun st x => st ++ [x]) (fuelM m) (resR m (-1) m.top) ⟨[], []⟩).2.es x = 2) ∧ x ∈ (walkF (kidsM m) (fun st x => st ++ [x]) (fuelM m) (resR m (-1) m.top) ⟨[], []⟩).2.st := by
   induction h with
   | root =>
     refine ⟨haf.done, ?_⟩
     by_cases e : (resR m (-1) m.top).1 = 2
     ·exact (haf.inv.met _ (haf.done e)).1
     ·exact haf.leaf e
   | step h h2 hy ih =>
     obtain ⟨rank, hr⟩ := haf.inv.rank
     have hd := ih.1 h2
     refine ⟨fun e => (hr _ hd _ hy e).1, ?_⟩
     rename_i a b
     by_cases e : b.1 = 2
     ·exact (haf.inv.met _ (hr _ hd _ hy e).1).1
     ·exact (haf.inv.met _ hd).2 _ hy e
  exact key.2

inductive RI (us : List (List Int)) (f : Nat) : Nat → Prop
 | root : RI us f f
 | step {i : Nat} {k : Int} (h : RI us f i) (hk : k ∈ us.getD i []) : RI us f k.toNat

theorem markB_le {d : List Bool} {i : Nat} {k : Int} : LeD d (markB d i k) := by
 intro j h
 unfold markB
 rw [getD_set]
 split
 ·rename_i e; rw [e.1, h, Bool.true_or]
 ·exact h

theorem marksB_le {i : Nat} : ∀ (l : List Int) (d : List Bool), LeD d (marksB i l d)
 | [], d => .refl d
 | _ :: l, _ => markB_le.trans (marksB_le l _)

theorem passB_le : ∀ (us : List (List Int)) (i : Nat) (d : List Bool), LeD d (passB i us d)
 | [], _, d => .refl d
 | l :: us, i, d => (marksB_le l d).trans (passB_le us (i + 1) _)

theorem marks_in {i : Nat} : ∀ (l : List Int) (d : List Bool) (k : Int), k ∈ l → d.getD i false = true → k.toNat < d.length → (marksB i l d).getD k.toNat false = true
 | [], _, _, h, _, _ => by simp at h
 | x :: l, d, k, h, hd, hl => by
   simp only [marksB]
   rcases List.mem_cons.1 h with rfl | h
   ·refine marksB_le l _ _ ?_
    unfold markB
    rw [getD_set, if_pos ⟨rfl, hl⟩, hd, Bool.or_true]
   ·exact marks_in l _ k h (markB_le _ hd) (by rw [markB_len]; exact hl)

theorem pass_mark : ∀ (us : List (List Int)) (j : Nat) (d : List Bool) (i : Nat) (k : Int), k ∈ us.getD i [] → d.getD (j + i) false = true → k.toNat < d.length → (passB j us d).getD k.toNat false = true
 | [], _, _, _, _, h, _, _ => by simp at h
 | l :: us, j, d, 0, k, h, hd, hl => passB_le us (j + 1) _ _ (marks_in l d k (by simpa using h) hd hl)
 | l :: us, j, d, i + 1, k, h, hd, hl => pass_mark us (j + 1) _ i k (by simpa using h) (marksB_le l d _ (by rw [show j + 1 + i = j + (i + 1) by omega]; exact hd)) (by rw [marksB_len]; exact hl)

def ClosedB (us : List (List Int)) (d : List Bool) : Prop := ∀ i : Nat, d.getD i false = true → ∀ k ∈ us.getD i [], d.getD k.toNat false = true

theorem set_same {d : List Bool} {k : Nat} : d.set k (d.getD k false) = d := by
 by_cases h : k < d.length
 ·rw [getD_lt' h]; exact List.set_getElem_self h
 ·exact List.set_eq_of_length_le (by omega)

theorem marks_same {i : Nat} : ∀ (l : List Int) (d : List Bool), (d.getD i false = true → ∀ k ∈ l, d.getD k.toNat false = true) → marksB i l d = d
 | [], _, _ => rfl
 | k :: l, d, h => by
   have e : markB d i k = d := by
    unfold markB
    cases hi : d.getD i false
    ·rw [Bool.or_false]; exact set_same
    ·have := h hi k (by simp)
     rw [Bool.or_true]
     rw [← this]; exact set_same
   simp only [marksB]
   rw [e]
   exact marks_same l d fun hi k hk => h hi k (by simp [hk])

theorem pass_same : ∀ (us : List (List Int)) (j : Nat) (d : List Bool), (∀ i : Nat, d.getD (j + i) false = true → ∀ k ∈ us.getD i [], d.getD k.toNat false = true) → passB j us d = d
 | [], _, _, _ => rfl
 | l :: us, j, d, h => by
   simp only [passB]
   rw [marks_same l d (fun hi k hk => h 0 (by simpa using hi) k (by simpa using hk))]
   exact pass_same us (j + 1) d fun i hi k hk => h (i + 1) (by rw [show j + (i + 1) = j + 1 + i by omega]; exact hi) k (by simpa using hk)

theorem rounds_same {us : List (List Int)} {d : List Bool} (h : ClosedB us d) : ∀ r, roundsB us r d = d
 | 0 => rfl
 | r + 1 => by simp only [roundsB]; rw [pass_same us 0 d (fun i hi => h i (by rwa [Nat.zero_add] at hi))]; exact rounds_same h r

theorem rounds_closed {us : List (List Int)} (hus : ∀ i, ∀ k ∈ us.getD i [], k.toNat < us.length) : ∀ (r : Nat) (d : List Bool), d.length = us.length → d.count false ≤ r → ClosedB us (roundsB us r d)
 | 0, d, hd, h => by
   simp only [roundsB]
   intro i _ k hk
   have hk := hus i k hk
   have h0 : ¬ false ∈ d := List.count_eq_zero.1 (by omega)
   rw [getD_lt' (by omega)]
   have hm := List.getElem_mem (l := d) (n := k.toNat) (by omega)
   cases e : d[k.toNat]'(by omega)
   ·rw [e] at hm; exact absurd hm h0
   ·rfl
 | r + 1, d, hd, h => by
   by_cases hc : ClosedB us d
   ·rw [rounds_same hc]; exact hc
   simp only [roundsB]
   refine rounds_closed hus r _ (by rw [passB_len]; exact hd) ?_
   obtain ⟨h1, h2⟩ := cnt_lt d (passB 0 us d) (passB_len us 0 d).symm (passB_le us 0 d)
   have : ∃ i : Nat, d.getD i false = true ∧ ∃ k ∈ us.getD i [], ¬ d.getD k.toNat false = true := by
    apply Classical.byContradiction
    intro hn
    refine hc fun i hi k hk => ?_
    apply Classical.byContradiction
    intro hne
    exact hn ⟨i, hi, k, hk, hne⟩
   obtain ⟨i, hi, k, hk, hne⟩ := this
   have hkl := hus i k hk
   have := h2 ⟨k.toNat, by omega, by simpa using hne, pass_mark us 0 d i k hk (by rwa [Nat.zero_add]) (by omega)⟩
   omega

theorem below_closed {us : List (List Int)} (hus : ∀ i, ∀ k ∈ us.getD i [], k.toNat < us.length) (f : Nat) : ClosedB us (belowU us f) :=
 rounds_closed hus _ _ (by simp) (by have := List.count_le_length (a := false) (l := (List.replicate us.length false).set f true); simpa using this)

def AllRI (us : List (List Int)) (f : Nat) (d : List Bool) : Prop := ∀ j : Nat, d.getD j false = true → RI us f j

theorem marks_RI {us : List (List Int)} {f i : Nat} : ∀ (l : List Int) (d : List Bool), (∀ k ∈ l, k ∈ us.getD i []) → AllRI us f d → AllRI us f (marksB i l d)
 | [], _, _, h => h
 | k :: l, d, hl, h => by
   simp only [marksB]
   refine marks_RI l _ (fun k hk => hl k (by simp [hk])) fun j hj => ?_
   unfold markB at hj
   rw [getD_set] at hj
   split at hj
   ·rename_i e
    rw [← e.1]
    rw [Bool.or_eq_true] at hj
    rcases hj with g | g
    ·exact h _ g
    ·exact .step (h _ g) (hl k (by simp))
   ·exact h j hj

theorem pass_RI {us : List (List Int)} {f : Nat} : ∀ (l : List (List Int)) (i : Nat) (d : List Bool), us.drop i = l → AllRI us f d → AllRI us f (passB i l d)
 | [], _, _, _, h => h
 | x :: l, i, d, hl, h => by
   simp only [passB]
   have h1 : us[i]? = some x := by rw [← List.head?_drop, hl]; rfl
   have h2 : us.drop (i + 1) = l := by rw [← List.tail_drop, hl]; rfl
   exact pass_RI l (i + 1) _ h2 (marks_RI x d (fun k hk => by rw [List.getD_eq_getElem?_getD, h1]; exact hk) h)

theorem rounds_RI {us : List (List Int)} {f : Nat} : ∀ (r : Nat) (d : List Bool), AllRI us f d → AllRI us f (roundsB us r d)
 | 0, _, h => h
 | r + 1, d, h => by simp only [roundsB]; exact rounds_RI r _ (pass_RI us 0 d rfl h)

theorem rounds_le {us : List (List Int)} : ∀ (r : Nat) (d : List Bool), LeD d (roundsB us r d)
 | 0, d => .refl d
 | r + 1, d => by simp only [roundsB]; exact (passB_le us 0 d).trans (rounds_le r _)

theorem below_iff {us : List (List Int)} (hus : ∀ i, ∀ k ∈ us.getD i [], k.toNat < us.length) {f : Nat} (hf : f < us.length) (j : Nat) : (belowU us f).getD j false = true ↔ RI us f j := by
 constructor
 ·refine rounds_RI (us := us) us.length _ (fun j hj => ?_) j
  rw [getD_set] at hj
  split at hj
  ·rename_i e; rw [← e.1]; exact .root
  ·rw [List.getD_eq_getElem?_getD, List.getElem?_replicate] at hj
   split at hj <;> simp at hj
 ·intro h
  induction h with
  | root => exact rounds_le _ _ _ (by rw [getD_set, if_pos ⟨rfl, by simpa using hf⟩])
  | step h hk ih => exact below_closed hus f _ ih _ hk
end S

open Go Go.AL Go.Proofs
namespace S
set_option maxRecDepth 100000

theorem uses_nat {m : Md} : ∀ i, ∀ k ∈ (usesM m).getD i [], k.toNat < (usesM m).length := by
 intro i k hk
 by_cases h : i < (usesM m).length
 ·rw [getD_lt' h] at hk
  have := uses_lt _ (List.getElem_mem h) k hk
  omega
 ·rw [List.getD_eq_getElem?_getD, List.getElem?_eq_none (by omega)] at hk
  simp at hk

theorem num_inj {m : Md} {x y : Node} (hx : x ∈ allNodes m) (hy : y ∈ allNodes m) (h : (numR m x).toNat = (numR m y).toNat) : x = y := by
 obtain ⟨_, h1⟩ := num_get hx
 obtain ⟨_, h2⟩ := num_get hy
 rw [h, h2] at h1
 exact (Option.some.inj h1).symm

theorem mark_reach {m : Md} (hc : ClosedM m) {r : Node} (hr : r ∈ allNodes m) {y : Node} (hy : y ∈ allNodes m) : (belowU (usesM m) (numR m r).toNat).getD (numR m y).toNat false = true ↔ Reach m r y := by
 rw [below_iff uses_nat (numR_lt hr).2]
 constructor
 ·intro h
  have key : ∀ j, RI (usesM m) (numR m r).toNat j → ∃ z ∈ allNodes m, (numR m z).toNat = j ∧ Reach m r z := by
   intro j h
   induction h with
   | root => exact ⟨r, hr, rfl, .root⟩
   | step h hk ih =>
     obtain ⟨z, hz, e, hR⟩ := ih
     rw [← e, uses_get hz, uses_kids hc hz] at hk
     obtain ⟨w, hw, rfl⟩ := List.mem_map.1 hk
     obtain ⟨hw, h2⟩ := List.mem_filter.1 hw
     have hz2 := (mem_all.1 hz).1
     exact ⟨w, (okN_kids hc ((okN_kids hc (.inr (.inr hz)) hz2).2 w hw) (of_decide_eq_true h2)).1, rfl, .step hR hz2 hw⟩
  obtain ⟨z, hz, e, hR⟩ := key _ h
  rw [← num_inj hz hy e]; exact hR
 ·intro h
  have key : ∀ z, Reach m r z → z.1 = 2 → RI (usesM m) (numR m r).toNat (numR m z).toNat := by
   intro z h
   induction h with
   | root => intro _; exact .root
   | step h h2 hy ih =>
     rename_i a b
     intro hb
     have ha := (okN_kids hc (h.ok hc (.inr (.inr hr))) h2).1
     refine .step (ih h2) ?_
     rw [uses_get ha, uses_kids hc ha]
     exact List.mem_map.2 ⟨b, List.mem_filter.2 ⟨hy, by simpa using hb⟩, rfl⟩
  exact key y h (mem_all.1 hy).1

theorem evL_bit {m : Md} {a : Int} {i : Nat} : ∀ (l : List Str) (e : Nat), (evL m a l e).testBit i = true ↔ (e.testBit i = true ∨ ∃ s ∈ l, (findX m a s).1 = 0 ∧ (findX m a s).2.2.toNat = i)
 | [], e => by simp [evL]
 | s :: l, e => by
   simp only [evL]
   rw [evL_bit l]
   by_cases h : (findX m a s).1 = 0
   ·rw [if_pos h, Nat.testBit_or, Nat.testBit_two_pow]
    simp only [Bool.or_eq_true, decide_eq_true_eq, List.mem_cons, exists_eq_or_imp]
    constructor
    ·rintro ((h1 | h1) | h1)
     ·exact .inl h1
     ·exact .inr (.inl ⟨h, h1⟩)
     ·exact .inr (.inr h1)
    ·rintro (h1 | h1 | h1)
     ·exact .inl (.inl h1)
     ·exact .inl (.inr h1.2)
     ·exact .inr h1
   ·rw [if_neg h]
    simp only [List.mem_cons, exists_eq_or_imp]
    constructor
    ·rintro (h1 | h1)
     ·exact .inl h1
     ·exact .inr (.inr h1)
    ·rintro (h1 | h1 | h1)
     ·exact .inl h1
     ·exact absurd h1.1 h
     ·exact .inr h1

theorem needs_fold {m : Md} {F : List Bool} {i : Nat} : ∀ (l : List Node) (p : Nat × Bool),
  (((l.foldl (stepN m F) p).1.testBit i = true ↔ (p.1.testBit i = true ∨ ∃ y ∈ l, F.getD (numR m y).toNat false = true ∧ ∃ s ∈ (gateAt m y).ins, (findX m y.2.1 s).1 = 0 ∧ (findX m y.2.1 s).2.2.toNat = i)) ∧
  ((l.foldl (stepN m F) p).2 = true ↔ (p.2 = true ∨ ∃ y ∈ l, F.getD (numR m y).toNat false = true ∧ dynG (gateAt m y) = true)))
 | [], p => by simp
 | y :: l, p => by
   obtain ⟨h1, h2⟩ := needs_fold (i := i) l (stepN m F p y)
   simp only [List.foldl_cons]
   rw [h1, h2]
   simp only [List.mem_cons, exists_eq_or_imp]
   by_cases h : F.getD (numR m y).toNat false = true
   ·have e : stepN m F p y = (evL m y.2.1 (gateAt m y).ins p.1, p.2 || dynG (gateAt m y)) := if_pos h
    rw [e]
    dsimp only
    rw [evL_bit, Bool.or_eq_true]
    simp only [h, true_and, or_assoc, and_self]
   ·have e : stepN m F p y = p := if_neg h
    rw [e]
    simp only [h, false_and, false_or, and_self, Bool.false_eq_true]

theorem dyn_kind {m : Md} (hM : MOk m) {y : Node} (hy : y ∈ allNodes m) : dynG (gateAt m y) = decide (6 ≤ (gateAt m y).kind) := by
 obtain ⟨_, h2, h3, h4⟩ := mem_all.1 hy
 have hk : y.2.2.toNat < (gatesM m y.2.1).length := by omega
 have ho := (hM.gate h2 hk).own
 have e : gateAt m y = (gatesM m y.2.1)[y.2.2.toNat] := by unfold gateAt; exact getD_lt' hk
 rw [← e] at ho
 generalize gateAt m y = g at *
 unfold mgErr at ho
 split at ho
 ·cases ho
 split at ho
 ·cases ho
 rename_i h5 h6
 unfold dynG
 by_cases h7 : 6 ≤ g.kind
 ·rw [decide_eq_true h7]
  have : g.kind = 6 ∨ g.kind = 7 ∨ g.kind = 8 := by omega
  rcases this with e | e | e <;> simp [e]
 ·rw [decide_eq_false h7, decide_eq_false (by omega), decide_eq_false (by omega), decide_eq_false (by omega)]; rfl

theorem needs_eq {m : Md} (hM : MOk m) : needsR m (findX m (-1) m.top) = (usedR m, dynR m) := by
 obtain ⟨he, _⟩ := findX_in hM (.inl rfl) hM.top
 have hok := (hM.inOk (.inl rfl) hM.top).ok
 have hv := visited_reach hM
 have hev := hM.lens.1
 have hc := hM.closed
 rw [he]
 have hu : ∀ i, (usedR m).testBit i = true ↔ ∃ x ∈ visitedM m, x.1 = 0 ∧ x.2.2.toNat < 24 ∧ x.2.2.toNat = i := fun i => bitsV_bit _ i
 have hd : dynR m = true ↔ ∃ x ∈ visitedM m, x.1 = 2 ∧ 6 ≤ (gateAt m x).kind := by
  unfold dynR dynV
  rw [List.any_eq_true]
  simp only [Bool.and_eq_true, decide_eq_true_eq]
 generalize visitedM m = V at *
 generalize usedR m = U at *
 generalize dynR m = D at *
 generalize resR m (-1) m.top = r at *
 have h24 : ∀ x, okN m x → x.1 = 0 → x.2.2.toNat < 24 := by
  intro x hx h0
  rcases hx with h | h | h
  ·omega
  ·omega
  ·have := (mem_all.1 h).1; omega
 have fin : ∀ (A : Nat) (B : Bool), (∀ i, A.testBit i = true ↔ U.testBit i = true) → (B = true ↔ D = true) → (A, B) = (U, D) := by
  intro A B h1 h2
  rw [Nat.eq_of_testBit_eq fun i => Bool.eq_iff_iff.2 (h1 i), Bool.eq_iff_iff.2 h2]
 unfold needsR
 by_cases k0 : r.1 = 0
 ·rw [if_pos k0]
  refine fin _ _ (fun i => ?_) ?_
  ·rw [hu, Nat.testBit_two_pow, decide_eq_true_eq]
   constructor
   ·intro h
    exact ⟨r, (hv r).2 .root, k0, h24 r hok k0, h⟩
   ·rintro ⟨x, hx, _, _, h⟩
    rw [((hv x).1 hx).leaf (by omega)] at h
    exact h
  ·rw [hd]
   constructor
   ·intro h; cases h
   ·rintro ⟨x, hx, h, _⟩
    rw [((hv x).1 hx).leaf (by omega)] at h
    omega
 rw [if_neg k0]
 by_cases k1 : r.1 = 1
 ·rw [if_pos k1]
  refine fin _ _ (fun i => ?_) ?_
  ·rw [hu]
   constructor
   ·intro h; simp at h
   ·rintro ⟨x, hx, h, _⟩
    rw [((hv x).1 hx).leaf (by omega)] at h
    omega
  ·rw [hd]
   constructor
   ·intro h; cases h
   ·rintro ⟨x, hx, h, _⟩
    rw [((hv x).1 hx).leaf (by omega)] at h
    omega
 rw [if_neg k1]
 have hr : r ∈ allNodes m := by
  rcases hok with h | h | h
  ·omega
  ·omega
  ·exact h
 have hmr := fun y (hy : y ∈ allNodes m) => mark_reach hc hr hy
 generalize belowU (usesM m) (numR m r).toNat = F at *
 refine fin _ _ (fun i => ?_) ?_
 ·rw [hu]
  rw [(needs_fold (allNodes m) (0, false)).1]
  constructor
  ·rintro (h | ⟨y, hy, hF, s, hs, h0, hi⟩)
   ·simp at h
   ·have hR := (hmr y hy).1 hF
    have e := find_res (hc y hy s hs).2.2 (hc y hy s hs).2.1
    rw [e] at h0 hi
    have hk : resR m y.2.1 s ∈ kidsM m y := List.mem_map.2 ⟨s, hs, rfl⟩
    exact ⟨_, (hv _).2 (.step hR (mem_all.1 hy).1 hk), h0, h24 _ (hc y hy s hs).2.2 h0, hi⟩
  ·rintro ⟨x, hx, h0, _, hi⟩
   refine .inr ?_
   have hR := (hv x).1 hx
   cases hR with
   | root => omega
   | step h h2 hy =>
     rename_i y
     have hya := (okN_kids hc (h.ok hc hok) h2).1
     obtain ⟨s, hs, rfl⟩ := List.mem_map.1 hy
     have e := find_res (hc y hya s hs).2.2 (hc y hya s hs).2.1
     exact ⟨y, hya, (hmr y hya).2 h, s, hs, by rw [e]; exact h0, by rw [e]; exact hi⟩
 ·rw [hd]
  rw [(needs_fold (i := 0) (allNodes m) (0, false)).2]
  constructor
  ·rintro (h | ⟨y, hy, hF, h0⟩)
   ·cases h
   ·rw [dyn_kind hM hy] at h0
    exact ⟨y, (hv y).2 ((hmr y hy).1 hF), (mem_all.1 hy).1, of_decide_eq_true h0⟩
  ·rintro ⟨x, hx, h2, h6⟩
   have hR := (hv x).1 hx
   have hxa := (okN_kids hc (hR.ok hc hok) h2).1
   exact .inr ⟨x, hxa, (hmr x hxa).2 hR, by rw [dyn_kind hM hxa]; exact decide_eq_true h6⟩

end S

open Go Go.AL Go.Proofs
namespace S
set_option maxRecDepth 100000

theorem stat_dyn {m : Md} (hM : MOk m) {y : Node} (hy : y ∈ allNodes m) : statK (gateAt m y).kind = !dynG (gateAt m y) := by
 obtain ⟨_, h2, h3, h4⟩ := mem_all.1 hy
 have hk : y.2.2.toNat < (gatesM m y.2.1).length := by omega
 have ho := (hM.gate h2 hk).own
 have e : gateAt m y = (gatesM m y.2.1)[y.2.2.toNat] := by unfold gateAt; exact getD_lt' hk
 rw [← e] at ho
 generalize gateAt m y = g at *
 unfold mgErr at ho
 split at ho
 ·cases ho
 split at ho
 ·cases ho
 rename_i h5 h6
 have : g.kind = 0 ∨ g.kind = 1 ∨ g.kind = 2 ∨ g.kind = 3 ∨ g.kind = 4 ∨ g.kind = 5 ∨ g.kind = 6 ∨ g.kind = 7 ∨ g.kind = 8 := by omega
 unfold statK dynG
 rcases this with e | e | e | e | e | e | e | e | e <;> simp [e]

theorem Reach.trans {m : Md} {x y z : Node} (h : Reach m x y) (g : Reach m y z) : Reach m x z := by
 induction g with
 | root => exact h
 | step _ h2 hy ih => exact ih.step h2 hy

theorem comp_err {m : Md} (hc : ClosedM m) {rank : Node → Nat} (hr : RankM m rank) (vars : Int) : ∀ (n : Nat) (x : Node) (st : CS), okN m x → lvl rank x < n → (compN m vars n x st).1.1 = true →
  ∃ y, Reach m x y ∧ y ∈ allNodes m ∧ statK (gateAt m y).kind = false
 | 0, _, _, _, h, _ => by omega
 | n + 1, x, st, hx, hn, h => by
   unfold compN at h
   split at h
   ·cases h
   rename_i h0
   split at h
   ·cases h
   split at h
   ·cases h
   rename_i h1
   have h2 : x.1 = 2 := by
    rcases hx with h | h | h
    ·omega
    ·omega
    ·exact (mem_all.1 h).1
   obtain ⟨hxa, hk⟩ := okN_kids hc hx h2
   split at h
   ·exact ⟨x, .root, hxa, by assumption⟩
   split at h
   ·rename_i he
    have hlv : rank x < n := by unfold lvl at hn; rw [if_pos h2] at hn; omega
    have key : ∀ (l : List Node) (s : CS) (acc : List Int), (∀ y ∈ l, y ∈ kidsM m x) → (compL (compN m vars n) l s acc).1.1 = true → ∃ y ∈ kidsM m x, ∃ s, (compN m vars n y s).1.1 = true := by
     intro l
     induction l with
     | nil => intro s acc _ h; cases h
     | cons y l ih =>
       intro s acc hl h
       unfold compL at h
       split at h
       ·exact ⟨y, hl y (by simp), s, by assumption⟩
       ·exact ih _ _ (fun z hz => hl z (by simp [hz])) h
    obtain ⟨y, hy, s, hs⟩ := key _ _ _ (fun _ h => h) he
    have hly : lvl rank y < n := by
     unfold lvl
     split
     ·rename_i e; have := hr x hx h2 y hy e; omega
     ·omega
    obtain ⟨z, hz1, hz2, hz3⟩ := comp_err hc hr vars n y s (hk y hy) hly hs
    exact ⟨z, (Reach.root.step h2 hy).trans hz1, hz2, hz3⟩
   ·cases h

def GoodS (m : Md) (st : CS) : Prop := ∀ z : Node, lookO st.es z ≠ none → z.1 = 2 → statK (gateAt m z).kind = true ∧ ∀ y ∈ kidsM m z, y.1 = 0 ∨ lookO st.es y ≠ none
def Done (st : CS) (x : Node) : Prop := x.1 = 0 ∨ lookO st.es x ≠ none
def LeS (s t : CS) : Prop := ∀ z, lookO s.es z ≠ none → lookO t.es z ≠ none

theorem comp_good {m : Md} (vars : Int) : ∀ (n : Nat) (x : Node) (st : CS), GoodS m st → (compN m vars n x st).1.1 = false → GoodS m (compN m vars n x st).2 ∧ Done (compN m vars n x st).2 x ∧ LeS st (compN m vars n x st).2
 | 0, _, _, _, h => by cases h
 | n + 1, x, st, hg, h => by
   have push : ∀ {s : CS} (nd : Nd), GoodS m s → LeS st s → (x.1 = 2 → statK (gateAt m x).kind = true ∧ ∀ y ∈ kidsM m x, Done s y) → GoodS m (pushN vars s x nd).2 ∧ Done (pushN vars s x nd).2 x ∧ LeS st (pushN vars s x nd).2 := by
    intro s nd h1 h2 h3
    have mono : LeS s (pushN vars s x nd).2 := by
     intro z hz
     show lookO (mark s.es x _) z ≠ none
     rw [lookO_mark]
     split
     ·simp
     ·exact hz
    refine ⟨fun z hz hz2 => ?_, .inr ?_, fun z hz => mono z (h2 z hz)⟩
    ·have hz : lookO (mark s.es x (vars + s.nodes.length)) z ≠ none := hz
     rw [lookO_mark] at hz
     by_cases e : x = z
     ·subst e
      obtain ⟨k1, k2⟩ := h3 hz2
      exact ⟨k1, fun y hy => (k2 y hy).imp id (mono y)⟩
     ·rw [if_neg e] at hz
      obtain ⟨k1, k2⟩ := h1 z hz hz2
      exact ⟨k1, fun y hy => (k2 y hy).imp id (mono y)⟩
    ·show lookO (mark s.es x _) x ≠ none
     rw [lookO_mark, if_pos rfl]; simp
   unfold compN at h ⊢
   split
   ·rename_i h0; exact ⟨hg, .inl h0, fun _ h => h⟩
   rename_i h0
   rw [if_neg h0] at h
   split
   ·rename_i a ha; exact ⟨hg, .inr (by rw [ha]; simp), fun _ h => h⟩
   rename_i hn
   simp only [hn] at h
   split
   ·rename_i h1; exact push _ hg (fun _ h => h) (fun e => by omega)
   rename_i h1
   rw [if_neg h1] at h
   split
   ·rename_i hs; rw [if_pos hs] at h; cases h
   rename_i hs
   rw [if_neg hs] at h
   have key : ∀ (l : List Node) (s : CS) (acc : List Int), GoodS m s → (compL (compN m vars n) l s acc).1.1 = false → GoodS m (compL (compN m vars n) l s acc).2 ∧ (∀ y ∈ l, Done (compL (compN m vars n) l s acc).2 y) ∧ LeS s (compL (compN m vars n) l s acc).2 := by
    intro l
    induction l with
    | nil => intro s acc h _; exact ⟨h, by simp, fun _ h => h⟩
    | cons y l ih =>
      intro s acc h he
      unfold compL at he ⊢
      split
      ·rename_i hb; rw [if_pos hb] at he; cases he
      ·rename_i hb
       rw [if_neg hb] at he
       obtain ⟨g1, g2, g3⟩ := comp_good vars n y s h (by simpa using hb)
       obtain ⟨i1, i2, i3⟩ := ih _ _ g1 he
       refine ⟨i1, fun z hz => ?_, fun z hz => i3 z (g3 z hz)⟩
       rcases List.mem_cons.1 hz with rfl | hz
       ·exact g2.imp id (i3 z)
       ·exact i2 z hz
   split
   ·rename_i he; rw [if_pos he] at h; cases h
   ·rename_i he
    obtain ⟨k1, k2, k3⟩ := key _ _ _ hg (by simpa using he)
    exact push _ k1 k3 fun _ => ⟨by simpa using hs, k2⟩

theorem comp_static {m : Md} {vars : Int} {n : Nat} {x : Node} (h : (compN m vars n x ⟨[], []⟩).1.1 = false) : ∀ y, Reach m x y → y.1 = 2 → statK (gateAt m y).kind = true := by
 obtain ⟨h1, h2, _⟩ := comp_good (m := m) vars n x ⟨[], []⟩ (fun z hz => by simp [lookO] at hz) h
 have key : ∀ y, Reach m x y → Done (compN m vars n x ⟨[], []⟩).2 y := by
  intro y hy
  induction hy with
  | root => exact h2
  | step _ hk hy ih =>
    rcases ih with e | e
    ·omega
    ·exact (h1 _ e hk).2 _ hy
 intro y hy e
 rcases key y hy with k | k
 ·omega
 ·exact (h1 y k e).1

theorem comp_needs {m : Md} (hM : MOk m) {s : Str} (hs : isInR m (-1) s = true) : (compTop m s).1.1 = (needsR m (findX m (-1) s)).2 := by
 obtain ⟨he, _⟩ := findX_in hM (.inl rfl) hs
 have hok := (hM.inOk (.inl rfl) hs).ok
 have hc := hM.closed
 obtain ⟨rank, hr, hb⟩ := hM.rank
 rw [he]
 unfold compTop
 generalize resR m (-1) s = x at *
 have hiff : (compN m m.evs.length (fuelC m) x ⟨[], []⟩).1.1 = true ↔ ∃ y, Reach m x y ∧ y ∈ allNodes m ∧ dynG (gateAt m y) = true := by
  constructor
  ·intro h
   obtain ⟨y, h1, h2, h3⟩ := comp_err hc hr _ _ x _ hok (hb x) h
   refine ⟨y, h1, h2, ?_⟩
   rw [stat_dyn hM h2] at h3
   simpa using h3
  ·rintro ⟨y, h1, h2, h3⟩
   cases h : (compN m m.evs.length (fuelC m) x ⟨[], []⟩).1.1 with
   | true => rfl
   | false =>
     have := comp_static h y h1 (mem_all.1 h2).1
     rw [stat_dyn hM h2, h3] at this
     cases this
 rw [Bool.eq_iff_iff, hiff]
 unfold needsR
 by_cases h0 : x.1 = 0
 ·rw [if_pos h0]
  refine ⟨fun ⟨y, h1, h2, _⟩ => ?_, fun h => by cases h⟩
  have := h1.leaf (by omega)
  subst this
  have := (mem_all.1 h2).1
  omega
 rw [if_neg h0]
 by_cases h1 : x.1 = 1
 ·rw [if_pos h1]
  refine ⟨fun ⟨y, h2, h3, _⟩ => ?_, fun h => by cases h⟩
  have := h2.leaf (by omega)
  subst this
  have := (mem_all.1 h3).1
  omega
 rw [if_neg h1]
 have hx : x ∈ allNodes m := by
  rcases hok with h | h | h
  ·omega
  ·omega
  ·exact h
 unfold needsG
 rw [(needs_fold (i := 0) (allNodes m) (0, false)).2]
 constructor
 ·rintro ⟨y, h2, h3, h4⟩
  exact .inr ⟨y, h3, (mark_reach hc hx h3).2 h2, h4⟩
 ·rintro (h | ⟨y, h2, h3, h4⟩)
  ·cases h
  ·exact ⟨y, (mark_reach hc hx h2).1 h3, h2, h4⟩
end S

open Go Go.AL Go.Proofs
namespace S
set_option maxRecDepth 100000

def argN (st : CS) (z : Node) : Int := if z.1 = 0 then z.2.2 else (lookO st.es z).getD 0
def LeV (s t : CS) : Prop := ∀ z v, lookO s.es z = some v → lookO t.es z = some v

structure BInv (m : Md) (vars : Nat) (st : CS) : Prop where
 val : ∀ z v, lookO st.es z = some v → z.1 ≠ 0 ∧ ∃ j, j < st.nodes.length ∧ v = (vars : Int) + (j : Nat) ∧ argsAt st.nodes j = (if z.1 = 2 then (kidsM m z).map (argN st) else []) ∧ (z.1 = 2 → ∀ y ∈ kidsM m z, Done st y)
 all : ∀ j : Nat, j < st.nodes.length → ∃ z, lookO st.es z = some ((vars : Int) + j)

theorem LeV.done {s t : CS} (h : LeV s t) {z : Node} (hd : Done s z) : Done t z ∧ argN t z = argN s z := by
 rcases hd with e | e
 ·exact ⟨.inl e, by unfold argN; rw [if_pos e, if_pos e]⟩
 ·cases hl : lookO s.es z with
  | none => exact absurd hl e
  | some v =>
    have := h z v hl
    refine ⟨.inr (by rw [this]; simp), ?_⟩
    unfold argN
    rw [hl, this]

theorem BInv.nil (m : Md) (vars : Nat) : BInv m vars ⟨[], []⟩ := ⟨fun z v h => (by cases h), fun j h => (by simp at h)⟩

theorem argsAt_app {l r : List Nd} {j : Nat} (h : j < l.length) : argsAt (l ++ r) j = argsAt l j := by
 unfold argsAt
 rw [List.getD_eq_getElem?_getD, List.getD_eq_getElem?_getD, List.getElem?_append_left h]

theorem BInv.push {m : Md} {vars : Nat} {s : CS} {x : Node} {nd : Nd} (h : BInv m vars s) (hx0 : x.1 ≠ 0) (hn : lookO s.es x = none) (ha : nd.args = if x.1 = 2 then (kidsM m x).map (argN s) else [])
  (hd : x.1 = 2 → ∀ y ∈ kidsM m x, Done s y) : BInv m vars (pushN vars s x nd).2 ∧ LeV s (pushN vars s x nd).2 := by
 have hle : LeV s (pushN vars s x nd).2 := by
  intro z v hz
  show lookO (mark s.es x _) z = some v
  rw [lookO_mark]
  split
  ·rename_i e; subst e; rw [hn] at hz; cases hz
  ·exact hz
 have hmap : ∀ z : Node, (z.1 = 2 → ∀ y ∈ kidsM m z, Done s y) → (if z.1 = 2 then (kidsM m z).map (argN s) else []) = (if z.1 = 2 then (kidsM m z).map (argN (pushN vars s x nd).2) else []) := by
  intro z hz
  split
  ·rename_i e
   exact List.map_congr_left fun y hy => (hle.done (hz e y hy)).2.symm
  ·rfl
 refine ⟨⟨fun z v hz => ?_, fun j hj => ?_⟩, hle⟩
 ·replace hz : lookO (mark s.es x ((vars : Int) + (s.nodes.length : Int))) z = some v := hz
  rw [lookO_mark] at hz
  split at hz
  ·rename_i e
   subst e
   obtain rfl := Option.some.inj hz
   refine ⟨hx0, s.nodes.length, ?_, rfl, ?_, fun e y hy => (hle.done (hd e y hy)).1⟩
   ·show s.nodes.length < (s.nodes ++ [nd]).length
    simp
   ·rw [← hmap _ hd, ← ha]
    show argsAt (s.nodes ++ [nd]) _ = _
    unfold argsAt
    rw [List.getD_eq_getElem?_getD, List.getElem?_append_right (Nat.le_refl _)]
    simp
  ·obtain ⟨k1, j, k2, k3, k4, k5⟩ := h.val z v hz
   refine ⟨k1, j, ?_, k3, ?_, fun e y hy => (hle.done (k5 e y hy)).1⟩
   ·show j < (s.nodes ++ [nd]).length
    simp; omega
   ·rw [← hmap _ k5, ← k4]
    exact argsAt_app k2
 ·have hj : j < (s.nodes ++ [nd]).length := hj
  by_cases e : j < s.nodes.length
  ·obtain ⟨z, hz⟩ := h.all j e
   exact ⟨z, hle z _ hz⟩
  ·refine ⟨x, ?_⟩
   show lookO (mark s.es x ((vars : Int) + (s.nodes.length : Int))) x = _
   rw [lookO_mark, if_pos rfl]
   simp at hj
   rw [show j = s.nodes.length by omega]

structure BOut (m : Md) (vars : Nat) (x : Node) (st : CS) (r : (Bool × Int) × CS) : Prop where
 inv : BInv m vars r.2
 done : Done r.2 x
 res : r.1.2 = argN r.2 x
 le : LeV st r.2
 new : ∀ z, lookO r.2.es z ≠ none → lookO st.es z ≠ none ∨ Reach m x z

theorem LeV.refl (s : CS) : LeV s s := fun _ _ h => h
theorem LeV.trans {a b c : CS} (h : LeV a b) (g : LeV b c) : LeV a c := fun z v e => g z v (h z v e)

theorem comp_bel {m : Md} (hc : ClosedM m) {rank : Node → Nat} (hr : RankM m rank) (vars : Nat) : ∀ (n : Nat) (x : Node) (st : CS), okN m x → CInv m st → BInv m vars st → (compN m vars n x st).1.1 = false → BOut m vars x st (compN m vars n x st)
 | 0, _, _, _, _, _, h => by cases h
 | n + 1, x, st, hx, hC, hI, h => by
   have push : ∀ {s : CS} (nd : Nd), BInv m vars s → x.1 ≠ 0 → lookO s.es x = none → LeV st s → (∀ z, lookO s.es z ≠ none → lookO st.es z ≠ none ∨ Reach m x z) → nd.args = (if x.1 = 2 then (kidsM m x).map (argN s) else []) →
     (x.1 = 2 → ∀ y ∈ kidsM m x, Done s y) → BOut m vars x st (pushN vars s x nd) := by
    intro s nd h1 h2 h3 h4 h5 h6 h7
    obtain ⟨k1, k2⟩ := h1.push (nd := nd) h2 h3 h6 h7
    have hl : lookO (pushN vars s x nd).2.es x = some ((vars : Int) + (s.nodes.length : Int)) := by
     show lookO (mark s.es x _) x = _
     rw [lookO_mark, if_pos rfl]
    refine ⟨k1, .inr (by rw [hl]; simp), ?_, h4.trans k2, fun z hz => ?_⟩
    ·unfold argN
     rw [if_neg h2, hl]; rfl
    ·have hz : lookO (mark s.es x ((vars : Int) + (s.nodes.length : Int))) z ≠ none := hz
     rw [lookO_mark] at hz
     split at hz
     ·rename_i e; subst e; exact .inr .root
     ·exact h5 z hz
   unfold compN at h ⊢
   split
   ·rename_i h0
    exact ⟨hI, .inl h0, by unfold argN; rw [if_pos h0], .refl _, fun _ h => .inl h⟩
   rename_i h0
   rw [if_neg h0] at h
   split
   ·rename_i a ha
    exact ⟨hI, .inr (by rw [ha]; simp), by unfold argN; rw [if_neg h0, ha]; rfl, .refl _, fun _ h => .inl h⟩
   rename_i hn
   simp only [hn] at h
   split
   ·rename_i h1
    exact push _ hI h0 hn (.refl _) (fun _ h => .inl h) (if_neg (fun e : x.1 = 2 => by omega)).symm (fun e => by omega)
   rename_i h1
   rw [if_neg h1] at h
   have h2 : x.1 = 2 := by
    rcases hx with h | h | h
    ·omega
    ·omega
    ·exact (mem_all.1 h).1
   have hx2 := h2
   obtain ⟨_, hk⟩ := okN_kids hc hx h2
   split
   ·rename_i hs; rw [if_pos hs] at h; cases h
   rename_i hs
   rw [if_neg hs] at h
   have key : ∀ (l : List Node) (s : CS) (acc : List Int) (pre : List Node), (∀ y ∈ l, y ∈ kidsM m x) → CInv m s → BInv m vars s → lookO s.es x = none → LeV st s → (∀ z, lookO s.es z ≠ none → lookO st.es z ≠ none ∨ Reach m x z) → (∀ y ∈ pre, Done s y) → acc = pre.map (argN s) →
     (compL (compN m vars n) l s acc).1.1 = false → BInv m vars (compL (compN m vars n) l s acc).2 ∧ lookO (compL (compN m vars n) l s acc).2.es x = none ∧ LeV st (compL (compN m vars n) l s acc).2 ∧ (∀ z, lookO (compL (compN m vars n) l s acc).2.es z ≠ none → lookO st.es z ≠ none ∨ Reach m x z) ∧
      (∀ y ∈ pre ++ l, Done (compL (compN m vars n) l s acc).2 y) ∧ (compL (compN m vars n) l s acc).1.2 = (pre ++ l).map (argN (compL (compN m vars n) l s acc).2) := by
    intro l
    induction l with
    | nil => intro s acc pre _ _ h1 h2 h3 h4 h5 h6 _; exact ⟨h1, h2, h3, h4, fun y hy => h5 y (by simpa using hy), by simpa [compL] using h6⟩
    | cons y l ih =>
      intro s acc pre hl c1 h1 h2 h3 h4 h5 h6 he
      unfold compL at he ⊢
      split
      ·rename_i hb; rw [if_pos hb] at he; cases he
      ·rename_i hb
       rw [if_neg hb] at he
       have hy := hl y (by simp)
       have g := comp_bel hc hr vars n y s (hk y hy) c1 h1 (by simpa using hb)
       obtain ⟨c2, c3⟩ := comp_inv hc hr vars n y s (hk y hy) c1
       obtain ⟨i1, i2, i3, i4, i5, i6⟩ := ih _ (acc ++ [(compN m vars n y s).1.2]) (pre ++ [y]) (fun z hz => hl z (by simp [hz])) c2 g.inv (c3 x hx2 (fun e => hr x hx hx2 y hy e) h2) (h3.trans g.le) (fun z hz => by
        rcases g.new z hz with e | e
        ·exact h4 z e
        ·exact .inr ((Reach.root.step hx2 hy).trans e)) (fun z hz => by
        rcases List.mem_append.1 hz with hz | hz
        ·exact (g.le.done (h5 z hz)).1
        ·simp at hz; subst hz; exact g.done) (by
        rw [List.map_append, h6, g.res]
        congr 1
        exact List.map_congr_left fun z hz => (g.le.done (h5 z hz)).2.symm) he
       exact ⟨i1, i2, i3, i4, by simpa using i5, by simpa using i6⟩
   split
   ·rename_i he; rw [if_pos he] at h; cases h
   ·rename_i he
    obtain ⟨i1, i2, i3, i4, i5, i6⟩ := key _ st [] [] (fun _ h => h) hC hI hn (.refl _) (fun _ h => .inl h) (by simp) rfl (by simpa using he)
    refine push _ i1 h0 i2 i3 i4 ?_ (fun _ => by simpa using i5)
    rw [if_pos h2]
    simpa using i6

theorem top_bel {m : Md} (hM : MOk m) {s : Str} (hs : isInR m (-1) s = true) (he : (compTop m s).1.1 = false) :
  (∀ j, j < (compTop m s).2.nodes.length → Bel m.evs.length (compTop m s).2.nodes (compTop m s).1.2.toNat (m.evs.length + j)) ∧
  ∀ i, i < m.evs.length → (Bel m.evs.length (compTop m s).2.nodes (compTop m s).1.2.toNat i ↔ Reach m (resR m (-1) s) (0, 0, (i : Int))) := by
 have hok := (hM.inOk (.inl rfl) hs).ok
 obtain ⟨rank, hr, _⟩ := hM.rank
 have hb := comp_bel hM.closed hr m.evs.length (fuelC m) _ ⟨[], []⟩ hok (.nil m) (.nil m _) he
 have hres : (compTop m s).1.2 = argN (compTop m s).2 (resR m (-1) s) := hb.res
 obtain ⟨hI, hD, _, _, hN⟩ := hb
 change BInv m _ (compTop m s).2 at hI
 change Done (compTop m s).2 _ at hD
 change ∀ z, lookO (compTop m s).2.es z ≠ none → _ at hN
 rw [hres]
 generalize (compTop m s).2 = st at *
 generalize resR m (-1) s = x at *
 have fwd : ∀ y, Reach m x y → Done st y ∧ Bel m.evs.length st.nodes (argN st x).toNat (argN st y).toNat := by
  intro y hy
  induction hy with
  | root => exact ⟨hD, .root⟩
  | step h0 h2 hy ih =>
    rename_i a b
    obtain ⟨i1, i2⟩ := ih
    rcases i1 with e | e
    ·omega
    ·cases hl : lookO st.es a with
     | none => exact absurd hl e
     | some v =>
       obtain ⟨k1, j, k2, k3, k4, k5⟩ := hI.val a v hl
       have hav : argN st a = v := by unfold argN; rw [if_neg k1, hl]; rfl
       rw [hav, k3, show ((m.evs.length : Int) + (j : Nat)).toNat = m.evs.length + j by omega] at i2
       refine ⟨k5 h2 b hy, i2.step k2 ?_⟩
       rw [k4, if_pos h2]
       exact List.mem_map.2 ⟨b, hy, rfl⟩
 have bwd : ∀ k, Bel m.evs.length st.nodes (argN st x).toNat k → ∃ z, Reach m x z ∧ (argN st z).toNat = k := by
  intro k hk
  induction hk with
  | root => exact ⟨x, .root, rfl⟩
  | step h0 hi ha ih =>
    rename_i i a
    obtain ⟨z, z1, z2⟩ := ih
    have hzo := z1.ok hM.closed hok
    rcases (fwd z z1).1 with e | e
    ·unfold argN at z2
     rw [if_pos e] at z2
     rcases hzo with h | h | h
     ·omega
     ·omega
     ·have := (mem_all.1 h).1; omega
    ·cases hl : lookO st.es z with
     | none => exact absurd hl e
     | some v =>
       obtain ⟨k1, j, k2, k3, k4, k5⟩ := hI.val z v hl
       have hav : argN st z = v := by unfold argN; rw [if_neg k1, hl]; rfl
       rw [hav, k3] at z2
       obtain rfl : j = i := by omega
       rw [k4] at ha
       split at ha
       ·rename_i h2
        obtain ⟨y, hy, rfl⟩ := List.mem_map.1 ha
        exact ⟨y, z1.step h2 hy, rfl⟩
       ·simp at ha
 refine ⟨fun j hj => ?_, fun i hi => ⟨fun h => ?_, fun h => ?_⟩⟩
 ·obtain ⟨z, hz⟩ := hI.all j hj
  have hre : Reach m x z := by
   rcases hN z (by rw [hz]; simp) with e | e
   ·exact absurd rfl e
   ·exact e
  have := (fwd z hre).2
  have hav : argN st z = (m.evs.length : Int) + j := by unfold argN; rw [if_neg (hI.val z _ hz).1, hz]; rfl
  rwa [hav, show ((m.evs.length : Int) + (j : Nat)).toNat = m.evs.length + j by omega] at this
 ·obtain ⟨z, z1, z2⟩ := bwd i h
  have hzo := z1.ok hM.closed hok
  by_cases h0 : z.1 = 0
  ·unfold argN at z2
   rw [if_pos h0] at z2
   rcases hzo with h | h | h
   ·obtain ⟨a, b, c⟩ := z
    dsimp only at h z2 h0
    obtain ⟨h1, h2, h3, h4⟩ := h
    subst h1 h2
    rw [show (i : Int) = c by omega]
    exact z1
   ·omega
   ·have := (mem_all.1 h).1; omega
  ·rcases (fwd z z1).1 with e | e
   ·exact absurd e h0
   ·cases hl : lookO st.es z with
    | none => exact absurd hl e
    | some v =>
      obtain ⟨k1, j, k2, k3, k4, k5⟩ := hI.val z v hl
      have hav : argN st z = v := by unfold argN; rw [if_neg k1, hl]; rfl
      rw [hav] at z2
      omega
 ·have := (fwd _ h).2
  rwa [show argN st (0, 0, (i : Int)) = (i : Int) from if_pos rfl, Int.toNat_natCast] at this
end S

open Go Go.AL Go.Proofs
namespace S
set_option maxRecDepth 100000

def evalG (g : Mg) (n : Nat) : Bool := ndVal ⟨kindN g.kind, g.k, List.replicate g.ins.length 0⟩ n

def evalN (m : Md) (set : Nat) : Nat → Node → Bool
 | 0, _ => false
 | n + 1, x => if x.1 = 0 then set.testBit x.2.2.toNat else if x.1 = 1 then (houseAt m x).on else evalG (gateAt m x) ((kidsM m x).countP (evalN m set n))

def evalT (m : Md) (set : Nat) (x : Node) : Bool := evalN m set (fuelC m) x

structure SInv (m : Md) (vars set : Nat) (st : CS) : Prop extends VInv vars st where
 val : ∀ z v, lookO st.es z = some v → okN m z ∧ (valsF vars set st.nodes).getD v.toNat false = evalT m set z

end S

open Go Go.AL Go.Proofs
namespace S
set_option maxRecDepth 100000

end S

open Go Go.AL Go.Proofs
namespace S
set_option maxRecDepth 100000

abbrev zB : AV := .ag [.ag [.int .i64 0, .nils, .int .i64 0], .nils, .nils]

end S

open Go Go.AL Go.Proofs
namespace S
set_option maxRecDepth 100000

theorem intsSelf (a : List Int) : FnH Try.prog 48 [iL a, iL a] [] .tt [] := (c_ints a a).weak (R' := .tt) (by show decide _ = true; simp)

theorem c_form1 (f : Fo) : FnH Try.prog 21 [f.av, f.av] [] .tt [] := by
 refine FnH.intro lay mixed Try.func21 (by kernel_rfl) rfl (by kernel_rfl) rfl fun hok => ?_
 have ha : f.nodes.length ≤ 9223372036854775807 := by
  have := hok.1
  simp only [Ok, OkL, maxL, List.length_map] at this
  exact this.2.1.1
 ((try dsimp only[argC,succC]);(try dsimp only[awp]);(conv=>whnf))
 refine And.intro (fun h => absurd rfl h) (fun _ => ?_)
 ((try dsimp only[awp]);(conv=>whnf))
 refine And.intro (fun h => absurd rfl h) (fun _ => ?_)
 ((try dsimp only[awp]);(conv=>whnf))
 refine And.intro (fun h => absurd rfl h) (fun _ => ?_)
 ((try dsimp only[awp]);(conv=>whnf))
 refine LoopE.of <| LoopSpec.inv (.refl _ _) (fun (i : Nat) => i ≤ f.nodes.length) (fun (i : Nat) => [(30, .int .i64 i)]) (fun _ => _) (fun (i : Nat) => f.nodes.length - i) 0 ?_ (fun _ => rfl) ?_ ?_
 ·exact Nat.zero_le _
 ·(repeat' first|exact rfl|exact trivial|exact wR|exact lR _|apply aI)
 intro i hi _
 ((try dsimp only[awp]);(conv=>whnf))
 refine And.intro (fun h1 => ?_) (fun h1 => ?_)
 ·have hlt : i < f.nodes.length := by simpa using h1
  ((try dsimp only[awp]);(conv=>whnf))
  (refine ADraw.auto (by kernel_rfl) ?_;(conv=>whnf))
  refine aidx hlt ?_
  (conv=>whnf)
  refine aidx hlt ?_
  (conv=>whnf)
  refine And.intro (fun h => absurd rfl h) (fun _ => ?_)
  (conv=>whnf)
  refine aidx hlt ?_
  (conv=>whnf)
  refine aidx hlt ?_
  (conv=>whnf)
  refine And.intro (fun h => absurd rfl h) (fun _ => ?_)
  (conv=>whnf)
  refine aidx hlt ?_
  (conv=>whnf)
  refine aidx hlt ?_
  (conv=>whnf)
  refine ACallP.pure _ _ ?_ ⟨rfl, rfl⟩ (intsSelf f.nodes[i].args) ?_
  ·exact leL_refl _
  ((try dsimp only[awp]);(conv=>whnf))
  (refine ⟨inr64 (by omega) (by omega),?_⟩;(conv=>whnf))
  refine ⟨i + 1, ?_, ?_, ?_⟩
  ·exact hlt
  ·refine ⟨?_, .mk ?_ (by simp [idsOk])⟩
   ·(repeat' first|exact rfl|exact trivial|exact wR|exact lR _|apply aI)
   ·(repeat' first|exact rfl|exact trivial|exact wR|exact lR _|apply aI)
  ·omega
 ·have hl : i = f.nodes.length := by (have : ¬ i < f.nodes.length := by simpa using h1); omega
  subst hl
  clear h1
  ((try dsimp only[awp]);(conv=>whnf))
  (refine fM ?_;(conv=>whnf);refine ⟨?_,rfl⟩;(conv=>whnf))
  (repeat' first|exact rfl|exact trivial|exact wR|exact lR _|apply aI)

def zR : Rat := ⟨false, [], []⟩
def mdE26 : Md := { name := [109], top := [103], evs := [⟨[97], zR, zR, zR, 0⟩, ⟨[98], zR, zR, zR, 0⟩], hs := [⟨[104], true⟩], gates := [⟨[103], 1, 0, [[104], [107]], zR⟩, ⟨[107], 5, 0, [[97], [98]], zR⟩], pages := [], grs := [], phs := [] }

theorem c_Example26 : FnH Try.prog 25 [] [] mdE26.av [] := by
 refine FnH.intro lay mixed Try.func25 (by kernel_rfl) rfl (by kernel_rfl) rfl fun hok => ?_
 ((try dsimp only[argC,succC]);(try dsimp only[awp]);(conv=>whnf))
 (refine fM ?_;(conv=>whnf);refine ⟨?_,rfl⟩;(conv=>whnf))
 (repeat' first|exact rfl|exact trivial|exact wR|exact lR _|apply aI)

theorem ex26 : staticR mdE26 = (⟨2, [⟨0, 1, []⟩, ⟨2, 0, [0, 1]⟩, ⟨3, 0, [2, 3]⟩], 4⟩, 0) := by decide +kernel

theorem light26 : lightM mdE26 = true := by decide +kernel

theorem c_awake26 : FnH Try.prog 7 [] [] (.bool true) [] := by
 obtain ⟨hB, hC⟩ := lightM_B light26
 have cs := c_Static mdE26 hC hB _ rfl
 rw [ex26] at cs
 have cf := c_form1 ⟨2, [⟨0, 1, []⟩, ⟨2, 0, [0, 1]⟩, ⟨3, 0, [2, 3]⟩], 4⟩
 refine FnH.intro lay mixed Try.func7 (by kernel_rfl) rfl (by kernel_rfl) rfl fun hok => ?_
 ((try dsimp only[argC,succC]);(try dsimp only[awp]);(conv=>whnf))
 refine .pure _ _ ?_ ⟨rfl, rfl⟩ c_Example26 fun _ => ?_
 ·exact leL_refl _
 ((try dsimp only[awp]);(conv=>whnf))
 refine .pure _ _ ?_ ⟨rfl, rfl⟩ cs fun _ => ?_
 ·(repeat' first|exact rfl|exact trivial|exact wR|exact lR _|apply aI)
 ((try dsimp only[awp]);(conv=>whnf))
 refine .pure _ _ ?_ ⟨rfl, rfl⟩ cf fun _ => ?_
 ·(repeat' first|exact rfl|exact trivial|exact wR|exact lR _|apply aI)
 ((try dsimp only[awp]);(conv=>whnf))
 (refine fM ?_;(conv=>whnf);refine ⟨?_,rfl⟩;(conv=>whnf))
 (repeat' first|exact rfl|exact trivial|exact wR|exact lR _|apply aI)
end S

open Go Go.AL Go.Proofs
namespace S
set_option maxRecDepth 100000

theorem atR_ok {m : Md} (hM : MOk m) {s : Str} (hs : isInR m (-1) s = true) (he : (compTop m s).1.1 = false) : atR m s = (⟨m.evs.length, (compTop m s).2.nodes, (compTop m s).1.2⟩, 0) := by
 have hc := checkM_of hM
 have hi : (inputR m (-1) s).2 = 0 := by
  unfold inputR
  rw [if_neg (by rw [hc]; simp), if_neg (by omega), if_neg (by omega), if_neg (by rw [hs]; simp)]
 unfold atR
 rw [if_neg (by rw [hi]; simp), if_neg (by rw [he]; simp)]

theorem atR_err {m : Md} (hM : MOk m) {s : Str} (hs : isInR m (-1) s = true) (he : (compTop m s).1.1 = true) : atR m s = (⟨0, [], 0⟩, 7) := by
 have hc := checkM_of hM
 have hi : (inputR m (-1) s).2 = 0 := by
  unfold inputR
  rw [if_neg (by rw [hc]; simp), if_neg (by omega), if_neg (by omega), if_neg (by rw [hs]; simp)]
 unfold atR
 rw [if_neg (by rw [hi]; simp), if_pos he]

theorem c_Is7 : FnH Try.prog 13 [.ifc 45 (.int .i64 7), .int .i64 7] [] .tt [] := by
 have := (c_Is 7 7).weak (R' := .tt) (by show decide _ = true; decide)
 rwa [errAV_ne (by decide)] at this

end S

open Go Go.AL Go.Proofs
namespace S
set_option maxRecDepth 100000

theorem sup_used {m : Md} (hM : MOk m) (he : (compTop m m.top).1.1 = false) : supF 0 (belF m.evs.length (compTop m m.top).2.nodes (compTop m m.top).1.2.toNat) m.evs.length = usedR m ∧
  (sizeF m.evs.length (compTop m m.top).2.nodes (belF m.evs.length (compTop m m.top).2.nodes (compTop m m.top).1.2.toNat) (compTop m m.top).2.nodes.length).1 = (compTop m m.top).2.nodes.length := by
 obtain ⟨h1, h2⟩ := top_bel hM hM.top he
 have hF := at_ok hM hM.top he
 have hev := hM.lens.1
 have hiff := belF_iff (v := m.evs.length) (l := (compTop m m.top).2.nodes) (top := (compTop m m.top).1.2.toNat) (by have := hF.top; dsimp only at this; omega) (by have := hF.args; simpa using this)
 refine ⟨Nat.eq_of_testBit_eq fun i => ?_, sizeF_all _ _ _ _ fun j hj => (hiff _).2 (h1 j hj)⟩
 rw [Bool.eq_iff_iff, supF_bit]
 unfold usedR
 rw [bitsV_bit]
 simp only [Bool.and_eq_true, decide_eq_true_eq]
 rw [hiff]
 constructor
 ·rintro ⟨hi, hb⟩
  exact ⟨(0, 0, (i : Int)), (visited_reach hM _).2 ((h2 i hi).1 hb), rfl, by show ((i : Nat) : Int).toNat < 24; omega, by simp⟩
 ·rintro ⟨x, hx, h3, h4, h5⟩
  have hre := (visited_reach hM x).1 hx
  have ho := visited_ok hM x hx
  rcases ho with h | h | h
  ·obtain ⟨a, b, c⟩ := x
   dsimp only at h h3 h5
   obtain ⟨k1, k2, k3, k4⟩ := h
   subst k1 k2
   have hi : i < m.evs.length := by omega
   exact ⟨hi, (h2 i hi).2 (by rw [show (i : Int) = c by omega]; exact hre)⟩
  ·omega
  ·have := (mem_all.1 h).1; omega

theorem c_CompileNeeds (m : Md) : FnH Try.prog 3 [m.av] [] (.bool true) [] := by
 have c0 := c_awake26.weak (R' := .tt) rfl
 have cl := c_LightM m _ rfl
 cases hL : lightM m with
 | false =>
   rw [hL] at cl
   have cl := cl.weak (R' := .ff) rfl
   refine FnH.intro lay mixed Try.func3 (by kernel_rfl) rfl (by kernel_rfl) rfl fun hok => ?_
   ((try dsimp only[argC,succC]);(try dsimp only[awp]);(conv=>whnf))
   refine .pure _ _ ?_ ⟨rfl, rfl⟩ c0 fun _ => ?_
   ·exact leL_refl _
   ((try dsimp only[awp]);(conv=>whnf))
   refine .pure _ _ ?_ ⟨rfl, rfl⟩ cl fun _ => ?_
   ·exact leL_refl _
   ((try dsimp only[awp]);(conv=>whnf))
   refine .pure _ _ ?_ ⟨rfl, rfl⟩ c0 fun _ => ?_
   ·exact leL_refl _
   ((try dsimp only[awp]);(conv=>whnf))
   (refine fM ?_;(conv=>whnf);refine ⟨?_,rfl⟩;(conv=>whnf))
   (repeat' first|exact rfl|exact trivial|exact wR|exact lR _|apply aI)
 | true =>
 rw [hL] at cl
 have cl := cl.weak (R' := .tt) rfl
 obtain ⟨hB, hC⟩ := lightM_B hL
 have cc := c_mCheck m hC hB _ rfl
 by_cases hc : checkM m ≠ 0
 ·rw [errAV_ne hc] at cc
  refine FnH.intro lay mixed Try.func3 (by kernel_rfl) rfl (by kernel_rfl) rfl fun hok => ?_
  ((try dsimp only[argC,succC]);(try dsimp only[awp]);(conv=>whnf))
  refine .pure _ _ ?_ ⟨rfl, rfl⟩ c0 fun _ => ?_
  ·exact leL_refl _
  ((try dsimp only[awp]);(conv=>whnf))
  refine .pure _ _ ?_ ⟨rfl, rfl⟩ cl fun _ => ?_
  ·exact leL_refl _
  ((try dsimp only[awp]);(conv=>whnf))
  refine .pure _ _ ?_ ⟨rfl, rfl⟩ cc fun _ => ?_
  ·exact leL_refl _
  ((try dsimp only[awp]);(conv=>whnf))
  refine .pure _ _ ?_ ⟨rfl, rfl⟩ c0 fun _ => ?_
  ·exact leL_refl _
  ((try dsimp only[awp]);(conv=>whnf))
  (refine fM ?_;(conv=>whnf);refine ⟨?_,rfl⟩;(conv=>whnf))
  (repeat' first|exact rfl|exact trivial|exact wR|exact lR _|apply aI)
 have hc : checkM m = 0 := by simpa using hc
 have hM := checkM_ok hc
 rw [hc, errAV_zero] at cc
 have cd := c_Dynamic m hC hB _ rfl
 have cu := c_Used m hC hB _ rfl
 rw [if_pos hc] at cd cu
 have cs := c_Static m hC hB _ rfl
 rw [show staticR m = atR m m.top from if_neg (by rw [hc]; simp)] at cs
 have hn := comp_needs hM hM.top
 rw [needs_eq hM] at hn
 dsimp only at hn
 cases he : (compTop m m.top).1.1 with
 | true =>
   rw [atR_err hM hM.top he] at cs
   rw [show atAV ((⟨0, [], 0⟩, 7) : Fo × Int) = .tup [(⟨0, [], 0⟩ : Fo).av, .ifc 45 (.int .i64 7)] from rfl] at cs
   rw [← hn, he] at cd
   generalize usedR m = u at *
   refine FnH.intro lay mixed Try.func3 (by kernel_rfl) rfl (by kernel_rfl) rfl fun hok => ?_
   ((try dsimp only[argC,succC]);(try dsimp only[awp]);(conv=>whnf))
   refine .pure _ _ ?_ ⟨rfl, rfl⟩ c0 fun _ => ?_
   ·exact leL_refl _
   ((try dsimp only[awp]);(conv=>whnf))
   refine .pure _ _ ?_ ⟨rfl, rfl⟩ cl fun _ => ?_
   ·exact leL_refl _
   ((try dsimp only[awp]);(conv=>whnf))
   refine .pure _ _ ?_ ⟨rfl, rfl⟩ cc fun _ => ?_
   ·exact leL_refl _
   ((try dsimp only[awp]);(conv=>whnf))
   refine .pure _ _ ?_ ⟨rfl, rfl⟩ cs fun _ => ?_
   ·exact leL_refl _
   ((try dsimp only[awp]);(conv=>whnf))
   refine .pure _ _ ?_ ⟨rfl, rfl⟩ cd fun _ => ?_
   ·exact leL_refl _
   ((try dsimp only[awp]);(conv=>whnf))
   refine .pure _ _ ?_ ⟨rfl, rfl⟩ cu fun _ => ?_
   ·exact leL_refl _
   ((try dsimp only[awp]);(conv=>whnf))
   refine .pure _ _ ?_ ⟨rfl, rfl⟩ c_Is7 fun _ => ?_
   ·exact leL_refl _
   ((try dsimp only[awp]);(conv=>whnf))
   (refine fM ?_;(conv=>whnf);refine ⟨?_,rfl⟩;(conv=>whnf))
   (repeat' first|exact rfl|exact trivial|exact wR|exact lR _|apply aI)
 | false =>
   rw [atR_ok hM hM.top he] at cs
   unfold atAV at cs
   rw [errAV_zero] at cs
   rw [← hn, he] at cd
   have hF := at_ok hM hM.top he
   have cf := c_fCheck _ hF
   obtain ⟨hs1, hs2⟩ := sup_used hM he
   have csz := c_fSize _ hF
   have csu := c_fSupport _ hF
   simp only [Int.toNat_natCast] at csz csu
   rw [hs2] at csz
   rw [hs1] at csu
   generalize sizeF m.evs.length (compTop m m.top).2.nodes (belF m.evs.length (compTop m m.top).2.nodes (compTop m m.top).1.2.toNat) (compTop m m.top).2.nodes.length = z at *
   generalize compTop m m.top = r at *
   generalize usedR m = u at *
   refine FnH.intro lay mixed Try.func3 (by kernel_rfl) rfl (by kernel_rfl) rfl fun hok => ?_
   ((try dsimp only[argC,succC]);(try dsimp only[awp]);(conv=>whnf))
   refine .pure _ _ ?_ ⟨rfl, rfl⟩ c0 fun _ => ?_
   ·exact leL_refl _
   ((try dsimp only[awp]);(conv=>whnf))
   refine .pure _ _ ?_ ⟨rfl, rfl⟩ cl fun _ => ?_
   ·exact leL_refl _
   ((try dsimp only[awp]);(conv=>whnf))
   refine .pure _ _ ?_ ⟨rfl, rfl⟩ cc fun _ => ?_
   ·exact leL_refl _
   ((try dsimp only[awp]);(conv=>whnf))
   refine .pure _ _ ?_ ⟨rfl, rfl⟩ cs fun _ => ?_
   ·exact leL_refl _
   ((try dsimp only[awp]);(conv=>whnf))
   refine .pure _ _ ?_ ⟨rfl, rfl⟩ cd fun _ => ?_
   ·exact leL_refl _
   ((try dsimp only[awp]);(conv=>whnf))
   refine .pure _ _ ?_ ⟨rfl, rfl⟩ cu fun _ => ?_
   ·exact leL_refl _
   ((try dsimp only[awp]);(conv=>whnf))
   refine And.intro (fun h => by cases h) (fun _ => ?_)
   ((try dsimp only[awp]);(conv=>whnf))
   refine .pure _ _ ?_ ⟨rfl, rfl⟩ cf fun _ => ?_
   ·exact leL_refl _
   ((try dsimp only[awp]);(conv=>whnf))
   refine And.intro (fun h => ?_) (fun _ => ?_)
   ·exfalso
    simp at h
   ((try dsimp only[awp]);(conv=>whnf))
   refine .pure _ _ ?_ ⟨rfl, rfl⟩ csz fun _ => ?_
   ·exact leL_refl _
   ((try dsimp only[awp]);(conv=>whnf))
   refine .pure _ _ ?_ ⟨rfl, rfl⟩ csu fun _ => ?_
   ·exact leL_refl _
   ((try dsimp only[awp]);(conv=>whnf))
   refine And.intro (fun _ => ?_) (fun h => by exfalso; apply h; simp)
   ((try dsimp only[awp]);(conv=>whnf))
   (refine fM ?_;(conv=>whnf);refine ⟨?_,rfl⟩;(conv=>whnf))
   show _ ↔ _
   simp
end S
