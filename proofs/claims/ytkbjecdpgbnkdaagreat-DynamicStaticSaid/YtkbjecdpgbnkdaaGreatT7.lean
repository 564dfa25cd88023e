/-
  Contracts of functions of the program, over the logic of the texts before. Nothing is assumed.
-/
import Derived.Test.YtkbjecdpgbnkdaaGreatT6

open Go Go.AL Go.Proofs
namespace S
set_option maxRecDepth 100000

def evalG (g : Mg) (n : Nat) : Bool:=ndVal ⟨kindN g.kind,g.k,List.replicate g.ins.length 0⟩ n

def evalN (m : Md) (set : Nat) : Nat → Node → Bool
 | 0,_=>false
 | n + 1,x=>if x.1 = 0 then set.testBit x.2.2.toNat else if x.1 = 1 then (houseAt m x).on else evalG (gateAt m x) ((kidsM m x).countP (evalN m set n))

theorem countP_ext {α : Type} {p q : α → Bool} : ∀ {l : List α},(∀ x ∈ l,p x = q x) → l.countP p = l.countP q
 | [],_=>rfl
 | x :: l,h=>by
   rw [List.countP_cons,List.countP_cons,h x (by simp),countP_ext fun y hy=>h y (by simp [hy])]

theorem kid_lvl {m : Md} {rank : Node → Nat} (hr : RankM m rank) {x : Node} (hx : okN m x) (h2 : x.1 = 2) {y : Node} (hy : y ∈ kidsM m x) : lvl rank y < lvl rank x:=by
 unfold lvl
 rw [if_pos h2]
 split
 ·rename_i e; have:=hr x hx h2 y hy e; omega
 ·omega

theorem eval_fuel {m : Md} (hc : ClosedM m) {rank : Node → Nat} (hr : RankM m rank) (set : Nat) : ∀ (n n' : Nat) (x : Node),okN m x → lvl rank x < n → lvl rank x < n' → evalN m set n x = evalN m set n' x
 | 0,_,_,_,h,_=>by omega
 | _ + 1,0,_,_,_,h=>by omega
 | n + 1,n' + 1,x,hx,h,h'=>by
   unfold evalN
   split
   ·rfl
   rename_i h0
   split
   ·rfl
   rename_i h1
   have h2 : x.1 = 2:=by
    rcases hx with h | h | h
    ·omega
    ·omega
    ·exact (mem_all.1 h).1
   congr 1
   refine countP_ext fun y hy=>?_
   have:=kid_lvl hr hx h2 hy
   exact eval_fuel hc hr set n n' y ((okN_kids hc hx h2).2 y hy) (by omega) (by omega)

def evalT (m : Md) (set : Nat) (x : Node) : Bool:=evalN m set (fuelC m) x

theorem evalT_eq {m : Md} (hM : MOk m) (set : Nat) {x : Node} (hx : okN m x) : evalT m set x = if x.1 = 0 then set.testBit x.2.2.toNat else if x.1 = 1 then (houseAt m x).on else evalG (gateAt m x) ((kidsM m x).countP (evalT m set)):=by
 obtain ⟨rank,hr,hb⟩:=hM.rank
 have hbx:=hb x
 obtain ⟨k,hk⟩ : ∃ k,fuelC m = k + 1:=⟨(allNodes m).length + 1,rfl⟩
 conv=>lhs; unfold evalT; rw [hk]; unfold evalN
 split
 ·rfl
 rename_i h0
 split
 ·rfl
 rename_i h1
 have h2 : x.1 = 2:=by
  rcases hx with h | h | h
  ·omega
  ·omega
  ·exact (mem_all.1 h).1
 congr 1
 refine countP_ext fun y hy=>?_
 have:=kid_lvl hr hx h2 hy
 exact eval_fuel hM.closed hr set k (fuelC m) y ((okN_kids hM.closed hx h2).2 y hy) (by omega) (hb y)

theorem valsF_app (vars set : Nat) (l r : List Nd) : ∃ t,valsF vars set (l ++ r) = valsF vars set l ++ t:=by
 unfold valsF
 rw [List.foldl_append]
 have : ∀ (r : List Nd) (v : List Bool),∃ t,r.foldl valN v = v ++ t:=by
  intro r
  induction r with
  | nil=>intro v; exact ⟨[],by simp⟩
  | cons x r ih =>
    intro v
    obtain ⟨t,ht⟩:=ih (valN v x)
    exact ⟨_,by rw [List.foldl_cons,ht]; unfold valN; rw [List.append_assoc]⟩
 exact this r _

theorem getD_app {l t : List Bool} {i : Nat} (h : i < l.length) : (l ++ t).getD i false = l.getD i false:=by
 rw [List.getD_eq_getElem?_getD,List.getD_eq_getElem?_getD,List.getElem?_append_left h]

structure SInv (m : Md) (vars set : Nat) (st : CS) : Prop extends VInv vars st where
 val : ∀ z v,lookO st.es z = some v → okN m z ∧ (valsF vars set st.nodes).getD v.toNat false = evalT m set z

theorem cntT_map {v : List Bool} {f : Node → Bool} {l : List Node} {args : List Int} (h : args.map (fun a=>v.getD a.toNat false) = l.map f) : cntT v args = l.countP f:=by
 have k1 : ∀ (args : List Int) (n : Nat),args.foldl (fun n a=>if v.getD a.toNat false = true then n + 1 else n) n = n + (args.map fun a=>v.getD a.toNat false).countP id:=by
  intro args
  induction args with
  | nil=>intro n; simp
  | cons a l ih =>
    intro n
    rw [List.foldl_cons,ih,List.map_cons,List.countP_cons]
    by_cases hf : v.getD a.toNat false = true
    ·rw [if_pos hf,if_pos (by exact hf)]; omega
    ·rw [if_neg hf,if_neg (by exact hf)]; omega
 unfold cntT
 rw [k1,h,Nat.zero_add,List.countP_map]
 rfl

theorem ndVal_args {k n : Int} {a b : List Int} (h : a.length = b.length) (c : Nat) : ndVal ⟨k,n,a⟩ c = ndVal ⟨k,n,b⟩ c:=by
 unfold ndVal
 dsimp only
 rw [h]

theorem comp_val {m : Md} (hM : MOk m) (set : Nat) : ∀ (n : Nat) (x : Node) (st : CS),okN m x → SInv m m.evs.length set st → (compN m m.evs.length n x st).1.1 = false →
  SInv m m.evs.length set (compN m m.evs.length n x st).2 ∧ (0 ≤ (compN m m.evs.length n x st).1.2 ∧ (compN m m.evs.length n x st).1.2 < (m.evs.length : Int) + (compN m m.evs.length n x st).2.nodes.length) ∧
   (valsF m.evs.length set (compN m m.evs.length n x st).2.nodes).getD (compN m m.evs.length n x st).1.2.toNat false = evalT m set x ∧ ∃ r,(compN m m.evs.length n x st).2.nodes = st.nodes ++ r
 | 0,_,_,_,_,h=>by cases h
 | n + 1,x,st,hx,hI,h=>by
   have hwf:=comp_wf hM m.evs.length rfl (n + 1) x st hx hI.toVInv h
   have hev:=evalT_eq hM set hx
   unfold compN at h hwf ⊢
   split
   ·rename_i h0
    rw [if_pos h0] at hwf
    refine ⟨hI,hwf.2.1,?_,[],by simp⟩
    rw [hev,if_pos h0]
    have h3 : x.2.2 < (m.evs.length : Int) ∧ 0 ≤ x.2.2:=by
     rcases hx with hx | hx | hx
     ·omega
     ·omega
     ·have:=(mem_all.1 hx).1; omega
    obtain ⟨t,ht⟩:=valsF_app m.evs.length set [] st.nodes
    rw [List.nil_append] at ht
    show (valsF m.evs.length set st.nodes).getD x.2.2.toNat false = _
    rw [ht,getD_app (by rw [vals_len]; simp; omega)]
    show (evs m.evs.length set).getD _ _ = _
    unfold evs
    rw [List.getD_eq_getElem?_getD,List.getElem?_map,List.getElem?_range (by omega)]
    rfl
   rename_i h0
   rw [if_neg h0] at h hwf
   rw [if_neg h0] at hev
   split
   ·rename_i a ha
    exact ⟨hI,hI.va x a ha,(hI.val x a ha).2,[],by simp⟩
   rename_i hn
   simp only [hn] at h hwf
   -- a new node
   have hpush : ∀ {s : CS} (nd : Nd),SInv m m.evs.length set s → VInv m.evs.length (pushN m.evs.length s x nd).2 → (0 ≤ (pushN m.evs.length s x nd).1.2 ∧ (pushN m.evs.length s x nd).1.2 < (m.evs.length : Int) + (pushN m.evs.length s x nd).2.nodes.length) →
     (∃ r,s.nodes = st.nodes ++ r) → ndVal nd (cntT (valsF m.evs.length set s.nodes) nd.args) = evalT m set x →
     SInv m m.evs.length set (pushN m.evs.length s x nd).2 ∧ (0 ≤ (pushN m.evs.length s x nd).1.2 ∧ (pushN m.evs.length s x nd).1.2 < (m.evs.length : Int) + (pushN m.evs.length s x nd).2.nodes.length) ∧
      (valsF m.evs.length set (pushN m.evs.length s x nd).2.nodes).getD (pushN m.evs.length s x nd).1.2.toNat false = evalT m set x ∧ ∃ r,(pushN m.evs.length s x nd).2.nodes = st.nodes ++ r:=by
    intro s nd h1 h2 h3 ⟨r,hr⟩ h4
    have hv : valsF m.evs.length set (s.nodes ++ [nd]) = valsF m.evs.length set s.nodes ++ [ndVal nd (cntT (valsF m.evs.length set s.nodes) nd.args)]:=by
     unfold valsF
     rw [List.foldl_append]; rfl
    have hl:=vals_len m.evs.length set s.nodes
    have hnew : (valsF m.evs.length set (s.nodes ++ [nd])).getD ((m.evs.length : Int) + s.nodes.length).toNat false = evalT m set x:=by
     rw [hv,h4,List.getD_eq_getElem?_getD,List.getElem?_append_right (by rw [hl]; omega)]
     rw [show ((m.evs.length : Int) + s.nodes.length).toNat - (valsF m.evs.length set s.nodes).length = 0 by rw [hl]; omega]
     rfl
    refine ⟨⟨h2,fun z v hz=>?_⟩,h3,hnew,r ++ [nd],by show s.nodes ++ [nd] = _; rw [hr,List.append_assoc]⟩
    have hz : lookO (mark s.es x ((m.evs.length : Int) + s.nodes.length)) z = some v:=hz
    rw [lookO_mark] at hz
    split at hz
    ·rename_i e
     obtain rfl:=Option.some.inj hz
     rw [← e]
     exact ⟨hx,hnew⟩
    ·have:=h1.va z v hz
     obtain ⟨g1,g2⟩:=h1.val z v hz
     refine ⟨g1,?_⟩
     show (valsF m.evs.length set (s.nodes ++ [nd])).getD v.toNat false = _
     rw [hv,getD_app (by rw [hl]; omega)]
     exact g2
   split
   ·rename_i h1
    rw [if_pos h1] at hwf hev
    refine hpush _ hI hwf.1 hwf.2.1 ⟨[],by simp⟩ ?_
    rw [hev]
    unfold ndVal
    cases (houseAt m x).on <;> simp
   rename_i h1
   rw [if_neg h1] at h hwf hev
   have h2 : x.1 = 2:=by
    rcases hx with h | h | h
    ·omega
    ·omega
    ·exact (mem_all.1 h).1
   obtain ⟨hxa,hk⟩:=okN_kids hM.closed hx h2
   split
   ·rename_i hs; rw [if_pos hs] at h; cases h
   rename_i hs
   rw [if_neg hs] at h hwf
   have key : ∀ (l : List Node) (s : CS) (acc : List Int) (pre : List Node),(∀ y ∈ l,okN m y) → SInv m m.evs.length set s → (∀ a ∈ acc,0 ≤ a ∧ a < (m.evs.length : Int) + s.nodes.length) →
     acc.map (fun a=>(valsF m.evs.length set s.nodes).getD a.toNat false) = pre.map (evalT m set) → (compL (compN m m.evs.length n) l s acc).1.1 = false →
     SInv m m.evs.length set (compL (compN m m.evs.length n) l s acc).2 ∧ (compL (compN m m.evs.length n) l s acc).1.2.map (fun a=>(valsF m.evs.length set (compL (compN m m.evs.length n) l s acc).2.nodes).getD a.toNat false) = (pre ++ l).map (evalT m set) ∧
      ∃ r,(compL (compN m m.evs.length n) l s acc).2.nodes = s.nodes ++ r:=by
    intro l
    induction l with
    | nil=>intro s acc pre _ h1 _ h2 _; exact ⟨h1,by simpa [compL] using h2,[],by simp [compL]⟩
    | cons y l ih =>
      intro s acc pre hl h1 h2 h3 he
      unfold compL at he ⊢
      split
      ·rename_i hb; rw [if_pos hb] at he; cases he
      ·rename_i hb
       rw [if_neg hb] at he
       obtain ⟨g1,g2,g3,r,g4⟩:=comp_val hM set n y s (hl y (by simp)) h1 (by simpa using hb)
       have hle : (s.nodes.length : Int) ≤ (compN m m.evs.length n y s).2.nodes.length:=by rw [g4,List.length_append]; omega
       obtain ⟨t,ht⟩:=valsF_app m.evs.length set s.nodes r
       rw [← g4] at ht
       obtain ⟨i1,i2,r',i3⟩:=ih _ (acc ++ [(compN m m.evs.length n y s).1.2]) (pre ++ [y]) (fun z hz=>hl z (by simp [hz])) g1 (fun a ha=>by
        rcases List.mem_append.1 ha with ha | ha
        ·have:=h2 a ha; omega
        ·simp at ha; subst ha; exact g2) (by
         rw [List.map_append,List.map_append,← h3]
         congr 1
         ·refine List.map_congr_left fun a ha=>?_
          rw [ht,getD_app]
          rw [vals_len]
          have:=h2 a ha
          omega
         ·simp only [List.map_cons,List.map_nil,g3]) he
       exact ⟨i1,by rw [i2,List.append_assoc]; rfl,r ++ r',by rw [i3,g4,List.append_assoc]⟩
   split
   ·rename_i he; rw [if_pos he] at h; cases h
   ·rename_i he
    have he2 : (compL (compN m m.evs.length n) (kidsM m x) st []).1.1 = false:=by simpa using he
    rw [if_neg he] at hwf
    obtain ⟨k1,k2,k3⟩:=key _ _ [] [] hk hI (by simp) (by simp) he2
    refine hpush _ k1 hwf.1 hwf.2.1 k3 ?_
    rw [hev]
    unfold evalG
    dsimp only
    rw [cntT_map (f:=evalT m set) (l:=kidsM m x) (by simpa using k2)]
    refine ndVal_args ?_ _
    rw [compL_app _ _ _ _ he2]
    simp [kidsM]

theorem SInv.nil (m : Md) (vars set : Nat) : SInv m vars set ⟨[],[]⟩:=⟨.nil _,fun z v h=>by cases h⟩

theorem at_val {m : Md} (hM : MOk m) {s : Str} (hs : isInR m (-1) s = true) (he : (compTop m s).1.1 = false) (set : Nat) :
  (valsF m.evs.length set (compTop m s).2.nodes).getD (compTop m s).1.2.toNat false = evalT m set (resR m (-1) s) :=
 (comp_val hM set (fuelC m) _ ⟨[],[]⟩ (hM.inOk (.inl rfl) hs).ok (.nil m _ _) he).2.2.1



inductive Reach (m : Md) (r : Node) : Node → Prop
 | root : Reach m r r
 | step {x y : Node} (h : Reach m r x) (h2 : x.1 = 2) (hy : y ∈ kidsM m x) : Reach m r y

inductive RI (us : List (List Int)) (f : Nat) : Nat → Prop
 | root : RI us f f
 | step {i : Nat} {k : Int} (h : RI us f i) (hk : k ∈ us.getD i []) : RI us f k.toNat

theorem set_same {d : List Bool} {k : Nat} : d.set k (d.getD k false) = d:=by
 by_cases h : k < d.length
 ·rw [getD_lt' h]; exact List.set_getElem_self h
 ·exact List.set_eq_of_length_le (by omega)



def GoodS (m : Md) (st : CS) : Prop:=∀ z : Node,lookO st.es z ≠ none → z.1 = 2 → statK (gateAt m z).kind = true ∧ ∀ y ∈ kidsM m z,y.1 = 0 ∨ lookO st.es y ≠ none
def Done (st : CS) (x : Node) : Prop:=x.1 = 0 ∨ lookO st.es x ≠ none
def LeS (s t : CS) : Prop:=∀ z,lookO s.es z ≠ none → lookO t.es z ≠ none

theorem comp_good {m : Md} (vars : Int) : ∀ (n : Nat) (x : Node) (st : CS),GoodS m st → (compN m vars n x st).1.1 = false → GoodS m (compN m vars n x st).2 ∧ Done (compN m vars n x st).2 x ∧ LeS st (compN m vars n x st).2
 | 0,_,_,_,h=>by cases h
 | n + 1,x,st,hg,h=>by
   have push : ∀ {s : CS} (nd : Nd),GoodS m s → LeS st s → (x.1 = 2 → statK (gateAt m x).kind = true ∧ ∀ y ∈ kidsM m x,Done s y) → GoodS m (pushN vars s x nd).2 ∧ Done (pushN vars s x nd).2 x ∧ LeS st (pushN vars s x nd).2:=by
    intro s nd h1 h2 h3
    have mono : LeS s (pushN vars s x nd).2:=by
     intro z hz
     show lookO (mark s.es x _) z ≠ none
     rw [lookO_mark]
     split
     ·simp
     ·exact hz
    refine ⟨fun z hz hz2=>?_,.inr ?_,fun z hz=>mono z (h2 z hz)⟩
    ·have hz : lookO (mark s.es x (vars + s.nodes.length)) z ≠ none:=hz
     rw [lookO_mark] at hz
     by_cases e : x = z
     ·subst e
      obtain ⟨k1,k2⟩:=h3 hz2
      exact ⟨k1,fun y hy=>(k2 y hy).imp id (mono y)⟩
     ·rw [if_neg e] at hz
      obtain ⟨k1,k2⟩:=h1 z hz hz2
      exact ⟨k1,fun y hy=>(k2 y hy).imp id (mono y)⟩
    ·show lookO (mark s.es x _) x ≠ none
     rw [lookO_mark,if_pos rfl]; simp
   unfold compN at h ⊢
   split
   ·rename_i h0; exact ⟨hg,.inl h0,fun _ h=>h⟩
   rename_i h0
   rw [if_neg h0] at h
   split
   ·rename_i a ha; exact ⟨hg,.inr (by rw [ha]; simp),fun _ h=>h⟩
   rename_i hn
   simp only [hn] at h
   split
   ·rename_i h1; exact push _ hg (fun _ h=>h) (fun e=>by omega)
   rename_i h1
   rw [if_neg h1] at h
   split
   ·rename_i hs; rw [if_pos hs] at h; cases h
   rename_i hs
   rw [if_neg hs] at h
   have key : ∀ (l : List Node) (s : CS) (acc : List Int),GoodS m s → (compL (compN m vars n) l s acc).1.1 = false → GoodS m (compL (compN m vars n) l s acc).2 ∧ (∀ y ∈ l,Done (compL (compN m vars n) l s acc).2 y) ∧ LeS s (compL (compN m vars n) l s acc).2:=by
    intro l
    induction l with
    | nil=>intro s acc h _; exact ⟨h,by simp,fun _ h=>h⟩
    | cons y l ih =>
      intro s acc h he
      unfold compL at he ⊢
      split
      ·rename_i hb; rw [if_pos hb] at he; cases he
      ·rename_i hb
       rw [if_neg hb] at he
       obtain ⟨g1,g2,g3⟩:=comp_good vars n y s h (by simpa using hb)
       obtain ⟨i1,i2,i3⟩:=ih _ _ g1 he
       refine ⟨i1,fun z hz=>?_,fun z hz=>i3 z (g3 z hz)⟩
       rcases List.mem_cons.1 hz with rfl | hz
       ·exact g2.imp id (i3 z)
       ·exact i2 z hz
   split
   ·rename_i he; rw [if_pos he] at h; cases h
   ·rename_i he
    obtain ⟨k1,k2,k3⟩:=key _ _ _ hg (by simpa using he)
    exact push _ k1 k3 fun _=>⟨by simpa using hs,k2⟩

theorem comp_static {m : Md} {vars : Int} {n : Nat} {x : Node} (h : (compN m vars n x ⟨[],[]⟩).1.1 = false) : ∀ y,Reach m x y → y.1 = 2 → statK (gateAt m y).kind = true:=by
 obtain ⟨h1,h2,_⟩:=comp_good (m:=m) vars n x ⟨[],[]⟩ (fun z hz=>by simp [lookO] at hz) h
 have key : ∀ y,Reach m x y → Done (compN m vars n x ⟨[],[]⟩).2 y:=by
  intro y hy
  induction hy with
  | root=>exact h2
  | step _ hk hy ih =>
    rcases ih with e | e
    ·omega
    ·exact (h1 _ e hk).2 _ hy
 intro y hy e
 rcases key y hy with k | k
 ·omega
 ·exact (h1 y k e).1


def VD (n f : Nat) (memo : List Int) (gs : List Gate) : List Bool:=gs.foldl (vstep n memo) (evs n f)

theorem VD_len (n f : Nat) (memo : List Int) (gs : List Gate) : (VD n f memo gs).length = n + gs.length:=by
 unfold VD; rw [vstep_len,evs_len]

theorem VD_snoc (n f : Nat) (memo : List Int) (gs : List Gate) (g : Gate) : VD n f memo (gs ++ [g]) = VD n f memo gs ++ [gval g (VD n f memo gs) (memo.getD ((VD n f memo gs).length - n) 0)]:=by
 unfold VD; rw [List.foldl_append]; rfl

theorem VD_app (n f : Nat) (memo : List Int) (l r : List Gate) : ∃ t,VD n f memo (l ++ r) = VD n f memo l ++ t:=by
 unfold VD
 rw [List.foldl_append]
 generalize l.foldl (vstep n memo) (evs n f) = v
 induction r generalizing v with
 | nil=>exact ⟨[],by simp⟩
 | cons g r ih =>
   obtain ⟨t,ht⟩:=ih (vstep n memo v g)
   refine ⟨[gval g v (memo.getD (v.length - n) 0)] ++ t,?_⟩
   rw [List.foldl_cons,ht]
   unfold vstep
   rw [List.append_assoc]

theorem count_mapD {v : List Bool} {φ : Node → Bool} : ∀ {al : List Int} {l : List Node},al.map (fun a=>v.getD a.toNat false) = l.map φ → count v al = (l.countP φ : Nat)
 | [],[],_=>rfl
 | [],_ :: _,h=>by simp at h
 | _ :: _,[],h=>by simp at h
 | a :: al,x :: l,h=>by
   simp only [List.map_cons,List.cons.injEq] at h
   have:=count_mapD h.2
   unfold count
   rw [this,h.1,List.countP_cons]
   cases φ x <;> simp <;> omega

theorem gval_eval {g : Mg} (hs : statK g.kind = true) {al : List Int} (hl : al.length = g.ins.length) {v : List Bool} {c : Nat} (hc : count v al = (c : Int)) (dm : Rat) (mem : Int) : gval ⟨g.kind,g.k,al,dm⟩ v mem = evalG g c:=by
 unfold statK at hs
 simp only [Bool.or_eq_true,decide_eq_true_eq] at hs
 unfold gval evalG ndVal kindN
 dsimp only
 rw [hc,hl,List.length_replicate]
 rcases hs with ((((h | h) | h) | h) | h) | h <;> rw [h] <;> simp <;> omega

theorem getD_appD {l t : List Bool} {i : Nat} (h : i < l.length) : (l ++ t).getD i false = l.getD i false:=by
 rw [List.getD_eq_getElem?_getD,List.getD_eq_getElem?_getD,List.getElem?_append_left h]

theorem getD_last {l : List Bool} {b : Bool} {i : Nat} (h : i = l.length) : (l ++ [b]).getD i false = b:=by
 subst h
 rw [List.getD_eq_getElem?_getD]
 simp

theorem house_val (n f : Nat) (memo : List Int) (gs : List Gate) (on : Bool) (h1 : 1 ≤ n) : (VD n f memo (gs ++ houseG on ((n : Int) + gs.length))).getD (n + gs.length + 1) false = on:=by
 have e : gs ++ houseG on ((n : Int) + gs.length) = (gs ++ [⟨3,0,[0],zq⟩]) ++ [⟨if on = true then 1 else 0,0,[0,(n : Int) + gs.length],zq⟩]:=by
  rw [List.append_assoc]; rfl
 have hl:=VD_len n f memo gs
 have hl1:=VD_len n f memo (gs ++ [⟨3,0,[0],zq⟩])
 rw [e,VD_snoc,getD_last (by rw [hl1]; simp; omega)]
 have h0 : (VD n f memo (gs ++ [⟨3,0,[0],zq⟩])).getD 0 false = (VD n f memo gs).getD 0 false:=by
  rw [VD_snoc,getD_appD (by omega)]
 have hn : (VD n f memo (gs ++ [⟨3,0,[0],zq⟩])).getD (n + gs.length) false = !(VD n f memo gs).getD 0 false:=by
  rw [VD_snoc,getD_last (by omega)]
  unfold gval count count
  dsimp only
  rw [show (0 : Int).toNat = 0 from rfl]
  generalize (VD n f memo gs).getD 0 false = b
  cases b <;> simp
 have ez : ((n : Int) + gs.length).toNat = n + gs.length:=by omega
 generalize VD n f memo (gs ++ [⟨3,0,[0],zq⟩]) = W at *
 unfold gval count count count
 dsimp only
 rw [ez,hn,show (0 : Int).toNat = 0 from rfl,h0]
 generalize (VD n f memo gs).getD 0 false = b
 cases on <;> cases b <;> simp

def VI (m : Md) (f : Nat) (memo : List Int) (s : DS) : Prop:=∀ z v,lookO s.es z = some v → (VD m.evs.length f memo s.gates).getD v.toNat false = evalT m f z

theorem compD_V {m : Md} (hM : MOk m) (hv : 1 ≤ m.evs.length) {rank : Node → Nat} (hr : RankM m rank) (f : Nat) (memo : List Int) (P : Node → Prop) (hP : ∀ y,P y → y.1 = 2 → statK (gateAt m y).kind = true ∧ ∀ z ∈ kidsM m y,P z) :
  ∀ (n : Nat) (x : Node) (s : DS),P x → okN m x → lvlD rank x < n → DInv m s → TInv m m.evs.length s → VI m f memo s →
  VI m f memo (compD m m.evs.length n x s).2 ∧ (VD m.evs.length f memo (compD m m.evs.length n x s).2.gates).getD (compD m m.evs.length n x s).1.toNat false = evalT m f x ∧ ∃ r,(compD m m.evs.length n x s).2.gates = s.gates ++ r:=by
 intro n
 induction n with
 | zero=>intro x s _ _ h; omega
 | succ n ih =>
   intro x st hPx hx hn hI hT hV
   have hcl:=hM.closed
   have hev:=evalT_eq hM f hx
   unfold compD
   split
   ·rename_i h0
    refine ⟨hV,?_,[],by simp⟩
    rw [if_pos h0] at hev
    rw [hev]
    have h3 : x.2.2 < (m.evs.length : Int) ∧ 0 ≤ x.2.2:=by
     rcases hx with h | h | h
     ·omega
     ·omega
     ·have:=(mem_all.1 h).1; omega
    obtain ⟨t,ht⟩:=VD_app m.evs.length f memo [] st.gates
    rw [List.nil_append] at ht
    show (VD m.evs.length f memo st.gates).getD x.2.2.toNat false = _
    rw [ht,getD_appD (by rw [VD_len]; simp; omega)]
    show (evs m.evs.length f).getD _ _ = _
    unfold evs
    rw [List.getD_eq_getElem?_getD,List.getElem?_map,List.getElem?_range (by omega)]
    rfl
   rename_i h0
   rw [if_neg h0] at hev
   split
   ·rename_i a ha
    exact ⟨hV,hV x a ha,[],by simp⟩
   rename_i hno
   -- a new mark
   have hpush : ∀ {s : DS} (gs : List Gate) (w : Int),VI m f memo s → TInv m m.evs.length s → (VD m.evs.length f memo (s.gates ++ gs)).getD w.toNat false = evalT m f x → (∃ r,s.gates = st.gates ++ r) →
     VI m f memo ⟨s.gates ++ gs,mark s.es x w⟩ ∧ (VD m.evs.length f memo (s.gates ++ gs)).getD w.toNat false = evalT m f x ∧ ∃ r,s.gates ++ gs = st.gates ++ r:=by
    rintro s gs w h1 h2 h3 ⟨r,hr⟩
    refine ⟨fun z v hz=>?_,h3,r ++ gs,by rw [hr,List.append_assoc]⟩
    have hz : lookO (mark s.es x w) z = some v:=hz
    rw [lookO_mark] at hz
    split at hz
    ·rename_i e
     obtain rfl:=Option.some.inj hz
     rw [← e]; exact h3
    ·have hb:=h2.val _ (lookO_memD hz)
     dsimp only at hb
     obtain ⟨t,ht⟩:=VD_app m.evs.length f memo s.gates gs
     show (VD m.evs.length f memo (s.gates ++ gs)).getD v.toNat false = _
     rw [ht,getD_appD (by rw [VD_len]; omega)]
     exact h1 z v hz
   split
   ·rename_i h1
    rw [if_pos h1] at hev
    refine hpush _ _ hV hT ?_ ⟨[],by simp⟩
    rw [hev,show ((m.evs.length : Int) + st.gates.length + 1).toNat = m.evs.length + st.gates.length + 1 by omega]
    exact house_val _ _ _ _ _ hv
   rename_i h1
   rw [if_neg h1] at hev
   have h2 : x.1 = 2:=by
    rcases hx with h | h | h
    ·omega
    ·omega
    ·exact (mem_all.1 h).1
   have h2x:=h2
   obtain ⟨hxa,hk⟩:=okN_kids hcl hx h2
   obtain ⟨hst,hPk⟩:=hP x hPx h2
   have hlv : rank x < n:=by unfold lvlD at hn; rw [if_pos h2] at hn; omega
   have key : ∀ (l : List Node) (s : DS) (acc : List Int) (pre : List Node),(∀ y ∈ l,y ∈ kidsM m x) → DInv m s → TInv m m.evs.length s → VI m f memo s → (∀ a ∈ acc,0 ≤ a ∧ a < (m.evs.length : Int) + s.gates.length) →
     acc.map (fun a=>(VD m.evs.length f memo s.gates).getD a.toNat false) = pre.map (evalT m f) →
     VI m f memo (compDL (compD m m.evs.length n) l s acc).2 ∧ TInv m m.evs.length (compDL (compD m m.evs.length n) l s acc).2 ∧
     (compDL (compD m m.evs.length n) l s acc).1.map (fun a=>(VD m.evs.length f memo (compDL (compD m m.evs.length n) l s acc).2.gates).getD a.toNat false) = (pre ++ l).map (evalT m f) ∧
     ∃ r,(compDL (compD m m.evs.length n) l s acc).2.gates = s.gates ++ r:=by
    intro l
    induction l with
    | nil=>intro s acc pre _ _ ht h1 _ h2; exact ⟨h1,ht,by simpa [compDL] using h2,[],by simp [compDL]⟩
    | cons y l ihl =>
      intro s acc pre hl hI hT h1 h2 h3
      have hy:=hl y (by simp)
      have hly : lvlD rank y < n:=by
       unfold lvlD
       split
       ·rename_i e; have:=hr x hx h2x y hy e; omega
       ·omega
      obtain ⟨t1,t2,t3,t4⟩:=compD_T hM hv hr n y s (hk y hy) hly hI hT
      obtain ⟨g1,g3,r,g4⟩:=ih y s (hPk y hy) (hk y hy) hly hI hT h1
      obtain ⟨t,ht⟩:=VD_app m.evs.length f memo s.gates r
      rw [← g4] at ht
      rw [show compDL (compD m m.evs.length n) (y :: l) s acc = compDL (compD m m.evs.length n) l (compD m m.evs.length n y s).2 (acc ++ [(compD m m.evs.length n y s).1]) from rfl]
      obtain ⟨i1,i2,i3,r',i4⟩:=ihl _ (acc ++ [(compD m m.evs.length n y s).1]) (pre ++ [y]) (fun z hz=>hl z (by simp [hz])) (compD_inv hcl hr _ n y s (hk y hy) hI).1 t1 g1 (fun a ha=>by
       rcases List.mem_append.1 ha with ha | ha
       ·have:=h2 a ha; omega
       ·simp at ha; subst ha; exact t3) (by
        rw [List.map_append,List.map_append,← h3]
        congr 1
        ·refine List.map_congr_left fun a ha=>?_
         rw [ht,getD_appD]
         rw [VD_len]
         have:=h2 a ha
         omega
        ·simp only [List.map_cons,List.map_nil,g3])
      exact ⟨i1,i2,by rw [i3,List.append_assoc]; rfl,r ++ r',by rw [i4,g4,List.append_assoc]⟩
   obtain ⟨k1,k2,k3,k4⟩:=key _ st [] [] (fun _ h=>h) hI hT hV (by simp) (by simp)
   generalize compDL (compD m m.evs.length n) (kidsM m x) st [] = Z at *
   refine hpush _ _ k1 k2 ?_ k4
   rw [hev,VD_snoc,getD_last (by rw [VD_len]; omega)]
   have hlen : Z.1.length = (kidsM m x).length:=by simpa using congrArg List.length k3
   exact gval_eval hst (by rw [hlen]; simp [kidsM]) (count_mapD (by simpa using k3)) _ _

def rat0 : Rat:=⟨false,[],[]⟩
def ordD (v : Nat) : Dyn:=⟨v,[⟨6,0,(List.range v).map (fun (i : Nat)=>(i : Int)),rat0⟩],v,List.replicate v rat0,List.replicate v rat0⟩

def upd (f m : Nat) : Nat:=if f = 0 then 0 else if f &&& (f + 1) ≠ 0 then 1 else m

def chkF : Bool:=(List.range 6).all fun v=>decide (v < 2) || (List.range (2 ^ v)).all fun f=>(List.range 2).all fun (m : Nat)=>(List.range v).all fun (i : Nat) =>
 f.testBit i || decide (failR (ordD v) ⟨f,[(m : Int)]⟩ i = (⟨((f ||| 2 ^ i : Nat) : Int),[(upd (f ||| 2 ^ i) m : Int)]⟩,0))
theorem and127 : ∀ a : Nat,a < 256 → bitsR .and .u8 (a : Int) 127 = ((a % 128 : Nat) : Int):=by decide +kernel


theorem and127' {a : Int} (h : 0 ≤ a ∧ a < 256) : bitsR .and .u8 a 127 = a % 128:=by
 obtain ⟨n,rfl⟩ : ∃ n : Nat,a = n:=⟨a.toNat,by omega⟩
 rw [and127 n (by omega)]; omega

theorem and128 : ∀ a : Nat,a < 256 → (bitsR .and .u8 (a : Int) 128 = 0 ↔ a < 128):=by decide +kernel

theorem and128' {a : Int} (h : 0 ≤ a ∧ a < 256) : bitsR .and .u8 a 128 = 0 ↔ a < 128:=by
 obtain ⟨n,rfl⟩ : ∃ n : Nat,a = n:=⟨a.toNat,by omega⟩
 rw [and128 n (by omega)]; omega

theorem c_Play (d : Dyn) (acts : List Int) (hd : DynC d) (hc : checkR d = 0) : FnH Tryz.prog 44 [d.av,.sl 1 (acts.map (.int .u8)) .no] [] (.tup [(playR d acts).av,.bool true]) []:=by
 have hT:=checkR_ok hc
 have hv:=hT.vars
 obtain ⟨hs0,hg0⟩:=start_good hc
 have c0:=c_Start d hd _ rfl
 rw [hs0,errAV_zero] at c0
 refine FnH.intro lay mixed Tryz.func44 (by kernel_rfl) rfl (by kernel_rfl) rfl fun hok=>?_
 have hal : acts.length ≤ 9223372036854775807:=by have:=hok.2.1.1; simpa [maxL] using this
 have ha : ∀ a ∈ acts,0 ≤ a ∧ a < 256:=by
  intro a hm
  have:=OkL_map hok.2.1.2 a hm
  simp [Ok,InR,IntKind.min,IntKind.max,IntKind.signed,IntKind.bits] at this; omega
 conv=>whnf
 refine .pure _ _ ?_ ⟨rfl,rfl⟩ c0 fun _=>?_
 ·exact leL_refl _
 conv=>whnf
 refine And.intro (fun h=>by exfalso; omega) (fun _=>?_)
 conv=>whnf
 refine LoopE.of <| LoopSpec.inv (.refl _ _) (fun j : Nat=>j ≤ acts.length) (fun j=>[(27,.int .i64 j)])
  (fun j=>[(2,.box ((acts.take j).foldl (pstep d) (startR d).1).av),(1,.box (.ag [.int .i64 0,.nils])),(0,.box d.av)]) (fun j=>acts.length - j) 0 ?_ (fun _=>rfl) ?_ ?_
 ·exact Nat.zero_le _
 ·refine ⟨?_,.mk ?_ ⟨by simp,by simp,by simp,trivial⟩⟩
  ·all_goals exact wk
  ·all_goals exact wk
 intro j hj _
 have hgood:=play_good hc (acts.take j) _ hg0
 conv=>whnf
 refine And.intro (fun h=>?_) (fun h=>?_)
 ·have hlt : j < acts.length:=by simpa using h
  have hfold:=foldl_take (f:=pstep d) (s:=(startR d).1) hlt
  have haj:=ha _ (List.getElem_mem hlt)
  generalize (acts.take j).foldl (pstep d) (startR d).1 = s at *
  conv=>whnf
  refine aidx hlt ?_
  generalize acts[j] = a at *
  have h1 : 0 ≤ a % 128 % d.vars:=Int.emod_nonneg _ (by omega)
  have h2 : a % 128 % d.vars < d.vars:=Int.emod_lt_of_pos _ (by omega)
  obtain ⟨i,hi⟩ : ∃ i : Nat,a % 128 % d.vars = i:=⟨(a % 128 % d.vars).toNat,by omega⟩
  have hps : pstep d s a = if a < 128 then (if (failR d s i).2 = 0 then (failR d s i).1 else s) else (if (repairR d s i).2 = 0 then (repairR d s i).1 else s):=by
   unfold pstep; dsimp only; rw [hi]
  rw [hi] at h2
  conv=>whnf
  rw [and127' haj]
  conv=>whnf
  rw [wrap64 (n:=a % 128) (by omega) (by omega)]
  refine ⟨by omega,?_⟩
  rw [Int.tmod_eq_emod_of_nonneg (by omega),hi]
  conv=>whnf
  refine And.intro (fun h3=>?_) (fun h3=>?_)
  ·have h3:=(and128' haj).1 h3
   rw [if_pos h3] at hps
   rw [hps] at hfold
   have cf:=c_Fail d s i hd _ rfl
   conv=>whnf
   rcases fail_good hc hgood h2 with ⟨_,h4⟩ | ⟨_,h4,_,_⟩
   ·rw [h4,show errAV 12 = .ifc 111 (.int .i64 12) from rfl] at cf
    rw [if_neg (by omega)] at hfold
    have ci:=c_Is 12 12
    rw [show errAV 12 = .ifc 111 (.int .i64 12) from rfl] at ci
    have ci : FnH Tryz.prog 121 [.ifc 111 (.int .i64 12),.int .i64 12] [] .tt []:=ci.weak rfl
    refine .pure _ _ ?_ ⟨rfl,rfl⟩ cf fun _=>?_
    ·exact leL_refl _
    conv=>whnf
    refine .pure _ _ ?_ ⟨rfl,rfl⟩ ci fun _=>?_
    ·exact leL_refl _
    conv=>whnf
    refine zA ?_;conv=>whnf
    refine ⟨(j + 1),?_,?_,?_⟩
    ·exact hlt
    ·rw [hfold]
     refine ⟨?_,.mk ?_ ⟨by simp,by simp,by simp,trivial⟩⟩
     ·all_goals exact wk
     ·repeat' first|exact rfl|exact trivial|exact wR|exact lR _|apply aI
      try (rw [hfold]; exact le0_refl _)
    ·omega
   ·rw [h4,errAV_zero] at cf
    rw [if_pos h4] at hfold
    refine .pure _ _ ?_ ⟨rfl,rfl⟩ cf fun _=>?_
    ·exact leL_refl _
    conv=>whnf
    refine zA ?_;conv=>whnf
    refine ⟨(j + 1),?_,?_,?_⟩
    ·exact hlt
    ·rw [hfold]
     refine ⟨?_,.mk ?_ ⟨by simp,by simp,by simp,trivial⟩⟩
     ·all_goals exact wk
     ·repeat' first|exact rfl|exact trivial|exact wR|exact lR _|apply aI
      try (rw [hfold]; exact le0_refl _)
    ·omega
  ·have h3 : ¬ a < 128:=fun h=>h3 ((and128' haj).2 h)
   rw [if_neg h3] at hps
   rw [hps] at hfold
   have cf:=c_Repair d s i hd _ rfl
   conv=>whnf
   rcases repair_good hc hgood h2 with ⟨_,h4⟩ | ⟨_,_,h4,_,_⟩
   ·rw [h4,show errAV 12 = .ifc 111 (.int .i64 12) from rfl] at cf
    rw [if_neg (by omega)] at hfold
    have ci:=c_Is 12 12
    rw [show errAV 12 = .ifc 111 (.int .i64 12) from rfl] at ci
    have ci : FnH Tryz.prog 121 [.ifc 111 (.int .i64 12),.int .i64 12] [] .tt []:=ci.weak rfl
    refine .pure _ _ ?_ ⟨rfl,rfl⟩ cf fun _=>?_
    ·exact leL_refl _
    conv=>whnf
    refine .pure _ _ ?_ ⟨rfl,rfl⟩ ci fun _=>?_
    ·exact leL_refl _
    conv=>whnf
    refine zA ?_;conv=>whnf
    refine ⟨(j + 1),?_,?_,?_⟩
    ·exact hlt
    ·rw [hfold]
     refine ⟨?_,.mk ?_ ⟨by simp,by simp,by simp,trivial⟩⟩
     ·all_goals exact wk
     ·repeat' first|exact rfl|exact trivial|exact wR|exact lR _|apply aI
      try (rw [hfold]; exact le0_refl _)
    ·omega
   ·rw [h4,errAV_zero] at cf
    rw [if_pos h4] at hfold
    refine .pure _ _ ?_ ⟨rfl,rfl⟩ cf fun _=>?_
    ·exact leL_refl _
    conv=>whnf
    refine zA ?_;conv=>whnf
    refine ⟨(j + 1),?_,?_,?_⟩
    ·exact hlt
    ·rw [hfold]
     refine ⟨?_,.mk ?_ ⟨by simp,by simp,by simp,trivial⟩⟩
     ·all_goals exact wk
     ·repeat' first|exact rfl|exact trivial|exact wR|exact lR _|apply aI
      try (rw [hfold]; exact le0_refl _)
    ·omega
 ·have hjl : j = acts.length:=by have : ¬ j < acts.length:=by simpa using h
                                 omega
  subst hjl
  rw [List.take_length]
  have hp : acts.foldl (pstep d) (startR d).1 = playR d acts:=rfl
  rw [hp]
  conv=>whnf
  refine fM ?_;(conv=>whnf);refine ⟨?_,rfl⟩;conv=>whnf
  all_goals exact wk

theorem compD_app (m : Md) (n : Nat) : ∀ (x : Node) (s : DS),∃ r,(compD m m.evs.length n x s).2.gates = s.gates ++ r:=by
 induction n with
 | zero=>intro x s; exact ⟨[],by simp [compD]⟩
 | succ n ih =>
   intro x s
   have key : ∀ (l : List Node) (s : DS) (acc : List Int),∃ r,(compDL (compD m m.evs.length n) l s acc).2.gates = s.gates ++ r:=by
    intro l
    induction l with
    | nil=>intro s acc; exact ⟨[],by simp [compDL]⟩
    | cons y l ihl =>
      intro s acc
      obtain ⟨r1,h1⟩:=ih y s
      obtain ⟨r2,h2⟩:=ihl (compD m m.evs.length n y s).2 (acc ++ [(compD m m.evs.length n y s).1])
      exact ⟨r1 ++ r2,by rw [show compDL (compD m m.evs.length n) (y :: l) s acc = compDL (compD m m.evs.length n) l (compD m m.evs.length n y s).2 (acc ++ [(compD m m.evs.length n y s).1]) from rfl,h2,h1,List.append_assoc]⟩
   unfold compD
   split
   ·exact ⟨[],by simp⟩
   split
   ·exact ⟨[],by simp⟩
   split
   ·exact ⟨_,rfl⟩
   ·obtain ⟨r,h⟩:=key (kidsM m x) s []
    refine ⟨r ++ [⟨(gateAt m x).kind,(gateAt m x).k,(compDL (compD m m.evs.length n) (kidsM m x) s []).1,(gateAt m x).dorm⟩],?_⟩
    dsimp only
    rw [h,List.append_assoc]

theorem dynL_app (m : Md) : ∀ (l : List Node) (s : DS),∃ r,(dynL m l s).gates = s.gates ++ r
 | [],s=>⟨[],by rw [dynL_nil]; simp⟩
 | x :: l,s=>by
   rw [dynL_cons]
   split
   ·obtain ⟨r1,h1⟩:=compD_app m (fuelD m) x s
    obtain ⟨r2,h2⟩:=dynL_app m l (compD m m.evs.length (fuelD m) x s).2
    exact ⟨r1 ++ r2,by rw [h2,h1,List.append_assoc]⟩
   ·exact dynL_app m l s

theorem statD_eq {m : Md} (hc : checkM m = 0) : staticR m = if (compTop m m.top).1.1 = true then (⟨0,[],0⟩,7) else (⟨m.evs.length,(compTop m m.top).2.nodes,(compTop m m.top).1.2⟩,0):=by
 have hM:=checkM_ok hc
 have hi : (inputR m (-1) m.top).2 = 0:=by
  unfold inputR
  rw [if_neg (by rw [hc]; simp),if_neg (by omega),if_neg (by omega),if_neg (by rw [hM.top]; simp)]
 unfold staticR
 rw [if_neg (by rw [hc]; simp)]
 unfold atR
 rw [if_neg (by rw [hi]; simp)]

theorem tree_val {m : Md} (hM : MOk m) (hv : 1 ≤ m.evs.length) (he : (compTop m m.top).1.1 = false) (f : Nat) (memo : List Int) :
  (valuesR (treeD m) f memo).getD (treeD m).top.toNat false = (valsF m.evs.length f (compTop m m.top).2.nodes).getD (compTop m m.top).1.2.toNat false:=by
 obtain ⟨rank,hr,hlv⟩:=rank_bdD hM
 have hin:=hM.inOk (.inl rfl) hM.top
 rw [at_val hM hM.top he f]
 have hst:=comp_static (m:=m) he
 have hI0 : DInv m ⟨[],[]⟩:=⟨by simp,by simp,by simp⟩
 have hT0 : TInv m m.evs.length ⟨[],[]⟩:=⟨rfl,fun e he=>by simp at he,fun a ha=>by simp [spAllG] at ha,fun g hg=>by simp at hg⟩
 obtain ⟨_,_,t3,_⟩:=compD_T hM hv hr (fuelD m) (resR m (-1) m.top) ⟨[],[]⟩ hin.ok (hlv _) hI0 hT0
 obtain ⟨_,k2,_⟩:=compD_V hM hv hr f memo (Reach m (resR m (-1) m.top)) (fun y hy h2=>⟨hst y hy h2,fun z hz=>hy.step h2 hz⟩) (fuelD m) (resR m (-1) m.top) ⟨[],[]⟩ .root hin.ok (hlv _) hI0 hT0 (fun z v h=>by cases h)
 obtain ⟨r,hr2⟩:=dynL_app m (allNodes m) (rootD m).2
 show (VD m.evs.length f memo (dynL m (allNodes m) (rootD m).2).gates).getD (rootD m).1.toNat false = _
 rw [hr2]
 obtain ⟨t,ht⟩:=VD_app m.evs.length f memo (rootD m).2.gates r
 rw [ht]
 have e : rootD m = compD m m.evs.length (fuelD m) (resR m (-1) m.top) ⟨[],[]⟩:=rfl
 rw [e,getD_appD (by rw [VD_len]; omega)]
 exact k2

theorem c_DynamicStatic (h1c : OneC) (m : Md) (acts : List Int) : FnH Tryz.prog 11 [m.av,.sl 1 (acts.map (.int .u8)) .no] [] (.bool true) []:=by
 have c0:=(c_awake h1c).weak (R':=.tt) rfl
 have cl:=c_LightM m _ rfl
 cases hL : lightM m with
 | false =>
   rw [hL] at cl
   have cl:=cl.weak (R':=.ff) rfl
   refine FnH.intro lay mixed Tryz.func11 (by kernel_rfl) rfl (by kernel_rfl) rfl fun hok=>?_
   (try dsimp only[argC,succC]);(try dsimp only[awp]);conv=>whnf
   refine .pure _ _ ?_ ⟨rfl,rfl⟩ c0 fun _=>?_
   ·exact leL_refl _
   (try dsimp only[awp]);conv=>whnf
   refine .pure _ _ ?_ ⟨rfl,rfl⟩ cl fun _=>?_
   ·exact leL_refl _
   (try dsimp only[awp]);conv=>whnf
   refine .pure _ _ ?_ ⟨rfl,rfl⟩ c0 fun _=>?_
   ·exact leL_refl _
   (try dsimp only[awp]);conv=>whnf
   refine fM ?_;(conv=>whnf);refine ⟨?_,rfl⟩;conv=>whnf
   all_goals exact wk
 | true =>
 rw [hL] at cl
 have cl:=cl.weak (R':=.tt) rfl
 obtain ⟨hB,hC⟩:=lightM_B hL
 have hX:=lightM_X hL
 have cc:=c_mCheck m hC hB _ rfl
 by_cases ha : acts.length > 100
 ·refine FnH.intro lay mixed Tryz.func11 (by kernel_rfl) rfl (by kernel_rfl) rfl fun hok=>?_
  (try dsimp only[argC,succC]);(try dsimp only[awp]);conv=>whnf
  refine .pure _ _ ?_ ⟨rfl,rfl⟩ c0 fun _=>?_
  ·exact leL_refl _
  (try dsimp only[awp]);conv=>whnf
  refine .pure _ _ ?_ ⟨rfl,rfl⟩ cl fun _=>?_
  ·exact leL_refl _
  (try dsimp only[awp]);conv=>whnf
  refine And.intro (fun _=>?_) (fun h=>by exfalso; simp at h; omega)
  (try dsimp only[awp]);conv=>whnf
  refine .pure _ _ ?_ ⟨rfl,rfl⟩ c0 fun _=>?_
  ·exact leL_refl _
  (try dsimp only[awp]);conv=>whnf
  refine fM ?_;(conv=>whnf);refine ⟨?_,rfl⟩;conv=>whnf
  all_goals exact wk
 by_cases hc : checkM m ≠ 0
 ·rw [errAV_ne hc] at cc
  refine FnH.intro lay mixed Tryz.func11 (by kernel_rfl) rfl (by kernel_rfl) rfl fun hok=>?_
  (try dsimp only[argC,succC]);(try dsimp only[awp]);conv=>whnf
  refine .pure _ _ ?_ ⟨rfl,rfl⟩ c0 fun _=>?_
  ·exact leL_refl _
  (try dsimp only[awp]);conv=>whnf
  refine .pure _ _ ?_ ⟨rfl,rfl⟩ cl fun _=>?_
  ·exact leL_refl _
  (try dsimp only[awp]);conv=>whnf
  refine And.intro (fun h=>by exfalso; simp at h; omega) (fun _=>?_)
  (try dsimp only[awp]);conv=>whnf
  refine .pure _ _ ?_ ⟨rfl,rfl⟩ cc fun _=>?_
  ·exact leL_refl _
  (try dsimp only[awp]);conv=>whnf
  refine .pure _ _ ?_ ⟨rfl,rfl⟩ c0 fun _=>?_
  ·exact leL_refl _
  (try dsimp only[awp]);conv=>whnf
  refine fM ?_;(conv=>whnf);refine ⟨?_,rfl⟩;conv=>whnf
  all_goals exact wk
 have hc0 : checkM m = 0:=by simpa using hc
 have hM:=checkM_ok hc0
 rw [hc0,errAV_zero] at cc
 have cs:=c_Static m hC hB _ rfl
 have cg:=g_Make m hC hB hX _ rfl
 rw [statD_eq hc0] at cs
 unfold makeAV at cg
 by_cases he : (compTop m m.top).1.1 = true
 ·rw [if_pos he] at cs
  by_cases hE : makeE m = 0
  ·rw [if_pos hE] at cg
   generalize treeD m = d at *
   refine FnH.intro lay mixed Tryz.func11 (by kernel_rfl) rfl (by kernel_rfl) rfl fun hok=>?_
   (try dsimp only[argC,succC]);(try dsimp only[awp]);conv=>whnf
   refine .pure _ _ ?_ ⟨rfl,rfl⟩ c0 fun _=>?_
   ·exact leL_refl _
   (try dsimp only[awp]);conv=>whnf
   refine .pure _ _ ?_ ⟨rfl,rfl⟩ cl fun _=>?_
   ·exact leL_refl _
   (try dsimp only[awp]);conv=>whnf
   refine And.intro (fun h=>by exfalso; simp at h; omega) (fun _=>?_)
   (try dsimp only[awp]);conv=>whnf
   refine .pure _ _ ?_ ⟨rfl,rfl⟩ cc fun _=>?_
   ·exact leL_refl _
   (try dsimp only[awp]);conv=>whnf
   refine .pure _ _ ?_ ⟨rfl,rfl⟩ cs fun _=>?_
   ·exact leL_refl _
   (try dsimp only[awp]);conv=>whnf
   refine .pure _ _ ?_ ⟨rfl,rfl⟩ cg fun _=>?_
   ·exact leL_refl _
   (try dsimp only[awp]);conv=>whnf
   refine fM ?_;(conv=>whnf);refine ⟨?_,rfl⟩;conv=>whnf
   all_goals exact wk
  ·rw [if_neg hE] at cg
   generalize makeE m = e at *
   refine FnH.intro lay mixed Tryz.func11 (by kernel_rfl) rfl (by kernel_rfl) rfl fun hok=>?_
   (try dsimp only[argC,succC]);(try dsimp only[awp]);conv=>whnf
   refine .pure _ _ ?_ ⟨rfl,rfl⟩ c0 fun _=>?_
   ·exact leL_refl _
   (try dsimp only[awp]);conv=>whnf
   refine .pure _ _ ?_ ⟨rfl,rfl⟩ cl fun _=>?_
   ·exact leL_refl _
   (try dsimp only[awp]);conv=>whnf
   refine And.intro (fun h=>by exfalso; simp at h; omega) (fun _=>?_)
   (try dsimp only[awp]);conv=>whnf
   refine .pure _ _ ?_ ⟨rfl,rfl⟩ cc fun _=>?_
   ·exact leL_refl _
   (try dsimp only[awp]);conv=>whnf
   refine .pure _ _ ?_ ⟨rfl,rfl⟩ cs fun _=>?_
   ·exact leL_refl _
   (try dsimp only[awp]);conv=>whnf
   refine .pure _ _ ?_ ⟨rfl,rfl⟩ cg fun _=>?_
   ·exact leL_refl _
   (try dsimp only[awp]);conv=>whnf
   refine fM ?_;(conv=>whnf);refine ⟨?_,rfl⟩;conv=>whnf
   all_goals exact wk
 have he : (compTop m m.top).1.1 = false:=by simpa using he
 rw [if_neg (by rw [he]; simp)] at cs
 unfold atAV at cs
 dsimp only at cs
 rw [errAV_zero] at cs
 by_cases hE : makeE m = 0
 ·rw [if_pos hE] at cg
  have hv : 1 ≤ m.evs.length:=by
   unfold makeE at hE
   rw [if_neg hc] at hE
   split at hE
   ·cases hE
   ·omega
  have hd:=treeC hC hM hv
  have ht:=tree_ok hE
  have cp:=(c_Play (treeD m) acts hd ht).weak (R':=.tup [(playR (treeD m) acts).av,.tt]) (by (repeat' first|exact rfl|exact trivial|exact wR|exact lR _|apply aI))
  have hG : Good (treeD m) (playR (treeD m) acts):=play_good ht acts _ (start_good ht).2
  have hs0:=checkSR_of ht hG
  have ct:=c_Top (treeD m) (playR (treeD m) acts) hd _ rfl
  have e1 : topR (treeD m) (playR (treeD m) acts) = ((valuesR (treeD m) (playR (treeD m) acts).failed.toNat (playR (treeD m) acts).memo).getD (treeD m).top.toNat false,0):=by
   unfold topR; rw [if_neg (by rw [hs0]; simp)]
  rw [e1] at ct
  dsimp only at ct
  rw [errAV_zero,tree_val hM hv he] at ct
  have cv:=c_fValue _ (at_ok hM hM.top he) (playR (treeD m) acts).failed.toNat hG.lt
  have hfe : (((playR (treeD m) acts).failed.toNat : Nat) : Int) = (playR (treeD m) acts).failed:=by have:=hG.pos; omega
  rw [hfe] at cv
  dsimp only at cv
  rw [show ((m.evs.length : Int)).toNat = m.evs.length by omega] at cv
  generalize (valsF m.evs.length (playR (treeD m) acts).failed.toNat (compTop m m.top).2.nodes).getD (compTop m m.top).1.2.toNat false = b at *
  generalize playR (treeD m) acts = s at *
  generalize treeD m = d at *
  generalize (⟨m.evs.length,(compTop m m.top).2.nodes,(compTop m m.top).1.2⟩ : Fo) = F at *
  obtain ⟨sf,sm⟩:=s
  dsimp only at cv
  refine FnH.intro lay mixed Tryz.func11 (by kernel_rfl) rfl (by kernel_rfl) rfl fun hok=>?_
  (try dsimp only[argC,succC]);(try dsimp only[awp]);conv=>whnf
  refine .pure _ _ ?_ ⟨rfl,rfl⟩ c0 fun _=>?_
  ·exact leL_refl _
  (try dsimp only[awp]);conv=>whnf
  refine .pure _ _ ?_ ⟨rfl,rfl⟩ cl fun _=>?_
  ·exact leL_refl _
  (try dsimp only[awp]);conv=>whnf
  refine And.intro (fun h=>by exfalso; simp at h; omega) (fun _=>?_)
  (try dsimp only[awp]);conv=>whnf
  refine .pure _ _ ?_ ⟨rfl,rfl⟩ cc fun _=>?_
  ·exact leL_refl _
  (try dsimp only[awp]);conv=>whnf
  refine .pure _ _ ?_ ⟨rfl,rfl⟩ cs fun _=>?_
  ·exact leL_refl _
  (try dsimp only[awp]);conv=>whnf
  refine .pure _ _ ?_ ⟨rfl,rfl⟩ cg fun _=>?_
  ·exact leL_refl _
  (try dsimp only[awp]);conv=>whnf
  refine .pure _ _ ?_ ⟨rfl,rfl⟩ cp fun _=>?_
  ·exact leL_refl _
  (try dsimp only[awp]);conv=>whnf
  refine .pure _ _ ?_ ⟨rfl,rfl⟩ ct fun _=>?_
  ·exact leL_refl _
  (try dsimp only[awp]);conv=>whnf
  refine .pure _ _ ?_ ⟨rfl,rfl⟩ cv fun _=>?_
  ·exact leL_refl _
  (try dsimp only[awp]);conv=>whnf
  refine fM ?_;(conv=>whnf);refine ⟨?_,rfl⟩;conv=>whnf
  show _ ↔ _
  simp
 ·rw [if_neg hE] at cg
  generalize makeE m = e at *
  generalize (⟨m.evs.length,(compTop m m.top).2.nodes,(compTop m m.top).1.2⟩ : Fo) = F at *
  refine FnH.intro lay mixed Tryz.func11 (by kernel_rfl) rfl (by kernel_rfl) rfl fun hok=>?_
  (try dsimp only[argC,succC]);(try dsimp only[awp]);conv=>whnf
  refine .pure _ _ ?_ ⟨rfl,rfl⟩ c0 fun _=>?_
  ·exact leL_refl _
  (try dsimp only[awp]);conv=>whnf
  refine .pure _ _ ?_ ⟨rfl,rfl⟩ cl fun _=>?_
  ·exact leL_refl _
  (try dsimp only[awp]);conv=>whnf
  refine And.intro (fun h=>by exfalso; simp at h; omega) (fun _=>?_)
  (try dsimp only[awp]);conv=>whnf
  refine .pure _ _ ?_ ⟨rfl,rfl⟩ cc fun _=>?_
  ·exact leL_refl _
  (try dsimp only[awp]);conv=>whnf
  refine .pure _ _ ?_ ⟨rfl,rfl⟩ cs fun _=>?_
  ·exact leL_refl _
  (try dsimp only[awp]);conv=>whnf
  refine .pure _ _ ?_ ⟨rfl,rfl⟩ cg fun _=>?_
  ·exact leL_refl _
  (try dsimp only[awp]);conv=>whnf
  refine fM ?_;(conv=>whnf);refine ⟨?_,rfl⟩;conv=>whnf
  all_goals exact wk
end S
