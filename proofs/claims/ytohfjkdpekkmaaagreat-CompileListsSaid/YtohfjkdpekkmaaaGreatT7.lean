/-
  Contracts of functions of the program, over the logic of the texts before. Nothing is assumed.
-/
import Derived.Test.YtohfjkdpekkmaaaGreatT6

open Go Go.AL Go.Proofs
namespace S
set_option maxRecDepth 100000

def offR (m : Md) : Nat → Nat
 | 0=>0
 | k + 1=>offR m k + (gatesM m ((k : Int) - 1)).length

def numR (m : Md) (x : Node) : Int:=x.2.2 + offR m (x.2.1 + 1).toNat

theorem offR_le {m : Md} (hB : MdB m) : ∀ {k : Nat},k ≤ m.pages.length + 1 → offR m k ≤ 100 * k
 | 0,_=>by simp [offR]
 | k + 1,h=>by
   have:=offR_le hB (k:=k) (by omega)
   have h2:=(hB.gatesM (a:=(k : Int) - 1) (by omega)).1
   simp only [offR]
   omega

theorem c_number (m : Md) (hB : MdB m) (x : Node) (ha : x.2.1 = -1 ∨ (0 ≤ x.2.1 ∧ x.2.1 < (m.pages.length : Int))) (hi : 0 ≤ x.2.2 ∧ x.2.2 < 1000000) : FnH Tryz.prog 95 [m.av,.int .i64 x.2.1,.int .i64 x.2.2] [] (.int .i64 (numR m x)) []:=by
 obtain ⟨xk,a,i⟩:=x
 dsimp only at ha hi ⊢
 have hpl:=hB.pages
 obtain ⟨K,hK⟩ : ∃ K : Nat,(K : Int) = a + 1:=⟨(a + 1).toNat,by omega⟩
 have hnum : numR m (xk,a,i) = i + (offR m K : Nat):=by unfold numR; dsimp only; rw [show (a + 1).toNat = K from by omega]
 rw [hnum]
 have haK : a = (K : Int) - 1:=by omega
 subst haK
 refine FnH.intro lay mixed Tryz.func95 (by kernel_rfl) rfl (by kernel_rfl) rfl fun hok=>?_
 (try dsimp only[argC,succC]);(try dsimp only[awp]);conv=>whnf
 refine LoopE.of <| LoopSpec.inv (.refl _ _) (fun (k : Nat)=>k ≤ K) (fun (k : Nat)=>[(8,.int .i64 ((k : Int) - 1)),(7,.int .i64 (i + (offR m k : Nat)))]) (fun _=>_) (fun (k : Nat)=>K - k) 0 ?_ (fun _=>rfl) ?_ ?_
 ·exact Nat.zero_le _
 ·repeat' first|exact rfl|exact trivial|exact wR|exact lR _|apply aI
  all_goals first | (simp [offR]; done) | skip
 rintro k hk _
 (try dsimp only[awp]);conv=>whnf
 refine And.intro (fun h=>?_) (fun h=>?_)
 ·have hkl : k < K:=by omega
  have hak : (k : Int) - 1 = -1 ∨ (0 ≤ (k : Int) - 1 ∧ (k : Int) - 1 < (m.pages.length : Int)):=by omega
  have ho:=offR_le hB (k:=k + 1) (by omega)
  have hs : offR m (k + 1) = offR m k + (gatesM m ((k : Int) - 1)).length:=rfl
  (try dsimp only[awp]);conv=>whnf
  refine .pure _ _ ?_ ⟨rfl,rfl⟩ (c_rGates m _ hak) fun _=>?_
  ·exact leL_refl _
  (try dsimp only[awp]);conv=>whnf
  refine ⟨inr64 (by simp; omega) (by simp; omega),?_⟩
  (try dsimp only[awp]);conv=>whnf
  refine zA ?_;conv=>whnf
  refine ⟨k + 1,?_,?_,?_⟩
  ·exact hkl
  ·rw [hs]
   refine ⟨?_,.mk ?_ ⟨by simp,trivial⟩⟩
   ·repeat' first|exact rfl|exact trivial|exact wR|exact lR _|apply aI
    all_goals (show (_ : Int) = _; first | omega | (rw [List.length_map]; omega))
   ·all_goals exact wk
  ·omega
 have hkl : k = K:=by omega
 subst hkl
 (try dsimp only[awp]);conv=>whnf
 refine fM ?_;(conv=>whnf);refine ⟨?_,rfl⟩;conv=>whnf
 all_goals exact wk

def usesL (m : Md) (a : Int) (l : List Str) : List Int:=((l.map (findX m a)).filter fun x=>decide (x.1 = 2)).map (numR m)
def usesAt (m : Md) (x : Node) : List Int:=usesL m x.2.1 (gateAt m x).ins
def usesM (m : Md) : List (List Int):=(allNodes m).map (usesAt m)

theorem usesL_cons {m : Md} {a : Int} {s : Str} {l : List Str} : usesL m a (s :: l) = if (findX m a s).1 = 2 then numR m (findX m a s) :: usesL m a l else usesL m a l:=by
 unfold usesL
 rw [List.map_cons,List.filter_cons]
 by_cases h : (findX m a s).1 = 2
 ·rw [if_pos h,if_pos (by simpa using h),List.map_cons]
 ·rw [if_neg h,if_neg (by simpa using h)]

abbrev zL (l : List Int) : AV:=.sl 1 (l.map (AV.int .i64)) .no
abbrev uL (l : List (List Int)) : AV:=.sl 1 (l.map zL) .no

theorem findX_gate {m : Md} {a : Int} {s : Str} (ha : a = -1 ∨ (0 ≤ a ∧ a < (m.pages.length : Int))) (h : (findX m a s).1 = 2) : findX m a s ∈ allNodes m:=by
 have key : ∀ b t,(b = -1 ∨ (0 ≤ b ∧ b < (m.pages.length : Int))) → (findR m b t).1 = 2 → findR m b t ∈ allNodes m:=by
  intro b t hb h
  unfold findR at h ⊢
  by_cases h1 : 0 ≤ i_event m.evs t
  ·rw [if_pos h1] at h; cases h
  rw [if_neg h1] at h ⊢
  by_cases h2 : 0 ≤ i_house m.hs t
  ·rw [if_pos h2] at h; cases h
  rw [if_neg h2] at h ⊢
  by_cases h3 : 0 ≤ i_gate (gatesM m b) t
  ·rw [if_pos h3]
   exact mem_all.2 ⟨rfl,hb,h3,idxP_lt _ _⟩
  ·rw [if_neg h3] at h; cases h
 unfold findX at h ⊢
 by_cases h1 : atS s = true
 ·rw [if_pos h1] at h ⊢
  by_cases h2 : i_page m.pages (s.drop 1) < 0
  ·rw [if_pos h2] at h; cases h
  rw [if_neg h2] at h ⊢
  exact key _ _ (.inr ⟨by omega,idxP_lt _ _⟩) h
 ·rw [if_neg h1] at h ⊢
  exact key _ _ ha h

theorem c_uses (m : Md) (hB : MdB m) (ht : ∀ p : Int,0 ≤ p → p < (m.pages.length : Int) → atS (pageTop m p) = false) (R : AV) (hR : R = uL (usesM m)) : FnH Tryz.prog 58 [m.av] [] R []:=by
 have hpl:=hB.pages
 refine FnH.intro lay mixed Tryz.func58 (by kernel_rfl) rfl (by kernel_rfl) rfl fun hok=>?_
 (try dsimp only[argC,succC]);(try dsimp only[awp]);conv=>whnf
 refine LoopE.of <| LoopSpec.inv (.grow 3 1 [] _ rfl (.inl ⟨rfl,rfl⟩) (.refl _ _)) (fun (q : Nat × List (List Int))=>q.1 ≤ m.pages.length + 1 ∧ q.2 ++ (nodesFrom m q.1).map (usesAt m) = usesM m ∧ q.2.length ≤ 100 * q.1)
  (fun q=>[(4,.int .i64 ((q.1 : Int) - 1)),(3,.sl 1 (q.2.map zL) (.own 1))]) (fun q=>[(1,.tok 1 q.2.length),(0,.box m.av)]) (fun q=>m.pages.length + 1 - q.1) (0,[]) ?_ (fun _=>rfl) ?_ ?_
 ·exact ⟨Nat.zero_le _,rfl,by simp⟩
 ·refine ⟨?_,.mk ?_ ⟨by simp,by simp,trivial⟩⟩
  ·all_goals exact wk
  ·all_goals exact wk
 rintro ⟨k,us⟩ ⟨hk,hn,hu⟩ _
 dsimp only at hk hn hu
 (try dsimp only[awp]);conv=>whnf
 refine And.intro (fun h=>?_) (fun h=>?_)
 ·have hkl : k < m.pages.length + 1:=by simp only [List.length_map] at h; omega
  have ha : (k : Int) - 1 = -1 ∨ (0 ≤ (k : Int) - 1 ∧ (k : Int) - 1 < (m.pages.length : Int)):=by omega
  have hBa:=hB.gatesM ha
  have cG:=c_rGates m _ ha
  have cF:=fun s=>c_Find m _ s ha ht
  have hfg:=fun s=>findX_gate (m:=m) (s:=s) ha
  have hNl:=fun i (h : i < (gatesM m ((k : Int) - 1)).length)=>drop_of_get? (nodesAt_get (m:=m) (a:=(k : Int) - 1) h)
  have hga : ∀ (i : Nat) (h : i < (gatesM m ((k : Int) - 1)).length),usesAt m (2,(k : Int) - 1,(i : Int)) = usesL m ((k : Int) - 1) (gatesM m ((k : Int) - 1))[i].ins:=by
   intro i h
   unfold usesAt gateAt
   dsimp only
   rw [Int.toNat_natCast,List.getD_eq_getElem?_getD,List.getElem?_eq_getElem h]; rfl
  rw [nodesFrom_step hkl] at hn
  clear h
  generalize hrest : nodesFrom m (k + 1) = rest at *
  have hle:=nodesAt_len m ((k : Int) - 1)
  generalize hage : (k : Int) - 1 = a at *
  generalize hnod : nodesAt m a = nod at *
  generalize hgs : gatesM m a = gs at *
  (try dsimp only[awp]);conv=>whnf
  refine .pure _ _ ?_ ⟨rfl,rfl⟩ cG fun hokl=>?_
  ·exact leL_refl _
  (try dsimp only[awp]);conv=>whnf
  refine LoopE.of <| LoopSpec.inv (.refl _ _) (fun (q : Nat × List (List Int))=>q.1 ≤ gs.length ∧ q.2 ++ (nod.drop q.1 ++ rest).map (usesAt m) = usesM m ∧ q.2.length ≤ us.length + q.1)
   (fun q=>[(24,.int .i64 q.1),(3,.sl 1 (q.2.map zL) (.own 1))]) (fun q=>[(1,.tok 1 q.2.length),(0,.box m.av)]) (fun q=>gs.length - q.1) (0,us) ?_ (fun _=>rfl) ?_ ?_
  ·exact ⟨Nat.zero_le _,hn,by simp⟩
  ·refine ⟨?_,.mk ?_ ⟨by simp,by simp,trivial⟩⟩
   ·all_goals exact wk
   ·all_goals exact wk
  rintro ⟨i,u1⟩ ⟨hi,hni,hu1⟩ _
  dsimp only at hi hni hu1
  (try dsimp only[awp]);conv=>whnf
  refine And.intro (fun h=>?_) (fun h=>?_)
  ·have hlt : i < gs.length:=by simpa using h
   have hxi:=hBa.2 _ (List.getElem_mem hlt)
   rw [hNl i hlt,List.cons_append,List.map_cons,hga i hlt] at hni
   (try dsimp only[awp]);conv=>whnf
   refine aidx hlt ?_
   generalize gs[i] = g at *
   (try dsimp only[awp]);conv=>whnf
   refine LoopE.of <| LoopSpec.inv (.grow 7 1 [] _ rfl (.inl ⟨rfl,rfl⟩) (.refl _ _)) (fun (q : Nat × List Int)=>q.1 ≤ g.ins.length ∧ q.2 ++ usesL m a (g.ins.drop q.1) = usesL m a g.ins ∧ q.2.length ≤ q.1)
    (fun q=>[(31,.int .i64 q.1),(7,.sl 1 (q.2.map (AV.int .i64)) (.own 3))]) (fun q=>[(3,.tok 1 q.2.length),(2,.box g.av),(1,.tok 1 u1.length),(0,.box m.av)]) (fun q=>g.ins.length - q.1) (0,[]) ?_ (fun _=>rfl) ?_ ?_
   ·exact ⟨Nat.zero_le _,rfl,by simp⟩
   ·refine ⟨?_,.mk ?_ ⟨by simp,by simp,by simp,by simp,trivial⟩⟩
    ·all_goals exact wk
    ·all_goals exact wk
   rintro ⟨j,l⟩ ⟨hj,hnj,hl⟩ _
   dsimp only at hj hnj hl
   (try dsimp only[awp]);conv=>whnf
   refine And.intro (fun hh=>?_) (fun hh=>?_)
   ·have hjl : j < g.ins.length:=by simpa using hh
    rw [List.drop_eq_getElem_cons hjl,usesL_cons] at hnj
    (try dsimp only[awp]);conv=>whnf
    refine aidx hjl ?_
    generalize g.ins[j] = x at *
    have hfg:=hfg x
    have cF:=cF x
    generalize findX m a x = y at *
    obtain ⟨y1,y2,y3⟩:=y
    (try dsimp only[awp]);conv=>whnf
    refine .pure _ _ ?_ ⟨rfl,rfl⟩ cF fun _=>?_
    ·exact leL_refl _
    (try dsimp only[awp]);conv=>whnf
    refine And.intro (fun g1=>?_) (fun g1=>?_)
    ·obtain ⟨_,hy2,hy3,hy4⟩:=mem_all.1 (hfg g1)
     have hb4:=(hB.gatesM hy2).1
     have cN:=c_number m hB (y1,y2,y3) hy2 ⟨hy3,by show y3 < 1000000; have : y3 < ((gatesM m y2).length : Int):=hy4; have : (gatesM m y2).length ≤ 100:=hb4; omega⟩
     rw [if_pos g1] at hnj
     generalize numR m (y1,y2,y3) = z at *
     (try dsimp only[awp]);conv=>whnf
     refine .pure _ _ ?_ ⟨rfl,rfl⟩ cN fun _=>?_
     ·exact leL_refl _
     (try dsimp only[awp]);conv=>whnf
     refine ⟨by rw [List.length_map],.mk (by simp [maxL]; omega) (by simp; omega) ?_⟩
     (try dsimp only[awp]);conv=>whnf
     refine zA ?_;conv=>whnf
     refine ⟨(j + 1,l ++ [z]),?_,?_,?_⟩
     ·exact ⟨hjl,by rw [← hnj]; simp,by show (l ++ [z]).length ≤ j + 1; simp; omega⟩
     ·refine ⟨?_,.mk ?_ ⟨by simp,by simp,by simp,by simp,trivial⟩⟩
      ·repeat' first|exact rfl|exact trivial|exact wR|exact lR _|apply aI
       all_goals first | (refine leRL_of ?_; simp [strip]; done) | (simp; done) | (simp; omega)
      ·repeat' first|exact rfl|exact trivial|exact wR|exact lR _|apply aI
       all_goals first | (refine leRL_of ?_; simp [strip]; done) | (simp; done) | (simp; omega)
     ·show g.ins.length - (j + 1) < g.ins.length - j
      omega
    ·rw [if_neg g1] at hnj
     (try dsimp only[awp]);conv=>whnf
     refine zA ?_;conv=>whnf
     refine ⟨(j + 1,l),?_,?_,?_⟩
     ·exact ⟨hjl,hnj,by show l.length ≤ j + 1; omega⟩
     ·refine ⟨?_,.mk ?_ ⟨by simp,by simp,by simp,by simp,trivial⟩⟩
      ·all_goals exact wk
      ·all_goals exact wk
     ·show g.ins.length - (j + 1) < g.ins.length - j
      omega
   have hjl : j = g.ins.length:=by have : ¬ j < g.ins.length:=by simpa using hh
                                   omega
   subst hjl
   rw [List.drop_length,show usesL m a [] = [] from rfl,List.append_nil] at hnj
   subst hnj
   generalize usesL m a g.ins = l at *
   (try dsimp only[awp]);conv=>whnf
   refine ⟨by rw [List.length_map],.mk (by simp [maxL]; omega) (by simp; omega) ?_⟩
   (try dsimp only[awp]);conv=>whnf
   refine zA ?_;conv=>whnf
   refine ⟨(i + 1,u1 ++ [l]),?_,?_,?_⟩
   ·exact ⟨hlt,by rw [← hni]; simp,by show (u1 ++ [l]).length ≤ us.length + (i + 1); simp; omega⟩
   ·refine ⟨?_,.mk ?_ ⟨by simp,by simp,trivial⟩⟩
    ·repeat' first|exact rfl|exact trivial|exact wR|exact lR _|apply aI
     all_goals first | (refine leRL_of ?_; simp [strip]; done) | (simp; done) | (simp; omega)
    ·repeat' first|exact rfl|exact trivial|exact wR|exact lR _|apply aI
     all_goals first | (refine leRL_of ?_; simp [strip]; done) | (simp; done) | (simp; omega)
   ·show gs.length - (i + 1) < gs.length - i
    omega
  have hil : i = gs.length:=by have : ¬ i < gs.length:=by simpa using h
                               omega
  rw [List.drop_eq_nil_of_le (by omega),List.nil_append] at hni
  (try dsimp only[awp]);conv=>whnf
  refine zA ?_;conv=>whnf
  refine ⟨(k + 1,u1),?_,?_,?_⟩
  ·exact ⟨hkl,by show u1 ++ (nodesFrom m (k + 1)).map (usesAt m) = _; rw [hrest]; exact hni,by show u1.length ≤ 100 * (k + 1); have:=hBa.1; omega⟩
  ·refine ⟨?_,.mk ?_ ⟨by simp,by simp,trivial⟩⟩
   ·repeat' first|exact rfl|exact trivial|exact wR|exact lR _|apply aI
    all_goals (show _ = _; congr 1 <;> omega)
   ·all_goals exact wk
  ·show m.pages.length + 1 - (k + 1) < m.pages.length + 1 - k
   omega
 have hkl : m.pages.length + 1 ≤ k:=by simp only [List.length_map] at h; omega
 rw [nodesFrom_end hkl,List.map_nil,List.append_nil] at hn
 subst hn
 subst hR
 (try dsimp only[awp]);conv=>whnf
 refine fM ?_;(conv=>whnf);refine ⟨?_,rfl⟩;conv=>whnf
 all_goals exact wk

def rdyD (d : List Bool) (l : List Int) : Bool:=l.all fun k=>d.getD k.toNat false
def stepD (d : List Bool) (i : Nat) (l : List Int) : List Bool:=d.set i (d.getD i false || rdyD d l)
def passD : Nat → List (List Int) → List Bool → List Bool
 | _,[],d=>d
 | i,l :: us,d=>passD (i + 1) us (stepD d i l)
def roundsD (us : List (List Int)) : Nat → List Bool → List Bool
 | 0,d=>d
 | r + 1,d=>roundsD us r (passD 0 us d)
def doneD (us : List (List Int)) : List Bool:=roundsD us us.length (List.replicate us.length false)
def cycU (us : List (List Int)) : Bool:=(doneD us).any fun b=>!b

theorem stepD_len {d : List Bool} {i : Nat} {l : List Int} : (stepD d i l).length = d.length:=by simp [stepD]

theorem rdyD_take {d : List Bool} {l : List Int} {i : Nat} (h : i < l.length) : rdyD d (l.take (i + 1)) = (rdyD d (l.take i) && d.getD (l[i]).toNat false):=by
 unfold rdyD
 rw [List.take_add_one,List.getElem?_eq_getElem h,List.all_append]; simp

theorem drop_off {m : Md} : ∀ {k : Nat},k ≤ m.pages.length + 1 → (allNodes m).drop (offR m k) = nodesFrom m k
 | 0,_=>rfl
 | k + 1,h=>by
   simp only [offR]
   rw [← List.drop_drop,drop_off (by omega : k ≤ _),nodesFrom_step (by omega),← nodesAt_len,List.drop_left]

theorem num_get {m : Md} {x : Node} (hx : x ∈ allNodes m) : 0 ≤ numR m x ∧ (allNodes m)[(numR m x).toNat]? = some x:=by
 obtain ⟨h1,h2,h3,h4⟩:=mem_all.1 hx
 obtain ⟨xk,a,i⟩:=x
 dsimp only at h1 h2 h3 h4
 subst h1
 have hb : (a + 1).toNat < m.pages.length + 1:=by omega
 have e:=drop_off (m:=m) (k:=(a + 1).toNat) (by omega)
 have ha : (((a + 1).toNat : Nat) : Int) - 1 = a:=by omega
 rw [nodesFrom_step hb,ha] at e
 have hi : i.toNat < (gatesM m a).length:=by omega
 have g : ((allNodes m).drop (offR m (a + 1).toNat))[i.toNat]? = some (2,a,i):=by
  rw [e,List.getElem?_append_left (by rw [nodesAt_len]; exact hi),nodesAt_get hi,Int.toNat_of_nonneg h3]
 rw [List.getElem?_drop] at g
 have hn : numR m (2,a,i) = i + offR m (a + 1).toNat:=rfl
 refine ⟨by rw [hn]; omega,?_⟩
 rw [hn,show (i + (offR m (a + 1).toNat : Int)).toNat = offR m (a + 1).toNat + i.toNat by omega]
 exact g

theorem uses_lt {m : Md} : ∀ l ∈ usesM m,∀ k ∈ l,0 ≤ k ∧ k < ((usesM m).length : Int):=by
 intro l hl k hk
 unfold usesM at hl
 obtain ⟨x,hx,rfl⟩:=List.mem_map.1 hl
 unfold usesAt usesL at hk
 obtain ⟨y,hy,rfl⟩:=List.mem_map.1 hk
 obtain ⟨hy,h2⟩:=List.mem_filter.1 hy
 obtain ⟨s,_,rfl⟩:=List.mem_map.1 hy
 obtain ⟨g1,g2⟩:=num_get (findX_gate (mem_all.1 hx).2.1 (of_decide_eq_true h2))
 have:=(List.getElem?_eq_some_iff.1 g2).1
 refine ⟨g1,?_⟩
 simp only [usesM,List.length_map]
 omega

theorem leRL_false : ∀ (n : Nat),leRL (List.replicate n AV.ff) ((List.replicate n false).map AV.bool)
 | 0=>trivial
 | n + 1=>⟨rfl,leRL_false n⟩

theorem leRL_set {A : AV} {b : Bool} (h : leR A (.bool b)) : ∀ (d : List Bool) (i : Nat),leRL ((d.map AV.bool).set i A) ((d.set i b).map AV.bool)
 | [],_=>trivial
 | _ :: _,0=>⟨h,leRL_refl _⟩
 | x :: d,i + 1=>⟨leR_refl _,leRL_set h d i⟩

theorem c_cycle (m : Md) (hB : MdB m) (ht : ∀ p : Int,0 ≤ p → p < (m.pages.length : Int) → atS (pageTop m p) = false) (hn : (usesM m).length ≤ 100000) : FnH Tryz.prog 32 [m.av] [] (.bool (cycU (usesM m))) []:=by
 have cu:=c_uses m hB ht _ rfl
 have hlt:=uses_lt (m:=m)
 refine FnH.intro lay mixed Tryz.func32 (by kernel_rfl) rfl (by kernel_rfl) rfl fun hok=>?_
 (try dsimp only[argC,succC]);(try dsimp only[awp]);conv=>whnf
 refine .pure _ _ ?_ ⟨rfl,rfl⟩ cu fun hoku=>?_
 ·exact leL_refl _
 generalize usesM m = us at *
 (try dsimp only[awp]);conv=>whnf
 rw [show (((us.map zL).length : Nat) : Int) = (us.length : Int) by simp]
 refine ⟨⟨by omega,by omega,by simp; omega,by omega⟩,.wr ?_⟩
 (try dsimp only[awp]);conv=>whnf
 refine LoopE.of <| LoopSpec.inv (.refl _ _) (fun (q : Nat × List Bool)=>q.1 ≤ us.length ∧ q.2.length = us.length ∧ roundsD us (us.length - q.1) q.2 = doneD us)
  (fun q=>[(19,.int .i64 q.1)]) (fun q=>[(1,.arr 1 us.length (q.2.map .bool)),(0,.box m.av)]) (fun q=>us.length - q.1) (0,List.replicate us.length false) ?_ (fun _=>rfl) ?_ ?_
 ·exact ⟨Nat.zero_le _,by simp,rfl⟩
 ·refine ⟨?_,.mk ?_ ⟨by simp,by simp,trivial⟩⟩
  ·all_goals exact wk
  ·repeat' first|exact rfl|exact trivial|exact wR|exact lR _|apply aI
   all_goals first | (simp; done) | exact leRL_false _
 rintro ⟨r,d⟩ ⟨hr,hd,hF⟩ _
 dsimp only at hr hd hF
 (try dsimp only[awp]);conv=>whnf
 refine And.intro (fun h=>?_) (fun h=>?_)
 ·have hrl : r < us.length:=by simpa using h
  rw [show us.length - r = (us.length - (r + 1)) + 1 by omega] at hF
  simp only [roundsD] at hF
  clear h
  (try dsimp only[awp]);conv=>whnf
  refine LoopE.of <| LoopSpec.inv (.refl _ _) (fun (q : Nat × List Bool)=>q.1 ≤ us.length ∧ q.2.length = us.length ∧ passD 0 us d = passD q.1 (us.drop q.1) q.2)
   (fun q=>[(23,.int .i64 q.1)]) (fun q=>[(1,.arr 1 us.length (q.2.map .bool)),(0,.box m.av)]) (fun q=>us.length - q.1) (0,d) ?_ (fun _=>rfl) ?_ ?_
  ·exact ⟨Nat.zero_le _,hd,rfl⟩
  ·refine ⟨?_,.mk ?_ ⟨by simp,by simp,trivial⟩⟩
   ·all_goals exact wk
   ·all_goals exact wk
  rintro ⟨i,d1⟩ ⟨hi,hd1,hP⟩ _
  dsimp only at hi hd1 hP
  (try dsimp only[awp]);conv=>whnf
  refine And.intro (fun h=>?_) (fun h=>?_)
  ·have hil : i < us.length:=by simpa using h
   have hul:=hlt _ (List.getElem_mem hil)
   have hll : (us[i]).length ≤ 9223372036854775807:=by
    have:=OkL_map hoku.2 _ (List.getElem_mem hil)
    simp only [Ok] at this
    simpa [maxL] using this.1
   rw [List.drop_eq_getElem_cons hil] at hP
   simp only [passD] at hP
   (try dsimp only[awp]);conv=>whnf
   refine aidx hil ?_
   generalize us[i] = l at *
   (try dsimp only[awp]);conv=>whnf
   refine LoopE.of <| LoopSpec.inv (.refl _ _) (fun (q : Nat)=>q ≤ l.length)
    (fun q=>[(30,.int .i64 q),(7,.bool (rdyD d1 (l.take q)))]) (fun q=>[(1,.arr 1 us.length (d1.map .bool)),(0,.box m.av)]) (fun q=>l.length - q) 0 ?_ (fun _=>rfl) ?_ ?_
   ·exact Nat.zero_le _
   ·refine ⟨?_,.mk ?_ ⟨by simp,by simp,trivial⟩⟩
    ·all_goals exact wk
    ·all_goals exact wk
   rintro q hq _
   (try dsimp only[awp]);conv=>whnf
   refine And.intro (fun hh=>?_) (fun hh=>?_)
   ·have hql : q < l.length:=by simpa using hh
    have hrt:=rdyD_take (d:=d1) hql
    have hk:=hul _ (List.getElem_mem hql)
    (try dsimp only[awp]);conv=>whnf
    refine aidx hql ?_
    generalize l[q] = k at *
    (try dsimp only[awp]);conv=>whnf
    refine And.intro (fun hy=>?_) (fun hy=>?_)
    ·(try dsimp only[awp]);conv=>whnf
     refine ⟨by simp; omega,?_⟩
     (try dsimp only[awp]);conv=>whnf
     refine aidxN' false (i:=k.toNat) (by simp) (by omega) ?_
     refine ⟨rfl,?_⟩
     (try dsimp only[awp]);conv=>whnf
     refine zA ?_;conv=>whnf
     refine ⟨q + 1,?_,?_,?_⟩
     ·exact hql
     ·rw [hrt,hy,Bool.true_and]
      refine ⟨?_,.mk ?_ ⟨by simp,by simp,trivial⟩⟩
      ·all_goals exact wk
      ·all_goals exact wk
     ·omega
    ·(try dsimp only[awp]);conv=>whnf
     refine zA ?_;conv=>whnf
     refine ⟨q + 1,?_,?_,?_⟩
     ·exact hql
     ·rw [hrt,hy,Bool.false_and]
      refine ⟨?_,.mk ?_ ⟨by simp,by simp,trivial⟩⟩
      ·all_goals exact wk
      ·all_goals exact wk
     ·omega
   ·have hql : q = l.length:=by have : ¬ q < l.length:=by simpa using hh
                                omega
    subst hql
    rw [List.take_length]
    (try dsimp only[awp]);conv=>whnf
    refine ⟨by simp; omega,?_⟩
    (try dsimp only[awp]);conv=>whnf
    refine aidxN' false (i:=i) (by simp) (by omega) ?_
    refine ⟨rfl,?_⟩
    (try dsimp only[awp]);conv=>whnf
    refine And.intro (fun hy=>?_) (fun hy=>?_)
    ·(try dsimp only[awp]);conv=>whnf
     refine ⟨by omega,?_⟩
     (try dsimp only[awp]);conv=>whnf
     refine ⟨by simp; omega,rfl,?_⟩
     have hsd : stepD d1 i l = d1.set i true:=by unfold stepD; rw [hy]; rfl
     (try dsimp only[awp]);conv=>whnf
     refine zA ?_;conv=>whnf
     refine ⟨(i + 1,stepD d1 i l),?_,?_,?_⟩
     ·exact ⟨hil,by show (stepD d1 i l).length = _; rw [stepD_len]; exact hd1,hP⟩
     ·rw [hsd]
      refine ⟨?_,.mk ?_ ⟨by simp,by simp,trivial⟩⟩
      ·all_goals exact wk
      ·repeat' first|exact rfl|exact trivial|exact wR|exact lR _|apply aI
       all_goals first | (simp; done) | (rw [show 0 + ((i : Nat) : Int).toNat = i by simp]; exact leRL_set (A:=.tt) (b:=true) rfl d1 i)
     ·show us.length - (i + 1) < us.length - i
      omega
    ·(try dsimp only[awp]);conv=>whnf
     refine ⟨by omega,?_⟩
     (try dsimp only[awp]);conv=>whnf
     refine ⟨by simp; omega,rfl,?_⟩
     have hsd : stepD d1 i l = d1.set i (rdyD d1 l):=by unfold stepD; rw [hy]; rw [Bool.false_or]
     (try dsimp only[awp]);conv=>whnf
     refine zA ?_;conv=>whnf
     refine ⟨(i + 1,stepD d1 i l),?_,?_,?_⟩
     ·exact ⟨hil,by show (stepD d1 i l).length = _; rw [stepD_len]; exact hd1,hP⟩
     ·rw [hsd]
      refine ⟨?_,.mk ?_ ⟨by simp,by simp,trivial⟩⟩
      ·all_goals exact wk
      ·repeat' first|exact rfl|exact trivial|exact wR|exact lR _|apply aI
       all_goals first | (simp; done) | (rw [show 0 + ((i : Nat) : Int).toNat = i by simp]; exact leRL_set (A:=.bool (rdyD d1 l)) (b:=(rdyD d1 l)) rfl d1 i)
     ·show us.length - (i + 1) < us.length - i
      omega
  have hil : i = us.length:=by have : ¬ i < us.length:=by simpa using h
                               omega
  rw [List.drop_eq_nil_of_le (by omega)] at hP
  simp only [passD] at hP
  rw [hP] at hF
  (try dsimp only[awp]);conv=>whnf
  refine zA ?_;conv=>whnf
  refine ⟨(r + 1,d1),?_,?_,?_⟩
  ·exact ⟨hrl,hd1,hF⟩
  ·refine ⟨?_,.mk ?_ ⟨by simp,by simp,trivial⟩⟩
   ·all_goals exact wk
   ·all_goals exact wk
  ·show us.length - (r + 1) < us.length - r
   omega
 have hrl : r = us.length:=by have : ¬ r < us.length:=by simpa using h
                              omega
 rw [hrl,Nat.sub_self] at hF
 simp only [roundsD] at hF
 have hcy : cycU us = d.any fun b=>!b:=by unfold cycU; rw [hF]
 rw [hcy]
 clear h
 (try dsimp only[awp]);conv=>whnf
 refine LoopE.of <| LoopSpec.inv (.refl _ _) (fun (q : Nat)=>q ≤ us.length ∧ ∀ (z : Nat) (hz : z < d.length),z < q → d[z] = true)
  (fun q=>[(56,.int .i64 q)]) (fun q=>[(1,.arr 1 us.length (d.map .bool)),(0,.box m.av)]) (fun q=>us.length - q) 0 ?_ (fun _=>rfl) ?_ ?_
 ·exact ⟨Nat.zero_le _,by omega⟩
 ·refine ⟨?_,.mk ?_ ⟨by simp,by simp,trivial⟩⟩
  ·all_goals exact wk
  ·all_goals exact wk
 rintro q ⟨hq,hz⟩ _
 (try dsimp only[awp]);conv=>whnf
 refine And.intro (fun hh=>?_) (fun hh=>?_)
 ·have hql : q < us.length:=by simpa using hh
  have hqd : q < d.length:=by omega
  (try dsimp only[awp]);conv=>whnf
  refine ⟨by omega,?_⟩
  (try dsimp only[awp]);conv=>whnf
  refine aidxN' false (i:=q) (by simp) hqd ?_
  refine ⟨rfl,?_⟩
  rw [getD_lt' hqd]
  (try dsimp only[awp]);conv=>whnf
  refine And.intro (fun hy=>?_) (fun hy=>?_)
  ·rw [show (d.any fun b=>!b) = true from List.any_eq_true.2 ⟨d[q],List.getElem_mem hqd,by simpa using hy⟩]
   (try dsimp only[awp]);conv=>whnf
   refine fM ?_;(conv=>whnf);refine ⟨?_,rfl⟩;conv=>whnf
   all_goals exact wk
  ·(try dsimp only[awp]);conv=>whnf
   refine zA ?_;conv=>whnf
   refine ⟨q + 1,?_,?_,?_⟩
   ·refine ⟨hql,fun z hz1 hzq=>?_⟩
    by_cases e : z = q
    ·subst e; simpa using hy
    ·exact hz z hz1 (by omega)
   ·refine ⟨?_,.mk ?_ ⟨by simp,by simp,trivial⟩⟩
    ·all_goals exact wk
    ·all_goals exact wk
   ·omega
 have hql : q = us.length:=by have : ¬ q < us.length:=by simpa using hh
                              omega
 rw [show (d.any fun b=>!b) = false from List.any_eq_false.2 fun b hb=>by
  obtain ⟨z,hz1,rfl⟩:=List.getElem_of_mem hb
  simp [hz z hz1 (by omega)]]
 (try dsimp only[awp]);conv=>whnf
 refine fM ?_;(conv=>whnf);refine ⟨?_,rfl⟩;conv=>whnf
 all_goals exact wk

theorem findR_res {m : Md} {a : Int} {s : Str} (h : okN m (resOn m a s)) : findR m a s = resOn m a s:=by
 unfold findR
 by_cases h1 : 0 ≤ i_event m.evs s
 ·rw [if_pos h1]; unfold resOn; rw [if_pos h1]
 by_cases h2 : 0 ≤ i_house m.hs s
 ·rw [if_neg h1,if_pos h2]; unfold resOn; rw [if_neg h1,if_pos h2]
 have e : resOn m a s = (2,a,i_gate (gatesM m a) s):=by unfold resOn; rw [if_neg h1,if_neg h2]
 rw [e] at h ⊢
 have h3 : 0 ≤ i_gate (gatesM m a) s:=by
  rcases h with h | h | h
  ·exact absurd (show (2 : Int) = 0 from h.1) (by decide)
  ·exact absurd (show (2 : Int) = 1 from h.1) (by decide)
  ·exact (mem_all.1 h).2.2.1
 rw [if_neg h1,if_neg h2,if_pos h3]

theorem find_res {m : Md} {a : Int} {s : Str} (h : okN m (resR m a s)) (hp : atS s = true → 0 ≤ i_page m.pages (s.drop 1)) : findX m a s = resR m a s:=by
 unfold findX
 by_cases e : atS s = true
 ·have hr : resR m a s = resOn m (i_page m.pages (s.drop 1)) (pageTop m (i_page m.pages (s.drop 1))):=if_pos e
  have:=hp e
  rw [hr] at h ⊢
  rw [if_pos e,if_neg (by omega),findR_res h]
 ·have hr : resR m a s = resOn m a s:=if_neg e
  rw [hr] at h ⊢
  rw [if_neg e,findR_res h]

theorem uses_kids {m : Md} (hc : ClosedM m) {x : Node} (hx : x ∈ allNodes m) : usesAt m x = ((kidsM m x).filter fun y=>decide (y.1 = 2)).map (numR m):=by
 unfold usesAt usesL kidsM
 have : (gateAt m x).ins.map (findX m x.2.1) = (gateAt m x).ins.map (resR m x.2.1):=List.map_congr_left fun s hs=>find_res (hc x hx s hs).2.2 (hc x hx s hs).2.1
 rw [this]

def LeD (d e : List Bool) : Prop:=∀ i : Nat,d.getD i false = true → e.getD i false = true

theorem LeD.refl (d : List Bool) : LeD d d:=fun _ h=>h
theorem LeD.trans {a b c : List Bool} (h : LeD a b) (g : LeD b c) : LeD a c:=fun i e=>g i (h i e)

theorem getD_set {d : List Bool} {i j : Nat} {b : Bool} : (d.set i b).getD j false = if i = j ∧ j < d.length then b else d.getD j false:=by
 rw [List.getD_eq_getElem?_getD,List.getElem?_set,List.getD_eq_getElem?_getD]
 by_cases e : i = j
 ·subst e
  by_cases h : i < d.length
  ·simp [h]
  ·simp [h]
 ·simp [e]

theorem rdyD_le {d e : List Bool} (h : LeD d e) {l : List Int} (hr : rdyD d l = true) : rdyD e l = true:=by
 unfold rdyD at hr ⊢
 exact List.all_eq_true.2 fun k hk=>h _ (List.all_eq_true.1 hr k hk)

theorem stepD_le {d : List Bool} {i : Nat} {l : List Int} : LeD d (stepD d i l):=by
 intro j h
 unfold stepD
 rw [getD_set]
 split
 ·rename_i e; rw [e.1,h,Bool.true_or]
 ·exact h

theorem passD_le : ∀ (us : List (List Int)) (i : Nat) (d : List Bool),LeD d (passD i us d)
 | [],_,d=>.refl d
 | l :: us,i,d=>stepD_le.trans (passD_le us (i + 1) _)

theorem passD_len : ∀ (us : List (List Int)) (i : Nat) (d : List Bool),(passD i us d).length = d.length
 | [],_,_=>rfl
 | l :: us,i,d=>by simp only [passD]; rw [passD_len us,stepD_len]

theorem pass_ready : ∀ (us : List (List Int)) (j : Nat) (d : List Bool) (k : Nat) (h : k < us.length),j + k < d.length → rdyD d us[k] = true → (passD j us d).getD (j + k) false = true
 | [],_,_,_,h,_,_=>absurd h (by simp)
 | l :: us,j,d,0,_,hd,hr=>by
   simp only [passD]
   refine passD_le us (j + 1) _ _ ?_
   unfold stepD
   rw [getD_set,if_pos ⟨rfl,hd⟩]
   have hr : rdyD d l = true:=hr
   rw [hr,Bool.or_true]
 | l :: us,j,d,k + 1,h,hd,hr=>by
   simp only [passD]
   have:=pass_ready us (j + 1) (stepD d j l) k (by simpa using h) (by rw [stepD_len]; omega) (rdyD_le stepD_le hr)
   rw [show j + (k + 1) = j + 1 + k by omega]
   exact this

theorem cnt_lt : ∀ (d e : List Bool),d.length = e.length → LeD d e → e.count false ≤ d.count false ∧ ((∃ i : Nat,i < d.length ∧ d.getD i false = false ∧ e.getD i false = true) → e.count false < d.count false)
 | [],[],_,_=>⟨Nat.le_refl _,by rintro ⟨i,h,_⟩; simp at h⟩
 | [],_ :: _,h,_=>by simp at h
 | _ :: _,[],h,_=>by simp at h
 | x :: d,y :: e,h,hl=>by
   obtain ⟨h1,h2⟩:=cnt_lt d e (by simpa using h) fun i hi=>by simpa using hl (i + 1) (by simpa using hi)
   have h0 : x = true → y = true:=fun hx=>by simpa using hl 0 (by simpa using hx)
   simp only [List.count_cons]
   refine ⟨?_,?_⟩
   ·cases x <;> cases y <;> simp_all <;> omega
   ·rintro ⟨i,hi,hd,he⟩
    cases i with
    | zero =>
      have hd : x = false:=by simpa using hd
      have he : y = true:=by simpa using he
      subst hd; subst he
      simp; omega
    | succ i =>
      have h3:=h2 ⟨i,by simpa using hi,by simpa using hd,by simpa using he⟩
      cases x <;> cases y <;> simp_all <;> omega

theorem ready_min {us : List (List Int)} {d : List Bool} {rk : Nat → Nat} (hrk : ∀ (i : Nat) (h : i < us.length),∀ k ∈ us[i],k.toNat < us.length ∧ rk k.toNat < rk i) :
  ∀ (R i : Nat),i < us.length → rk i ≤ R → d.getD i false = false → ∃ (j : Nat) (h : j < us.length),d.getD j false = false ∧ rdyD d us[j] = true
 | R,i,hi,hR,hd=>by
   by_cases hr : rdyD d us[i] = true
   ·exact ⟨i,hi,hd,hr⟩
   have : ∃ k ∈ us[i],d.getD k.toNat false = false:=by
    unfold rdyD at hr
    rw [Bool.not_eq_true,List.all_eq_false] at hr
    obtain ⟨k,hk,h⟩:=hr
    exact ⟨k,hk,by simpa using h⟩
   obtain ⟨k,hk,hkd⟩:=this
   obtain ⟨h1,h2⟩:=hrk i hi k hk
   match R,hR with
   | 0,hR=>omega
   | R + 1,hR=>exact ready_min hrk R k.toNat h1 (by omega) hkd

theorem count_pos {d : List Bool} (h : d.count false ≠ 0) : ∃ i : Nat,i < d.length ∧ d.getD i false = false:=by
 have : false ∈ d:=List.count_pos_iff.1 (by omega)
 obtain ⟨i,hi,e⟩:=List.getElem_of_mem this
 exact ⟨i,hi,by rw [getD_lt' hi]; exact e⟩

theorem rounds_cnt {us : List (List Int)} {rk : Nat → Nat} (hrk : ∀ (i : Nat) (h : i < us.length),∀ k ∈ us[i],k.toNat < us.length ∧ rk k.toNat < rk i) :
  ∀ (r : Nat) (d : List Bool),d.length = us.length → d.count false ≤ r → (roundsD us r d).count false = 0
 | 0,d,_,h=>by simp only [roundsD]; omega
 | r + 1,d,hd,h=>by
   simp only [roundsD]
   refine rounds_cnt hrk r _ (by rw [passD_len]; exact hd) ?_
   obtain ⟨h1,h2⟩:=cnt_lt d (passD 0 us d) (passD_len us 0 d).symm (passD_le us 0 d)
   by_cases h0 : d.count false = 0
   ·omega
   obtain ⟨i,hi,hid⟩:=count_pos h0
   obtain ⟨j,hj,hjd,hjr⟩:=ready_min hrk (rk i) i (by omega) (Nat.le_refl _) hid
   have:=h2 ⟨j,by omega,hjd,by have:=pass_ready us 0 d j hj (by omega) hjr; rwa [Nat.zero_add] at this⟩
   omega

theorem cycU_false {us : List (List Int)} {rk : Nat → Nat} (hrk : ∀ (i : Nat) (h : i < us.length),∀ k ∈ us[i],k.toNat < us.length ∧ rk k.toNat < rk i) : cycU us = false:=by
 have:=rounds_cnt hrk us.length (List.replicate us.length false) (by simp) (by rw [List.count_replicate_self]; exact Nat.le_refl _)
 unfold cycU doneD
 rw [List.any_eq_false]
 intro b hb
 have h0:=List.count_eq_zero.1 this
 cases b
 ·exact absurd hb h0
 ·simp

def InvD (us : List (List Int)) (d : List Bool) : Prop:=∃ rk : Nat → Nat,∀ i,d.getD i false = true → ∀ k ∈ us.getD i [],d.getD k.toNat false = true ∧ rk k.toNat < rk i

theorem sumI_ge {rk : Nat → Nat} : ∀ {l : List Int} {k : Int},k ∈ l → rk k.toNat ≤ (l.map fun k=>rk k.toNat).sum
 | [],_,h=>by simp at h
 | x :: l,k,h=>by
   simp only [List.map_cons,List.sum_cons]
   rcases List.mem_cons.1 h with rfl | h
   ·omega
   ·have:=sumI_ge (rk:=rk) h; omega

theorem InvD.step {us : List (List Int)} {d : List Bool} (h : InvD us d) {i : Nat} {l : List Int} (hl : us.getD i [] = l) : InvD us (stepD d i l):=by
 obtain ⟨rk,hr⟩:=h
 by_cases h0 : d.getD i false = false ∧ rdyD d l = true
 ·obtain ⟨h1,h2⟩:=h0
  have hne : ∀ j,d.getD j false = true → j ≠ i:=fun j hj e=>by rw [e,h1] at hj; cases hj
  refine ⟨fun j=>if j = i then 1 + (l.map fun k=>rk k.toNat).sum else rk j,fun j hj k hk=>?_⟩
  by_cases e : j = i
  ·subst e
   rw [hl] at hk
   have hkd:=List.all_eq_true.1 h2 k hk
   refine ⟨stepD_le _ hkd,?_⟩
   dsimp only
   rw [if_neg (hne _ hkd),if_pos rfl]
   have:=sumI_ge (rk:=rk) hk
   omega
  ·have hj : d.getD j false = true:=by
    unfold stepD at hj
    rw [getD_set,if_neg (fun h=>e h.1.symm)] at hj
    exact hj
   obtain ⟨g1,g2⟩:=hr j hj k hk
   refine ⟨stepD_le _ g1,?_⟩
   dsimp only
   rw [if_neg (hne _ g1),if_neg e]
   exact g2
 ·have heq : ∀ j,(stepD d i l).getD j false = d.getD j false:=by
   intro j
   unfold stepD
   rw [getD_set]
   split
   ·rename_i e
    obtain ⟨rfl,_⟩:=e
    cases h1 : d.getD i false
    ·cases h2 : rdyD d l
     ·rfl
     ·exact absurd ⟨h1,h2⟩ h0
    ·rfl
   ·rfl
  refine ⟨rk,fun j hj k hk=>?_⟩
  rw [heq] at hj
  rw [heq]
  exact hr j hj k hk

theorem InvD.pass {us : List (List Int)} : ∀ (l : List (List Int)) (i : Nat) (d : List Bool),us.drop i = l → InvD us d → InvD us (passD i l d)
 | [],_,_,_,h=>h
 | x :: l,i,d,hl,h=>by
   simp only [passD]
   have h1 : us[i]? = some x:=by rw [← List.head?_drop,hl]; rfl
   have h2 : us.drop (i + 1) = l:=by rw [← List.tail_drop,hl]; rfl
   exact InvD.pass l (i + 1) _ h2 (h.step (by rw [List.getD_eq_getElem?_getD,h1]; rfl))

theorem InvD.rounds {us : List (List Int)} : ∀ (r : Nat) (d : List Bool),InvD us d → InvD us (roundsD us r d)
 | 0,_,h=>h
 | r + 1,d,h=>by simp only [roundsD]; exact InvD.rounds r _ (InvD.pass us 0 d rfl h)

theorem roundsD_len {us : List (List Int)} : ∀ (r : Nat) (d : List Bool),(roundsD us r d).length = d.length
 | 0,_=>rfl
 | r + 1,d=>by simp only [roundsD]; rw [roundsD_len r,passD_len]

theorem cycU_rank {us : List (List Int)} (h : cycU us = false) : ∃ rk : Nat → Nat,∀ i,i < us.length → ∀ k ∈ us.getD i [],rk k.toNat < rk i:=by
 obtain ⟨rk,hr⟩:=InvD.rounds us.length (List.replicate us.length false) (us:=us) ⟨fun _=>0,fun i hi=>by
  exfalso
  rw [List.getD_eq_getElem?_getD,List.getElem?_replicate] at hi
  split at hi <;> simp at hi⟩
 refine ⟨rk,fun i hi k hk=>(hr i ?_ k hk).2⟩
 unfold cycU doneD at h
 have hlen : (roundsD us us.length (List.replicate us.length false)).length = us.length:=by rw [roundsD_len]; simp
 rw [List.any_eq_false] at h
 rw [getD_lt' (by omega)]
 simpa using h _ (List.getElem_mem (by omega))

theorem cyc_of_rank {m : Md} (hc : ClosedM m) {rank : Node → Nat} (hr : RankM m rank) : cycR m = false:=by
 unfold cycR
 have key : ∀ (l : List Node) (s : WS Unit),(∀ y ∈ l,okN m y) → (∀ z,look s.es z ≠ 1) → (kidsF (walk0 m) l s).1 = false:=by
  intro l
  induction l with
  | nil=>intro s _ _; rfl
  | cons y l ih =>
    intro s hl hs
    obtain ⟨w1,w2⟩:=walk_false (step:=fun (_ : Unit) _=>()) (okN m) (fun x hx h2=>(okN_kids hc hx h2).2) rank hr (fuelM m) y s (hl y (by simp)) (fun _ z hz=>absurd hz (hs z))
    simp only [kidsF]
    rw [if_neg (by show ¬ (walkF (kidsM m) (fun _ _=>()) (fuelM m) y s).1 = true; rw [w1]; simp)]
    exact ih _ (fun z hz=>hl z (by simp [hz])) fun z hz=>hs z (w2 z hz)
 exact key _ _ (fun y hy=>.inr (.inr hy)) fun z=>by simp [look]

theorem uses_get {m : Md} {x : Node} (hx : x ∈ allNodes m) : (usesM m).getD (numR m x).toNat [] = usesAt m x:=by
 obtain ⟨_,h⟩:=num_get hx
 unfold usesM
 rw [List.getD_eq_getElem?_getD,List.getElem?_map,h]; rfl

theorem cyc_eq {m : Md} (hc : ClosedM m) : cycU (usesM m) = cycR m:=by
 cases h : cycR m
 ·obtain ⟨rank,hr⟩:=cyc_rank hc h
  refine cycU_false (rk:=fun i=>rank ((allNodes m).getD i default)) fun i hi k hk=>?_
  have hiN : i < (allNodes m).length:=by simpa [usesM] using hi
  have hx:=List.getElem_mem hiN
  have hui : (usesM m)[i] = usesAt m (allNodes m)[i]:=by simp [usesM]
  rw [hui,uses_kids hc hx] at hk
  obtain ⟨y,hy,rfl⟩:=List.mem_map.1 hk
  obtain ⟨hy,h2⟩:=List.mem_filter.1 hy
  have h2 : y.1 = 2:=of_decide_eq_true h2
  have hyo:=(okN_kids hc (.inr (.inr hx)) (mem_all.1 hx).1).2 y hy
  obtain ⟨g1,g2⟩:=num_get (okN_kids hc hyo h2).1
  have g3:=(List.getElem?_eq_some_iff.1 g2).1
  refine ⟨by simpa [usesM] using g3,?_⟩
  rw [getD_lt' hiN,List.getD_eq_getElem?_getD,g2]
  exact hr _ (.inr (.inr hx)) (mem_all.1 hx).1 y hy h2
 ·cases h2 : cycU (usesM m)
  ·exfalso
   obtain ⟨rk,hr⟩:=cycU_rank h2
   have : cycR m = false:=cyc_of_rank hc (rank:=fun x=>rk (numR m x).toNat) fun x hx hx2 y hy hy2=>by
    have hxm:=(okN_kids hc hx hx2).1
    obtain ⟨_,g2⟩:=num_get hxm
    have g3:=(List.getElem?_eq_some_iff.1 g2).1
    refine hr (numR m x).toNat (by simpa [usesM] using g3) (numR m y) ?_
    rw [uses_get hxm,uses_kids hc hxm]
    exact List.mem_map.2 ⟨y,List.mem_filter.2 ⟨hy,by simpa using hy2⟩,rfl⟩
   rw [this] at h; cases h
  ·rfl

theorem MdX.gatesM {m : Md} (hX : MdX m) {a : Int} (ha : a = -1 ∨ (0 ≤ a ∧ a < (m.pages.length : Int))) : ∀ x ∈ gatesM m a,shortX x.dorm:=by
 unfold S.gatesM
 split
 ·exact hX.gates
 ·exact hX.pages _ (getD_mem (by omega))

theorem top_noAt {m : Md} (h1 : eventsErr m = 0) (h2 : gatesErrAll m = 0) (h3 : insAll m (atsM m) [] = 0) : ∀ p : Int,0 ≤ p → p < (m.pages.length : Int) → atS (pageTop m p) = false:=by
 intro p hp0 hp1
 have hp : p = -1 ∨ (0 ≤ p ∧ p < (m.pages.length : Int)):=.inr ⟨hp0,hp1⟩
 obtain ⟨sp,hs⟩:=insAll_in h3 p (ats_mem.2 hp)
 rcases (pageIns_in hs).2 (by omega) with h | h
 ·obtain ⟨i,hi,_,e⟩:=idx_name h
  have:=gatesErrAll_zero h2 hp i hi
  unfold gateErrM at this
  split at this
  ·cases this
  rename_i g
  rw [← e]
  exact name_noAt (by simpa using g)
 ·obtain ⟨i,hi,_,e⟩:=idx_name h
  have:=(eventsErr_zero h1).2.2.1 i hi
  unfold evErr at this
  split at this
  ·cases this
  rename_i g
  rw [← e]
  exact name_noAt (by simpa using g)

theorem uses_short {m : Md} (hB : MdB m) : (usesM m).length ≤ 100000:=by
 have e:=drop_off (m:=m) (k:=m.pages.length + 1) (Nat.le_refl _)
 rw [nodesFrom_end (Nat.le_refl _)] at e
 have:=List.drop_eq_nil_iff.1 e
 have:=offR_le hB (k:=m.pages.length + 1) (Nat.le_refl _)
 have:=hB.pages
 simp only [usesM,List.length_map]
 omega

theorem checkM_first (m : Md) : checkM m = if firstR m ≠ 0 then firstR m else if gatesErrAll m ≠ 0 then gatesErrAll m else if inputsR m ≠ 0 then inputsR m
  else if groupsErr m ≠ 0 then groupsErr m else if phasesErr m ≠ 0 then phasesErr m else if cycR m = true then 14 else 0:=by
 unfold checkM firstR inputsR
 by_cases h1 : nameR m.name = false
 ·rw [if_pos h1,if_pos h1,if_pos (by decide)]
 rw [if_neg h1,if_neg h1]
 by_cases h2 : eventsErr m ≠ 0
 ·rw [if_pos h2,if_pos h2,if_pos h2]
 rw [if_neg h2,if_neg h2]
 by_cases h3 : pagesErr m ≠ 0
 ·rw [if_pos h3,if_pos h3]
 rw [if_neg h3,if_neg h3]
 by_cases h4 : gatesErrAll m ≠ 0
 ·rw [if_pos h4,if_pos h4]
 rw [if_neg h4,if_neg h4]
 by_cases h5 : insAll m (atsM m) [] ≠ 0
 ·rw [if_pos h5,if_pos h5,if_pos h5]
 rw [if_neg h5,if_neg h5]
 by_cases h6 : isInR m (-1) m.top = false
 ·rw [if_pos h6,if_pos h6,if_pos (by decide)]
 ·rw [if_neg h6,if_neg h6,if_neg (show ¬ (0 : Int) ≠ 0 by decide)]

theorem first_zero {m : Md} (h : firstR m = 0) : eventsErr m = 0:=by
 unfold firstR at h
 split at h
 ·cases h
 split at h
 ·rename_i h1; exact absurd h h1
 ·rename_i h1; simpa using h1

theorem c_refCheck (h1c : OneC) (m : Md) (hX : MdX m) (hB : MdB m) (R : AV) (hR : R = .int .i64 (checkM m)) : FnH Tryz.prog 9 [m.av] [] R []:=by
 have hpl:=hB.pages
 have cf:=c_first h1c m hX hB _ rfl
 have ci:=c_inputs m hB _ rfl
 have cg:=c_groups h1c m hX hB _ rfl
 have cp:=c_phases h1c m hX hB _ rfl
 refine FnH.intro lay mixed Tryz.func9 (by kernel_rfl) rfl (by kernel_rfl) rfl fun hok=>?_
 (try dsimp only[argC,succC]);(try dsimp only[awp]);conv=>whnf
 refine .pure _ _ ?_ ⟨rfl,rfl⟩ cf fun _=>?_
 ·exact leL_refl _
 (try dsimp only[awp]);conv=>whnf
 refine And.intro (fun g1=>?_) (fun g1=>?_)
 ·obtain rfl : R = .int .i64 (firstR m):=by rw [hR,checkM_first]; rw [if_pos g1]
  (try dsimp only[awp]);conv=>whnf
  refine fM ?_;(conv=>whnf);refine ⟨?_,rfl⟩;conv=>whnf
  all_goals exact wk
 have z1 : firstR m = 0:=by simpa using g1
 (try dsimp only[awp]);conv=>whnf
 refine LoopE.of <| LoopSpec.inv (.refl _ _) (fun (k : Nat)=>k ≤ m.pages.length + 1 ∧ gatesErrAll m = errL (fun _ a=>errL (gateErrM m a) 0 (gatesM m a)) k ((atsM m).drop k)) (fun (k : Nat)=>[(4,.int .i64 ((k : Int) - 1))]) (fun _=>_) (fun (k : Nat)=>m.pages.length + 1 - k) 0 ?_ (fun _=>rfl) ?_ ?_
 ·exact ⟨Nat.zero_le _,rfl⟩
 ·all_goals exact wk
 rintro k ⟨hk,hn⟩ _
 (try dsimp only[awp]);conv=>whnf
 refine And.intro (fun h=>?_) (fun h=>?_)
 ·have hkl : k < m.pages.length + 1:=by simp only [List.length_map] at h; omega
  have ha : (k : Int) - 1 = -1 ∨ (0 ≤ (k : Int) - 1 ∧ (k : Int) - 1 < (m.pages.length : Int)):=by omega
  rw [drop_of_get? (ats_get hkl)] at hn
  simp only [errL] at hn
  have cG:=c_rGates m _ ha
  have hXa:=hX.gatesM ha
  have cs:=fun i hi=>c_shape h1c m ((k : Int) - 1) i ha hi (hXa _ (List.getElem_mem hi)) _ rfl
  have hBa:=(hB.gatesM ha).1
  clear h
  generalize hage : (k : Int) - 1 = a at *
  (try dsimp only[awp]);conv=>whnf
  refine .pure _ _ ?_ ⟨rfl,rfl⟩ cG fun _=>?_
  ·exact leL_refl _
  (try dsimp only[awp]);conv=>whnf
  refine LoopE.of <| LoopSpec.inv (.refl _ _) (fun (i : Nat)=>i ≤ (gatesM m a).length ∧ errL (gateErrM m a) 0 (gatesM m a) = errL (gateErrM m a) i ((gatesM m a).drop i)) (fun (i : Nat)=>[(25,.int .i64 i)]) (fun _=>_) (fun (i : Nat)=>(gatesM m a).length - i) 0 ?_ (fun _=>rfl) ?_ ?_
  ·exact ⟨Nat.zero_le _,rfl⟩
  ·all_goals exact wk
  rintro i ⟨hi,hni⟩ _
  (try dsimp only[awp]);conv=>whnf
  refine And.intro (fun h=>?_) (fun h=>?_)
  ·have hil : i < (gatesM m a).length:=by simpa using h
   have cs:=cs i hil
   rw [errL_step hil] at hni
   clear h
   generalize gateErrM m a i (gatesM m a)[i] = e at *
   (try dsimp only[awp]);conv=>whnf
   refine .pure _ _ ?_ ⟨rfl,rfl⟩ cs fun _=>?_
   ·exact leL_refl _
   (try dsimp only[awp]);conv=>whnf
   refine And.intro (fun g2=>?_) (fun g2=>?_)
   ·rw [if_pos g2] at hni
    rw [hni,if_pos g2] at hn
    obtain rfl : R = .int .i64 (e):=by rw [hR,checkM_first]; rw [if_neg g1,hn,if_pos g2]
    (try dsimp only[awp]);conv=>whnf
    refine fM ?_;(conv=>whnf);refine ⟨?_,rfl⟩;conv=>whnf
    all_goals exact wk
   ·rw [if_neg g2] at hni
    (try dsimp only[awp]);conv=>whnf
    refine zA ?_;conv=>whnf
    refine ⟨i + 1,?_,?_,?_⟩
    ·exact ⟨hil,hni⟩
    ·all_goals exact wk
    ·omega
  have hil : i = (gatesM m a).length:=by have : ¬ i < (gatesM m a).length:=by simpa using h
                                         omega
  rw [errL_end (by omega)] at hni
  rw [hni,if_neg (by simp)] at hn
  (try dsimp only[awp]);conv=>whnf
  refine zA ?_;conv=>whnf
  refine ⟨k + 1,?_,?_,?_⟩
  ·exact ⟨hkl,hn⟩
  ·refine ⟨?_,.mk ?_ ⟨by simp,trivial⟩⟩
   ·repeat' first|exact rfl|exact trivial|exact wR|exact lR _|apply aI
    all_goals (show _ = _; congr 1 <;> omega)
   ·all_goals exact wk
  ·omega
 have hkl : m.pages.length + 1 ≤ k:=by simp only [List.length_map] at h; omega
 rw [List.drop_eq_nil_of_le (by rw [ats_len]; omega)] at hn
 simp only [errL] at hn
 have g2 : ¬ gatesErrAll m ≠ 0:=by rw [hn]; simp
 have z2:=hn
 clear h hn hk hkl
 have hck:=checkM_first m
 rw [if_neg g1,if_neg g2] at hck
 have hz : inputsR m = 0 → eventsErr m = 0 ∧ insAll m (atsM m) [] = 0:=by
  intro h
  refine ⟨first_zero z1,?_⟩
  unfold inputsR at h
  split at h
  ·rename_i h1; exact absurd h h1
  ·rename_i h1; simpa using h1
 generalize inputsR m = e1 at *
 generalize groupsErr m = e2 at *
 generalize phasesErr m = e3 at *
 (try dsimp only[awp]);conv=>whnf
 refine ADraw.auto (by kernel_rfl) ?_;conv=>whnf
 refine ACallP.pure _ _ ?_ ⟨rfl,rfl⟩ ci ?_
 ·exact leL_refl _
 (try dsimp only[awp]);conv=>whnf
 refine ACallP.pure _ _ ?_ ⟨rfl,rfl⟩ cg ?_
 ·exact leL_refl _
 (try dsimp only[awp]);conv=>whnf
 refine ACallP.pure _ _ ?_ ⟨rfl,rfl⟩ cp ?_
 ·exact leL_refl _
 (try dsimp only[awp]);conv=>whnf
 refine LoopE.step 4 ?_
 (try dsimp only[awp]);conv=>whnf
 refine And.intro (fun _=>?_) (fun h=>absurd (by simp) h)
 (try dsimp only[awp]);conv=>whnf
 refine AIdx.mk ⟨_,⟨by decide,rfl⟩,?_⟩
 (try dsimp only[awp]);conv=>whnf
 refine And.intro (fun g=>?_) (fun g=>?_)
 ·obtain rfl : R = .int .i64 e1:=by rw [hR]; rw [hck,if_pos g]
  (try dsimp only[awp]);conv=>whnf
  refine fM ?_;(conv=>whnf);refine ⟨?_,rfl⟩;conv=>whnf
  all_goals exact wk
 rw [if_neg g] at hck
 have z5 : e1 = 0:=by simpa using g
 clear g
 (try dsimp only[awp]);conv=>whnf
 refine zA ?_;conv=>whnf
 (try dsimp only[awp]);conv=>whnf
 refine And.intro (fun _=>?_) (fun h=>absurd (by simp) h)
 (try dsimp only[awp]);conv=>whnf
 refine AIdx.mk ⟨_,⟨by decide,rfl⟩,?_⟩
 (try dsimp only[awp]);conv=>whnf
 refine And.intro (fun g=>?_) (fun g=>?_)
 ·obtain rfl : R = .int .i64 e2:=by rw [hR]; rw [hck,if_pos g]
  (try dsimp only[awp]);conv=>whnf
  refine fM ?_;(conv=>whnf);refine ⟨?_,rfl⟩;conv=>whnf
  all_goals exact wk
 rw [if_neg g] at hck
 clear g
 (try dsimp only[awp]);conv=>whnf
 refine zA ?_;conv=>whnf
 (try dsimp only[awp]);conv=>whnf
 refine And.intro (fun _=>?_) (fun h=>absurd (by simp) h)
 (try dsimp only[awp]);conv=>whnf
 refine AIdx.mk ⟨_,⟨by decide,rfl⟩,?_⟩
 (try dsimp only[awp]);conv=>whnf
 refine And.intro (fun g=>?_) (fun g=>?_)
 ·obtain rfl : R = .int .i64 e3:=by rw [hR]; rw [hck,if_pos g]
  (try dsimp only[awp]);conv=>whnf
  refine fM ?_;(conv=>whnf);refine ⟨?_,rfl⟩;conv=>whnf
  all_goals exact wk
 rw [if_neg g] at hck
 clear g
 (try dsimp only[awp]);conv=>whnf
 refine zA ?_;conv=>whnf
 refine And.intro (fun h=>absurd h (by simp)) (fun _=>?_)
 obtain ⟨zE,zI⟩:=hz z5
 have hnA:=top_noAt zE z2 zI
 have cc:=c_cycle m hB hnA (uses_short hB)
 rw [cyc_eq (closed_of zE z2 zI)] at cc
 generalize cycR m = cy at *
 (try dsimp only[awp]);conv=>whnf
 refine .pure _ _ ?_ ⟨rfl,rfl⟩ cc fun _=>?_
 ·exact leL_refl _
 (try dsimp only[awp]);conv=>whnf
 refine And.intro (fun g=>?_) (fun g=>?_)
 ·obtain rfl : R = .int .i64 14:=by rw [hR,hck,if_pos g]
  (try dsimp only[awp]);conv=>whnf
  refine fM ?_;(conv=>whnf);refine ⟨?_,rfl⟩;conv=>whnf
  all_goals exact wk
 ·obtain rfl : R = .int .i64 0:=by rw [hR,hck,if_neg (by simpa using g)]
  (try dsimp only[awp]);conv=>whnf
  refine fM ?_;(conv=>whnf);refine ⟨?_,rfl⟩;conv=>whnf
  all_goals exact wk

theorem list_of {α : Type} {f : α → AV} : ∀ {l : List AV},(∀ x ∈ l,∃ y,x = f y) → ∃ m : List α,l = m.map f
 | [],_=>⟨[],rfl⟩
 | x :: l,h=>by
   obtain ⟨y,rfl⟩:=h x (by simp)
   obtain ⟨m,rfl⟩:=list_of (l:=l) fun z hz=>h z (by simp [hz])
   exact ⟨y :: m,rfl⟩

theorem ints_of {sz : Nat} {k : IntKind} {A : AV} (h : (Sh.sl sz (.int k)).In A) : ∃ l : List Int,A = .sl sz (l.map (.int k)) .no:=by
 simp only [Sh.In] at h
 obtain ⟨l,rfl,hl⟩:=h
 obtain ⟨m,rfl⟩:=list_of hl
 exact ⟨m,rfl⟩

abbrev shRat : Sh:=.st [.bool,.sl 1 (.int .u32),.sl 1 (.int .u32)]
theorem Rat.of {A : AV} (h : shRat.In A) : ∃ r : Rat,A = r.av:=by
 simp only [Sh.In,InL] at h
 obtain ⟨_,rfl,_,_,rfl,⟨b,rfl⟩,_,_,rfl,h1,_,_,rfl,h2,rfl⟩:=h
 obtain ⟨n,rfl⟩:=ints_of (sz:=1) (k:=.u32) (by simp only [Sh.In]; exact h1)
 obtain ⟨d,rfl⟩:=ints_of (sz:=1) (k:=.u32) (by simp only [Sh.In]; exact h2)
 exact ⟨⟨b,n,d⟩,rfl⟩

theorem rats_of {A : AV} (h : (Sh.sl 3 shRat).In A) : ∃ l : List Rat,A = .sl 3 (l.map Rat.av) .no:=by
 unfold Sh.In at h
 obtain ⟨l,rfl,hl⟩:=h
 obtain ⟨m,rfl⟩:=list_of fun x hx=>Rat.of (hl x hx)
 exact ⟨m,rfl⟩

theorem int_of {k : IntKind} {A : AV} (h : (Sh.int k).In A) : ∃ n : Int,A = .int k n:=by
 simpa only [Sh.In] using h

theorem str_of {A : AV} (h : Sh.str.In A) : ∃ s : List UInt8,A = .str s:=by
 simpa only [Sh.In] using h

theorem sl_of {α : Type} {f : α → AV} {sh : Sh} {sz : Nat} {A : AV} (hf : ∀ x,sh.In x → ∃ y,x = f y) (h : (Sh.sl sz sh).In A) : ∃ l : List α,A = .sl sz (l.map f) .no:=by
 unfold Sh.In at h
 obtain ⟨l,rfl,hl⟩:=h
 obtain ⟨m,rfl⟩:=list_of fun x hx=>hf x (hl x hx)
 exact ⟨m,rfl⟩

abbrev shEv : Sh:=.st [.str,shRat,shRat,shRat,.int .i64]
abbrev shHs : Sh:=.st [.str,.bool]
abbrev shMg : Sh:=.st [.str,.int .i64,.int .i64,.sl 1 .str,shRat]
abbrev shPg : Sh:=.st [.str,.str,.sl 7 shMg]
abbrev shGr : Sh:=.st [.str,.int .i64,.sl 1 .str,.sl 3 shRat]
abbrev shPv : Sh:=.st [.str,shRat]
abbrev shPh : Sh:=.st [.str,.str,.sl 4 shPv]
abbrev shMd : Sh:=.st [.str,.str,.sl 11 shEv,.sl 2 shHs,.sl 7 shMg,.sl 3 shPg,.sl 4 shGr,.sl 3 shPh]

theorem strs_of {A : AV} (h : (Sh.sl 1 .str).In A) : ∃ l : List Str,A = sL l:=sl_of (f:=AV.str) (fun _ hx=>str_of hx) h

theorem Ev.of {A : AV} (h : shEv.In A) : ∃ x : Ev,A = x.av:=by
 unfold Sh.In at h
 simp only [InL] at h
 obtain ⟨_,rfl,_,_,rfl,h0,_,_,rfl,h1,_,_,rfl,h2,_,_,rfl,h3,_,_,rfl,h4,rfl⟩:=h
 obtain ⟨a,rfl⟩:=str_of h0
 obtain ⟨b,rfl⟩:=Rat.of h1
 obtain ⟨c,rfl⟩:=Rat.of h2
 obtain ⟨d,rfl⟩:=Rat.of h3
 obtain ⟨e,rfl⟩:=int_of h4
 exact ⟨⟨a,b,c,d,e⟩,rfl⟩

theorem Hs.of {A : AV} (h : shHs.In A) : ∃ x : Hs,A = x.av:=by
 unfold Sh.In at h
 simp only [InL] at h
 obtain ⟨_,rfl,_,_,rfl,h0,_,_,rfl,h1,rfl⟩:=h
 obtain ⟨a,rfl⟩:=str_of h0
 simp only [Sh.In] at h1
 obtain ⟨b,rfl⟩:=h1
 exact ⟨⟨a,b⟩,rfl⟩

theorem Mg.of {A : AV} (h : shMg.In A) : ∃ x : Mg,A = x.av:=by
 unfold Sh.In at h
 simp only [InL] at h
 obtain ⟨_,rfl,_,_,rfl,h0,_,_,rfl,h1,_,_,rfl,h2,_,_,rfl,h3,_,_,rfl,h4,rfl⟩:=h
 obtain ⟨a,rfl⟩:=str_of h0
 obtain ⟨b,rfl⟩:=int_of h1
 obtain ⟨c,rfl⟩:=int_of h2
 obtain ⟨d,rfl⟩:=strs_of h3
 obtain ⟨e,rfl⟩:=Rat.of h4
 exact ⟨⟨a,b,c,d,e⟩,rfl⟩

theorem Pg.of {A : AV} (h : shPg.In A) : ∃ x : Pg,A = x.av:=by
 unfold Sh.In at h
 simp only [InL] at h
 obtain ⟨_,rfl,_,_,rfl,h0,_,_,rfl,h1,_,_,rfl,h2,rfl⟩:=h
 obtain ⟨a,rfl⟩:=str_of h0
 obtain ⟨b,rfl⟩:=str_of h1
 obtain ⟨c,rfl⟩:=sl_of (f:=Mg.av) (fun _ hx=>Mg.of hx) h2
 exact ⟨⟨a,b,c⟩,rfl⟩

theorem Gr.of {A : AV} (h : shGr.In A) : ∃ x : Gr,A = x.av:=by
 unfold Sh.In at h
 simp only [InL] at h
 obtain ⟨_,rfl,_,_,rfl,h0,_,_,rfl,h1,_,_,rfl,h2,_,_,rfl,h3,rfl⟩:=h
 obtain ⟨a,rfl⟩:=str_of h0
 obtain ⟨b,rfl⟩:=int_of h1
 obtain ⟨c,rfl⟩:=strs_of h2
 obtain ⟨d,rfl⟩:=rats_of h3
 exact ⟨⟨a,b,c,d⟩,rfl⟩

theorem Pv.of {A : AV} (h : shPv.In A) : ∃ x : Pv,A = x.av:=by
 unfold Sh.In at h
 simp only [InL] at h
 obtain ⟨_,rfl,_,_,rfl,h0,_,_,rfl,h1,rfl⟩:=h
 obtain ⟨a,rfl⟩:=str_of h0
 obtain ⟨b,rfl⟩:=Rat.of h1
 exact ⟨⟨a,b⟩,rfl⟩

theorem Ph.of {A : AV} (h : shPh.In A) : ∃ x : Ph,A = x.av:=by
 unfold Sh.In at h
 simp only [InL] at h
 obtain ⟨_,rfl,_,_,rfl,h0,_,_,rfl,h1,_,_,rfl,h2,rfl⟩:=h
 obtain ⟨a,rfl⟩:=str_of h0
 obtain ⟨b,rfl⟩:=str_of h1
 obtain ⟨c,rfl⟩:=sl_of (f:=Pv.av) (fun _ hx=>Pv.of hx) h2
 exact ⟨⟨a,b,c⟩,rfl⟩

theorem Md.of {A : AV} (h : shMd.In A) : ∃ x : Md,A = x.av:=by
 unfold Sh.In at h
 simp only [InL] at h
 obtain ⟨_,rfl,_,_,rfl,h0,_,_,rfl,h1,_,_,rfl,h2,_,_,rfl,h3,_,_,rfl,h4,_,_,rfl,h5,_,_,rfl,h6,_,_,rfl,h7,rfl⟩:=h
 obtain ⟨a,rfl⟩:=str_of h0
 obtain ⟨b,rfl⟩:=str_of h1
 obtain ⟨c,rfl⟩:=sl_of (f:=Ev.av) (fun _ hx=>Ev.of hx) h2
 obtain ⟨d,rfl⟩:=sl_of (f:=Hs.av) (fun _ hx=>Hs.of hx) h3
 obtain ⟨e,rfl⟩:=sl_of (f:=Mg.av) (fun _ hx=>Mg.of hx) h4
 obtain ⟨f,rfl⟩:=sl_of (f:=Pg.av) (fun _ hx=>Pg.of hx) h5
 obtain ⟨g,rfl⟩:=sl_of (f:=Gr.av) (fun _ hx=>Gr.of hx) h6
 obtain ⟨i,rfl⟩:=sl_of (f:=Ph.av) (fun _ hx=>Ph.of hx) h7
 exact ⟨⟨a,b,c,d,e,f,g,i⟩,rfl⟩

structure Ak where
 page : Int
 inp : Str
 old : Str
 new : Str


theorem MOk.noAt {m : Md} (h : MOk m) : ∀ p : Int,0 ≤ p → p < (m.pages.length : Int) → atS (pageTop m p) = false:=top_noAt h.evs h.gates h.ins

theorem okN_nonneg {m : Md} {x : Node} (h : okN m x) : 0 ≤ x.1:=by
 rcases h with h | h | h
 ·omega
 ·omega
 ·have:=(mem_all.1 h).1; omega

theorem findX_in {m : Md} (hM : MOk m) {a : Int} (ha : a = -1 ∨ (0 ≤ a ∧ a < (m.pages.length : Int))) {s : Str} (hs : isInR m a s = true) : findX m a s = resR m a s ∧ 0 ≤ (findX m a s).1:=by
 have hi:=hM.inOk ha hs
 have e:=find_res hi.ok hi.pg
 rw [e]
 exact ⟨rfl,okN_nonneg hi.ok⟩

theorem findX_out {m : Md} {a : Int} {s : Str} (hs : isInR m a s = false) : (findX m a s).1 < 0:=by
 cases e : atS s
 ·rw [find_in e] at hs
  have:=of_decide_eq_false hs
  omega
 ·have h : isInR m a s = decide (0 ≤ i_page m.pages (s.drop 1)):=if_pos e
  rw [h] at hs
  have:=of_decide_eq_false hs
  unfold findX
  rw [if_pos e,if_pos (by omega)]
  decide


def markB (d : List Bool) (i : Nat) (k : Int) : List Bool:=d.set k.toNat (d.getD k.toNat false || d.getD i false)
def marksB (i : Nat) : List Int → List Bool → List Bool
 | [],d=>d
 | k :: l,d=>marksB i l (markB d i k)
def passB : Nat → List (List Int) → List Bool → List Bool
 | _,[],d=>d
 | i,l :: us,d=>passB (i + 1) us (marksB i l d)
def roundsB (us : List (List Int)) : Nat → List Bool → List Bool
 | 0,d=>d
 | r + 1,d=>roundsB us r (passB 0 us d)
def belowU (us : List (List Int)) (f : Nat) : List Bool:=roundsB us us.length ((List.replicate us.length false).set f true)

theorem markB_len {d : List Bool} {i : Nat} {k : Int} : (markB d i k).length = d.length:=by simp [markB]

theorem leRL_setff : ∀ (n i : Nat),leRL ((List.replicate n AV.ff).set i .tt) (((List.replicate n false).set i true).map AV.bool)
 | 0,_=>trivial
 | n + 1,0=>⟨rfl,leRL_false n⟩
 | n + 1,i + 1=>⟨rfl,leRL_setff n i⟩

abbrev dL (d : List Bool) : AV:=.sl 1 (d.map AV.bool) .no

theorem c_Below (m : Md) (hB : MdB m) (ht : ∀ p : Int,0 ≤ p → p < (m.pages.length : Int) → atS (pageTop m p) = false) (hn : (usesM m).length ≤ 100000) (f : Nat) (hf : f < (usesM m).length) : FnH Tryz.prog 96 [m.av,.int .i64 f] [] (dL (belowU (usesM m) f)) []:=by
 have cu:=c_uses m hB ht _ rfl
 have hlt:=uses_lt (m:=m)
 refine FnH.intro lay mixed Tryz.func96 (by kernel_rfl) rfl (by kernel_rfl) rfl fun hok=>?_
 (try dsimp only[argC,succC]);(try dsimp only[awp]);conv=>whnf
 refine .pure _ _ ?_ ⟨rfl,rfl⟩ cu fun hoku=>?_
 ·exact leL_refl _
 generalize usesM m = us at *
 (try dsimp only[awp]);conv=>whnf
 rw [show (((us.map zL).length : Nat) : Int) = (us.length : Int) by simp]
 refine ⟨⟨by omega,by omega,by simp; omega,by omega⟩,.wr ?_⟩
 (try dsimp only[awp]);conv=>whnf
 refine ⟨by omega,?_⟩
 (try dsimp only[awp]);conv=>whnf
 refine ⟨by simp; omega,rfl,?_⟩
 (try dsimp only[awp]);conv=>whnf
 refine LoopE.of <| LoopSpec.inv (.refl _ _) (fun (q : Nat × List Bool)=>q.1 ≤ us.length ∧ q.2.length = us.length ∧ roundsB us (us.length - q.1) q.2 = belowU us f)
  (fun q=>[(21,.int .i64 q.1)]) (fun q=>[(1,.arr 1 us.length (q.2.map .bool)),(0,.box m.av)]) (fun q=>us.length - q.1) (0,(List.replicate us.length false).set f true) ?_ (fun _=>rfl) ?_ ?_
 ·exact ⟨Nat.zero_le _,by simp,rfl⟩
 ·refine ⟨?_,.mk ?_ ⟨by simp,by simp,trivial⟩⟩
  ·all_goals exact wk
  ·repeat' first|exact rfl|exact trivial|exact wR|exact lR _|apply aI
   all_goals first | (simp; done) | (rw [Nat.zero_add]; exact leRL_setff _ _)
 rintro ⟨r,d⟩ ⟨hr,hd,hF⟩ _
 dsimp only at hr hd hF
 (try dsimp only[awp]);conv=>whnf
 refine And.intro (fun h=>?_) (fun h=>?_)
 ·have hrl : r < us.length:=by simpa using h
  rw [show us.length - r = (us.length - (r + 1)) + 1 by omega] at hF
  simp only [roundsB] at hF
  clear h
  (try dsimp only[awp]);conv=>whnf
  refine LoopE.of <| LoopSpec.inv (.refl _ _) (fun (q : Nat × List Bool)=>q.1 ≤ us.length ∧ q.2.length = us.length ∧ passB 0 us d = passB q.1 (us.drop q.1) q.2)
   (fun q=>[(25,.int .i64 q.1)]) (fun q=>[(1,.arr 1 us.length (q.2.map .bool)),(0,.box m.av)]) (fun q=>us.length - q.1) (0,d) ?_ (fun _=>rfl) ?_ ?_
  ·exact ⟨Nat.zero_le _,hd,rfl⟩
  ·refine ⟨?_,.mk ?_ ⟨by simp,by simp,trivial⟩⟩
   ·all_goals exact wk
   ·all_goals exact wk
  rintro ⟨i,d1⟩ ⟨hi,hd1,hP⟩ _
  dsimp only at hi hd1 hP
  (try dsimp only[awp]);conv=>whnf
  refine And.intro (fun h=>?_) (fun h=>?_)
  ·have hil : i < us.length:=by simpa using h
   have hul:=hlt _ (List.getElem_mem hil)
   have hll : (us[i]).length ≤ 9223372036854775807:=by
    have:=OkL_map hoku.2 _ (List.getElem_mem hil)
    simp only [Ok] at this
    simpa [maxL] using this.1
   rw [List.drop_eq_getElem_cons hil] at hP
   simp only [passB] at hP
   (try dsimp only[awp]);conv=>whnf
   refine aidx hil ?_
   generalize us[i] = l at *
   (try dsimp only[awp]);conv=>whnf
   refine LoopE.of <| LoopSpec.inv (.refl _ _) (fun (q : Nat × List Bool)=>q.1 ≤ l.length ∧ q.2.length = us.length ∧ marksB i l d1 = marksB i (l.drop q.1) q.2)
    (fun q=>[(32,.int .i64 q.1)]) (fun q=>[(1,.arr 1 us.length (q.2.map .bool)),(0,.box m.av)]) (fun q=>l.length - q.1) (0,d1) ?_ (fun _=>rfl) ?_ ?_
   ·exact ⟨Nat.zero_le _,hd1,rfl⟩
   ·refine ⟨?_,.mk ?_ ⟨by simp,by simp,trivial⟩⟩
    ·all_goals exact wk
    ·all_goals exact wk
   rintro ⟨q,d2⟩ ⟨hq,hd2,hM⟩ _
   dsimp only at hq hd2 hM
   (try dsimp only[awp]);conv=>whnf
   refine And.intro (fun hh=>?_) (fun hh=>?_)
   ·have hql : q < l.length:=by simpa using hh
    have hk:=hul _ (List.getElem_mem hql)
    rw [List.drop_eq_getElem_cons hql] at hM
    simp only [marksB] at hM
    (try dsimp only[awp]);conv=>whnf
    refine aidx hql ?_
    generalize l[q] = k at *
    (try dsimp only[awp]);conv=>whnf
    refine ⟨by simp; omega,?_⟩
    (try dsimp only[awp]);conv=>whnf
    refine aidxN' false (i:=k.toNat) (by simp) (by omega) ?_
    refine ⟨rfl,?_⟩
    (try dsimp only[awp]);conv=>whnf
    refine And.intro (fun hy=>?_) (fun hy=>?_)
    ·(try dsimp only[awp]);conv=>whnf
     refine ⟨by omega,?_⟩
     (try dsimp only[awp]);conv=>whnf
     refine ⟨by simp; omega,rfl,?_⟩
     have hsd : markB d2 i k = d2.set k.toNat true:=by unfold markB; rw [hy]; rfl
     (try dsimp only[awp]);conv=>whnf
     refine zA ?_;conv=>whnf
     refine ⟨(q + 1,markB d2 i k),?_,?_,?_⟩
     ·exact ⟨hql,by show (markB d2 i k).length = _; rw [markB_len]; exact hd2,hM⟩
     ·rw [hsd]
      refine ⟨?_,.mk ?_ ⟨by simp,by simp,trivial⟩⟩
      ·all_goals exact wk
      ·repeat' first|exact rfl|exact trivial|exact wR|exact lR _|apply aI
       all_goals first | (simp; done) | (rw [Nat.zero_add]; exact leRL_set (A:=.tt) (b:=true) rfl d2 k.toNat)
     ·show l.length - (q + 1) < l.length - q
      omega
    ·(try dsimp only[awp]);conv=>whnf
     refine ⟨by simp; omega,?_⟩
     (try dsimp only[awp]);conv=>whnf
     refine aidxN' false (i:=i) (by simp) (by omega) ?_
     refine ⟨rfl,?_⟩
     (try dsimp only[awp]);conv=>whnf
     refine ⟨by omega,?_⟩
     (try dsimp only[awp]);conv=>whnf
     refine ⟨by simp; omega,rfl,?_⟩
     have hsd : markB d2 i k = d2.set k.toNat (d2.getD i false):=by unfold markB; rw [hy,Bool.false_or]
     (try dsimp only[awp]);conv=>whnf
     refine zA ?_;conv=>whnf
     refine ⟨(q + 1,markB d2 i k),?_,?_,?_⟩
     ·exact ⟨hql,by show (markB d2 i k).length = _; rw [markB_len]; exact hd2,hM⟩
     ·rw [hsd]
      refine ⟨?_,.mk ?_ ⟨by simp,by simp,trivial⟩⟩
      ·all_goals exact wk
      ·repeat' first|exact rfl|exact trivial|exact wR|exact lR _|apply aI
       all_goals first | (simp; done) | (rw [Nat.zero_add]; exact leRL_set (A:=.bool (d2.getD i false)) (b:=(d2.getD i false)) rfl d2 k.toNat)
     ·show l.length - (q + 1) < l.length - q
      omega
   have hql : q = l.length:=by have : ¬ q < l.length:=by simpa using hh
                               omega
   rw [List.drop_eq_nil_of_le (by omega)] at hM
   simp only [marksB] at hM
   rw [hM] at hP
   (try dsimp only[awp]);conv=>whnf
   refine zA ?_;conv=>whnf
   refine ⟨(i + 1,d2),?_,?_,?_⟩
   ·exact ⟨hil,hd2,hP⟩
   ·refine ⟨?_,.mk ?_ ⟨by simp,by simp,trivial⟩⟩
    ·all_goals exact wk
    ·all_goals exact wk
   ·show us.length - (i + 1) < us.length - i
    omega
  have hil : i = us.length:=by have : ¬ i < us.length:=by simpa using h
                               omega
  rw [List.drop_eq_nil_of_le (by omega)] at hP
  simp only [passB] at hP
  rw [hP] at hF
  (try dsimp only[awp]);conv=>whnf
  refine zA ?_;conv=>whnf
  refine ⟨(r + 1,d1),?_,?_,?_⟩
  ·exact ⟨hrl,hd1,hF⟩
  ·refine ⟨?_,.mk ?_ ⟨by simp,by simp,trivial⟩⟩
   ·all_goals exact wk
   ·all_goals exact wk
  ·show us.length - (r + 1) < us.length - r
   omega
 have hrl : r = us.length:=by have : ¬ r < us.length:=by simpa using h
                              omega
 rw [hrl,Nat.sub_self] at hF
 simp only [roundsB] at hF
 rw [← hF]
 clear h
 (try dsimp only[awp]);conv=>whnf
 refine ⟨⟨_,_,.freeze 4 1 0 us.length us.length us.length 1 _ rfl rfl (by simp; omega) (.refl _ _),?_⟩⟩
 conv=>whnf
 refine ⟨?_,rfl,by simp [nextId],.mk ?_ ?_⟩
 ·refine ⟨rfl,?_⟩
  refine leRL_of ?_
  simp
  rw [List.take_of_length_le (by simp; omega)]
 ·all_goals exact wk
 ·trivial

theorem marksB_len {i : Nat} : ∀ (l : List Int) (d : List Bool),(marksB i l d).length = d.length
 | [],_=>rfl
 | k :: l,d=>by simp only [marksB]; rw [marksB_len l,markB_len]
theorem passB_len : ∀ (us : List (List Int)) (i : Nat) (d : List Bool),(passB i us d).length = d.length
 | [],_,_=>rfl
 | l :: us,i,d=>by simp only [passB]; rw [passB_len us,marksB_len]
theorem roundsB_len {us : List (List Int)} : ∀ (r : Nat) (d : List Bool),(roundsB us r d).length = d.length
 | 0,_=>rfl
 | r + 1,d=>by simp only [roundsB]; rw [roundsB_len r,passB_len]

def evL (m : Md) (a : Int) : List Str → Nat → Nat
 | [],e=>e
 | s :: l,e=>evL m a l (if (findX m a s).1 = 0 then e ||| 2 ^ (findX m a s).2.2.toNat else e)
def dynG (g : Mg) : Bool:=decide (g.kind = 6) || decide (g.kind = 7) || decide (g.kind = 8)
def stepN (m : Md) (F : List Bool) (p : Nat × Bool) (y : Node) : Nat × Bool :=
 if F.getD (numR m y).toNat false = true then (evL m y.2.1 (gateAt m y).ins p.1,p.2 || dynG (gateAt m y)) else p
def needsG (m : Md) (F : List Bool) : Nat × Bool:=(allNodes m).foldl (stepN m F) (0,false)
def needsR (m : Md) (x : Node) : Nat × Bool :=
 if x.1 = 0 then (2 ^ x.2.2.toNat,false) else if x.1 = 1 then (0,false) else needsG m (belowU (usesM m) (numR m x).toNat)

theorem findX_ev {m : Md} {a : Int} {s : Str} (h : (findX m a s).1 = 0) : 0 ≤ (findX m a s).2.2 ∧ (findX m a s).2.2 < (m.evs.length : Int):=by
 have key : ∀ b t,(findR m b t).1 = 0 → 0 ≤ (findR m b t).2.2 ∧ (findR m b t).2.2 < (m.evs.length : Int):=by
  intro b t h
  unfold findR at h ⊢
  by_cases h1 : 0 ≤ i_event m.evs t
  ·rw [if_pos h1]; exact ⟨h1,idxP_lt _ _⟩
  rw [if_neg h1] at h ⊢
  by_cases h2 : 0 ≤ i_house m.hs t
  ·rw [if_pos h2] at h; cases h
  rw [if_neg h2] at h ⊢
  by_cases h3 : 0 ≤ i_gate (gatesM m b) t
  ·rw [if_pos h3] at h; cases h
  ·rw [if_neg h3] at h; cases h
 unfold findX at h ⊢
 by_cases h1 : atS s = true
 ·rw [if_pos h1] at h ⊢
  by_cases h2 : i_page m.pages (s.drop 1) < 0
  ·rw [if_pos h2] at h; cases h
  rw [if_neg h2] at h ⊢
  exact key _ _ h
 ·rw [if_neg h1] at h ⊢
  exact key _ _ h

theorem numR_lt {m : Md} {x : Node} (hx : x ∈ allNodes m) : 0 ≤ numR m x ∧ (numR m x).toNat < (usesM m).length:=by
 obtain ⟨h1,h2⟩:=num_get hx
 exact ⟨h1,by simpa [usesM] using (List.getElem?_eq_some_iff.1 h2).1⟩

theorem c_Needs (m : Md) (hM : MOk m) (hB : MdB m) (top : Str) (htop : isInR m (-1) top = true) (R : AV) (hR : R = .tup [.int .i64 (needsR m (findX m (-1) top)).1,.bool (needsR m (findX m (-1) top)).2]) : FnH Tryz.prog 60 [m.av,.int .i64 (-1),.str top] [] R []:=by
 have hpl:=hB.pages
 have hev:=hM.lens.1
 have ht:=hM.noAt
 have cT:=c_Find m (-1) top (.inl rfl) ht
 obtain ⟨he,hn0⟩:=findX_in hM (.inl rfl) htop
 have hok:=(hM.inOk (.inl rfl) htop).ok
 rw [← he] at hok
 have hxe:=findX_ev (m:=m) (a:=-1) (s:=top)
 have hxg:=findX_gate (m:=m) (a:=-1) (s:=top) (.inl rfl)
 clear he
 generalize findX m (-1) top = x at *
 have hx12 : x.1 ≠ 0 → x.1 ≠ 1 → x.1 = 2:=by
  intro h0 h1
  rcases hok with h | h | h
  ·omega
  ·omega
  ·exact (mem_all.1 h).1
 clear hok
 obtain ⟨x1,x2,x3⟩:=x
 dsimp only at hxe hn0 hx12
 refine FnH.intro lay mixed Tryz.func60 (by kernel_rfl) rfl (by kernel_rfl) rfl fun hok=>?_
 (try dsimp only[argC,succC]);(try dsimp only[awp]);conv=>whnf
 refine .pure _ _ ?_ ⟨rfl,rfl⟩ cT fun _=>?_
 ·exact leL_refl _
 (try dsimp only[awp]);conv=>whnf
 refine And.intro (fun k0=>?_) (fun k0=>?_)
 ·obtain ⟨f1,f2⟩:=hxe k0
  rw [show needsR m (x1,x2,x3) = (2 ^ x3.toNat,false) from if_pos k0] at hR
  subst hR
  obtain ⟨z,rfl⟩ : ∃ z : Nat,x3 = z:=⟨x3.toNat,by omega⟩
  rw [Int.toNat_natCast]
  (try dsimp only[awp]);conv=>whnf
  refine ⟨by omega,?_⟩
  rw [shl_one (by omega)]
  (try dsimp only[awp]);conv=>whnf
  refine fM ?_;(conv=>whnf);refine ⟨?_,rfl⟩;conv=>whnf
  all_goals exact wk
 (try dsimp only[awp]);conv=>whnf
 refine And.intro (fun k1=>?_) (fun k1=>?_)
 ·rw [show needsR m (x1,x2,x3) = (0,false) from (if_neg k0).trans (if_pos k1)] at hR
  subst hR
  (try dsimp only[awp]);conv=>whnf
  refine fM ?_;(conv=>whnf);refine ⟨?_,rfl⟩;conv=>whnf
  all_goals exact wk
 have k2:=hx12 k0 k1
 have hxm:=hxg k2
 rw [show needsR m (x1,x2,x3) = needsG m (belowU (usesM m) (numR m (x1,x2,x3)).toNat) from (if_neg k0).trans (if_neg k1)] at hR
 obtain ⟨_,hy2,hy3,hy4⟩:=mem_all.1 hxm
 have hb4:=(hB.gatesM hy2).1
 have cN:=c_number m hB (x1,x2,x3) hy2 ⟨hy3,by show x3 < 1000000; have : x3 < ((gatesM m x2).length : Int):=hy4; have : (gatesM m x2).length ≤ 100:=hb4; omega⟩
 obtain ⟨n1,n2⟩:=numR_lt hxm
 obtain ⟨f,hf⟩ : ∃ f : Nat,numR m (x1,x2,x3) = f:=⟨(numR m (x1,x2,x3)).toNat,by omega⟩
 rw [hf] at cN n2 hR
 rw [Int.toNat_natCast] at n2 hR
 have cb:=c_Below m hB ht (uses_short hB) f n2
 have hFl : (belowU (usesM m) f).length = (allNodes m).length:=by unfold belowU; rw [roundsB_len]; simp [usesM]
 clear hxg hxe hx12 hxm
 generalize belowU (usesM m) f = F at *
 (try dsimp only[awp]);conv=>whnf
 refine ADraw.auto (by kernel_rfl) ?_;conv=>whnf
 refine ACallP.pure _ _ ?_ ⟨rfl,rfl⟩ cN ?_
 ·exact leL_refl _
 (try dsimp only[awp]);conv=>whnf
 refine ACallP.pure _ _ ?_ ⟨rfl,rfl⟩ cb ?_
 ·exact leL_refl _
 (try dsimp only[awp]);conv=>whnf
 refine LoopE.of <| LoopSpec.inv (.refl _ _) (fun (q : Nat × Nat × Bool)=>q.1 ≤ m.pages.length + 1 ∧ (nodesFrom m q.1).foldl (stepN m F) q.2 = needsG m F ∧ q.2.1 < 2 ^ 24)
  (fun q=>[(12,.int .i64 ((q.1 : Int) - 1)),(6,.int .i64 q.2.1),(7,.bool q.2.2)]) (fun _=>[(0,.box m.av)]) (fun q=>m.pages.length + 1 - q.1) (0,0,false) ?_ (fun _=>rfl) ?_ ?_
 ·exact ⟨Nat.zero_le _,rfl,by decide⟩
 ·refine ⟨?_,.mk ?_ ⟨by simp,trivial⟩⟩
  ·all_goals exact wk
  ·all_goals exact wk
 rintro ⟨k,p1,p2⟩ ⟨hk,hn,hp⟩ _
 dsimp only at hk hn hp
 (try dsimp only[awp]);conv=>whnf
 refine And.intro (fun h=>?_) (fun h=>?_)
 ·have hkl : k < m.pages.length + 1:=by simp only [List.length_map] at h; omega
  have ha : (k : Int) - 1 = -1 ∨ (0 ≤ (k : Int) - 1 ∧ (k : Int) - 1 < (m.pages.length : Int)):=by omega
  have hBa:=hB.gatesM ha
  have cG:=c_rGates m _ ha
  have cF:=fun s=>c_Find m _ s ha ht
  have hNl:=fun i (h : i < (gatesM m ((k : Int) - 1)).length)=>drop_of_get? (nodesAt_get (m:=m) (a:=(k : Int) - 1) h)
  have hga : ∀ (i : Nat) (h : i < (gatesM m ((k : Int) - 1)).length),gateAt m (2,(k : Int) - 1,(i : Int)) = (gatesM m ((k : Int) - 1))[i]:=by
   intro i h
   unfold gateAt
   dsimp only
   rw [Int.toNat_natCast,List.getD_eq_getElem?_getD,List.getElem?_eq_getElem h]; rfl
  have hmem : ∀ (i : Nat) (h : i < (gatesM m ((k : Int) - 1)).length),(2,(k : Int) - 1,(i : Int)) ∈ allNodes m:=fun i h=>mem_all.2 ⟨rfl,ha,by show (0 : Int) ≤ i; omega,by show (i : Int) < ((gatesM m ((k : Int) - 1)).length : Int); omega⟩
  have cN:=fun (i : Nat) (h : i < 1000000)=>c_number m hB (2,(k : Int) - 1,(i : Int)) ha ⟨by show (0 : Int) ≤ i; omega,by show (i : Int) < 1000000; omega⟩
  rw [nodesFrom_step hkl,List.foldl_append] at hn
  have hrest : ∀ p,(nodesFrom m (k + 1)).foldl (stepN m F) p = needsG m F → (nodesFrom m (k + 1)).foldl (stepN m F) p = needsG m F:=fun _ h=>h
  clear h
  generalize hrs : nodesFrom m (k + 1) = rest at *
  have hle:=nodesAt_len m ((k : Int) - 1)
  generalize hage : (k : Int) - 1 = a at *
  generalize hnod : nodesAt m a = nod at *
  generalize hgs : gatesM m a = gs at *
  (try dsimp only[awp]);conv=>whnf
  refine .pure _ _ ?_ ⟨rfl,rfl⟩ cG fun hokl=>?_
  ·exact leL_refl _
  (try dsimp only[awp]);conv=>whnf
  refine LoopE.of <| LoopSpec.inv (.refl _ _) (fun (q : Nat × Nat × Bool)=>q.1 ≤ gs.length ∧ rest.foldl (stepN m F) ((nod.drop q.1).foldl (stepN m F) q.2) = needsG m F ∧ q.2.1 < 2 ^ 24)
   (fun q=>[(51,.int .i64 q.1),(6,.int .i64 q.2.1),(7,.bool q.2.2)]) (fun _=>[(0,.box m.av)]) (fun q=>gs.length - q.1) (0,p1,p2) ?_ (fun _=>rfl) ?_ ?_
  ·exact ⟨Nat.zero_le _,hn,hp⟩
  ·refine ⟨?_,.mk ?_ ⟨by simp,trivial⟩⟩
   ·all_goals exact wk
   ·all_goals exact wk
  rintro ⟨i,p1,p2⟩ ⟨hi,hni,hp⟩ _
  dsimp only at hi hni hp
  (try dsimp only[awp]);conv=>whnf
  refine And.intro (fun h=>?_) (fun h=>?_)
  ·have hlt : i < gs.length:=by simpa using h
   have hxi:=hBa.2 _ (List.getElem_mem hlt)
   rw [hNl i hlt,List.foldl_cons] at hni
   have hgi:=hga i hlt
   have cN:=cN i (by have:=hBa.1; omega)
   obtain ⟨n1,n2⟩:=numR_lt (hmem i hlt)
   have n3 : (numR m (2,a,(i : Int))).toNat < F.length:=by rw [hFl]; simpa [usesM] using n2
   have hst : stepN m F (p1,p2) (2,a,(i : Int)) = if F.getD (numR m (2,a,(i : Int))).toNat false = true then (evL m a gs[i].ins p1,p2 || dynG gs[i]) else (p1,p2):=by unfold stepN; dsimp only; rw [hgi]
   rw [hst] at hni
   clear hst
   generalize numR m (2,a,(i : Int)) = w at *
   (try dsimp only[awp]);conv=>whnf
   refine aidx hlt ?_
   generalize gs[i] = g at *
   (try dsimp only[awp]);conv=>whnf
   refine .pure _ _ ?_ ⟨rfl,rfl⟩ cN fun _=>?_
   ·exact leL_refl _
   (try dsimp only[awp]);conv=>whnf
   refine aidxD false ⟨n1,by omega⟩ ?_
   (try dsimp only[awp]);conv=>whnf
   refine And.intro (fun hF=>?_) (fun hF=>?_)
   ·have hF : F.getD w.toNat false = false:=by simpa using hF
    rw [hF,if_neg (by simp)] at hni
    (try dsimp only[awp]);conv=>whnf
    refine zA ?_;conv=>whnf
    refine ⟨(i + 1,p1,p2),?_,?_,?_⟩
    ·exact ⟨hlt,hni,hp⟩
    ·refine ⟨?_,.mk ?_ ⟨by simp,trivial⟩⟩
     ·all_goals exact wk
     ·all_goals exact wk
    ·show gs.length - (i + 1) < gs.length - i
     omega
   have hF : F.getD w.toNat false = true:=by simpa using hF
   rw [if_pos hF] at hni
   (try dsimp only[awp]);conv=>whnf
   refine And.intro (fun hd=>?_) (fun hd=>?_)
   ·(try dsimp only[awp]);conv=>whnf
    refine LoopE.of <| LoopSpec.inv (.refl _ _) (fun (q : Nat × Nat)=>q.1 ≤ g.ins.length ∧ evL m a g.ins p1 = evL m a (g.ins.drop q.1) q.2 ∧ q.2 < 2 ^ 24)
     (fun q=>[(83,.int .i64 q.1),(6,.int .i64 q.2)]) (fun _=>[(1,.box g.av),(0,.box m.av)]) (fun q=>g.ins.length - q.1) (0,p1) ?_ (fun _=>rfl) ?_ ?_
    ·exact ⟨Nat.zero_le _,rfl,hp⟩
    ·refine ⟨?_,.mk ?_ ⟨by simp,by simp,trivial⟩⟩
     ·all_goals exact wk
     ·all_goals exact wk
    rintro ⟨j,e⟩ ⟨hj,hnj,he⟩ _
    dsimp only at hj hnj he
    (try dsimp only[awp]);conv=>whnf
    refine And.intro (fun hh=>?_) (fun hh=>?_)
    ·have hjl : j < g.ins.length:=by simpa using hh
     rw [List.drop_eq_getElem_cons hjl] at hnj
     simp only [evL] at hnj
     (try dsimp only[awp]);conv=>whnf
     refine aidx hjl ?_
     generalize g.ins[j] = s at *
     have cF:=cF s
     have hfe:=findX_ev (m:=m) (a:=a) (s:=s)
     generalize findX m a s = y at *
     obtain ⟨y1,y2,y3⟩:=y
     dsimp only at hfe hnj
     (try dsimp only[awp]);conv=>whnf
     refine .pure _ _ ?_ ⟨rfl,rfl⟩ cF fun _=>?_
     ·exact leL_refl _
     (try dsimp only[awp]);conv=>whnf
     refine And.intro (fun g1=>?_) (fun g1=>?_)
     ·obtain ⟨f1,f2⟩:=hfe g1
      rw [if_pos g1] at hnj
      obtain ⟨z,rfl⟩ : ∃ z : Nat,y3 = z:=⟨y3.toNat,by omega⟩
      have hz : z < 24:=by omega
      have hpz : 2 ^ z < 2 ^ 24:=Nat.pow_lt_pow_right (by omega) hz
      rw [Int.toNat_natCast] at hnj
      have hor:=Nat.or_lt_two_pow he hpz
      (try dsimp only[awp]);conv=>whnf
      refine ⟨by omega,?_⟩
      rw [shl_one (by omega)]
      conv=>whnf
      rw [or_nat (by omega) (by omega)]
      (try dsimp only[awp]);conv=>whnf
      refine zA ?_;conv=>whnf
      refine ⟨(j + 1,e ||| 2 ^ z),?_,?_,?_⟩
      ·exact ⟨hjl,hnj,hor⟩
      ·refine ⟨?_,.mk ?_ ⟨by simp,by simp,trivial⟩⟩
       ·all_goals exact wk
       ·all_goals exact wk
      ·show g.ins.length - (j + 1) < g.ins.length - j
       omega
     ·rw [if_neg g1] at hnj
      (try dsimp only[awp]);conv=>whnf
      refine zA ?_;conv=>whnf
      refine ⟨(j + 1,e),?_,?_,?_⟩
      ·exact ⟨hjl,hnj,he⟩
      ·refine ⟨?_,.mk ?_ ⟨by simp,by simp,trivial⟩⟩
       ·all_goals exact wk
       ·all_goals exact wk
      ·show g.ins.length - (j + 1) < g.ins.length - j
       omega
    have hjl : j = g.ins.length:=by have : ¬ j < g.ins.length:=by simpa using hh
                                    omega
    rw [List.drop_eq_nil_of_le (by omega)] at hnj
    simp only [evL] at hnj
    rw [hnj,hd,Bool.true_or] at hni
    (try dsimp only[awp]);conv=>whnf
    refine zA ?_;conv=>whnf
    refine ⟨(i + 1,e,true),?_,?_,?_⟩
    ·exact ⟨hlt,hni,he⟩
    ·refine ⟨?_,.mk ?_ ⟨by simp,trivial⟩⟩
     ·repeat' first|exact rfl|exact trivial|exact wR|exact lR _|apply aI
      all_goals first | (show (_ : Bool) = _; rfl) | (show _ ↔ _; simp) | rfl
     ·all_goals exact wk
    ·show gs.length - (i + 1) < gs.length - i
     omega
   rw [hd,Bool.false_or] at hni
   (try dsimp only[awp]);conv=>whnf
   refine And.intro (fun k6=>?_) (fun k6=>?_)
   ·(try dsimp only[awp]);conv=>whnf
    refine LoopE.of <| LoopSpec.inv (.refl _ _) (fun (q : Nat × Nat)=>q.1 ≤ g.ins.length ∧ evL m a g.ins p1 = evL m a (g.ins.drop q.1) q.2 ∧ q.2 < 2 ^ 24)
     (fun q=>[(83,.int .i64 q.1),(6,.int .i64 q.2)]) (fun _=>[(1,.box g.av),(0,.box m.av)]) (fun q=>g.ins.length - q.1) (0,p1) ?_ (fun _=>rfl) ?_ ?_
    ·exact ⟨Nat.zero_le _,rfl,hp⟩
    ·refine ⟨?_,.mk ?_ ⟨by simp,by simp,trivial⟩⟩
     ·all_goals exact wk
     ·all_goals exact wk
    rintro ⟨j,e⟩ ⟨hj,hnj,he⟩ _
    dsimp only at hj hnj he
    (try dsimp only[awp]);conv=>whnf
    refine And.intro (fun hh=>?_) (fun hh=>?_)
    ·have hjl : j < g.ins.length:=by simpa using hh
     rw [List.drop_eq_getElem_cons hjl] at hnj
     simp only [evL] at hnj
     (try dsimp only[awp]);conv=>whnf
     refine aidx hjl ?_
     generalize g.ins[j] = s at *
     have cF:=cF s
     have hfe:=findX_ev (m:=m) (a:=a) (s:=s)
     generalize findX m a s = y at *
     obtain ⟨y1,y2,y3⟩:=y
     dsimp only at hfe hnj
     (try dsimp only[awp]);conv=>whnf
     refine .pure _ _ ?_ ⟨rfl,rfl⟩ cF fun _=>?_
     ·exact leL_refl _
     (try dsimp only[awp]);conv=>whnf
     refine And.intro (fun g1=>?_) (fun g1=>?_)
     ·obtain ⟨f1,f2⟩:=hfe g1
      rw [if_pos g1] at hnj
      obtain ⟨z,rfl⟩ : ∃ z : Nat,y3 = z:=⟨y3.toNat,by omega⟩
      have hz : z < 24:=by omega
      have hpz : 2 ^ z < 2 ^ 24:=Nat.pow_lt_pow_right (by omega) hz
      rw [Int.toNat_natCast] at hnj
      have hor:=Nat.or_lt_two_pow he hpz
      (try dsimp only[awp]);conv=>whnf
      refine ⟨by omega,?_⟩
      rw [shl_one (by omega)]
      conv=>whnf
      rw [or_nat (by omega) (by omega)]
      (try dsimp only[awp]);conv=>whnf
      refine zA ?_;conv=>whnf
      refine ⟨(j + 1,e ||| 2 ^ z),?_,?_,?_⟩
      ·exact ⟨hjl,hnj,hor⟩
      ·refine ⟨?_,.mk ?_ ⟨by simp,by simp,trivial⟩⟩
       ·all_goals exact wk
       ·all_goals exact wk
      ·show g.ins.length - (j + 1) < g.ins.length - j
       omega
     ·rw [if_neg g1] at hnj
      (try dsimp only[awp]);conv=>whnf
      refine zA ?_;conv=>whnf
      refine ⟨(j + 1,e),?_,?_,?_⟩
      ·exact ⟨hjl,hnj,he⟩
      ·refine ⟨?_,.mk ?_ ⟨by simp,by simp,trivial⟩⟩
       ·all_goals exact wk
       ·all_goals exact wk
      ·show g.ins.length - (j + 1) < g.ins.length - j
       omega
    have hjl : j = g.ins.length:=by have : ¬ j < g.ins.length:=by simpa using hh
                                    omega
    rw [List.drop_eq_nil_of_le (by omega)] at hnj
    simp only [evL] at hnj
    rw [hnj,show dynG g = true from by unfold dynG; rw [decide_eq_true k6]; rfl] at hni
    (try dsimp only[awp]);conv=>whnf
    refine zA ?_;conv=>whnf
    refine ⟨(i + 1,e,true),?_,?_,?_⟩
    ·exact ⟨hlt,hni,he⟩
    ·refine ⟨?_,.mk ?_ ⟨by simp,trivial⟩⟩
     ·repeat' first|exact rfl|exact trivial|exact wR|exact lR _|apply aI
      all_goals first | (show (_ : Bool) = _; rfl) | (show _ ↔ _; simp) | rfl
     ·all_goals exact wk
    ·show gs.length - (i + 1) < gs.length - i
     omega
   (try dsimp only[awp]);conv=>whnf
   refine And.intro (fun k7=>?_) (fun k7=>?_)
   ·(try dsimp only[awp]);conv=>whnf
    refine LoopE.of <| LoopSpec.inv (.refl _ _) (fun (q : Nat × Nat)=>q.1 ≤ g.ins.length ∧ evL m a g.ins p1 = evL m a (g.ins.drop q.1) q.2 ∧ q.2 < 2 ^ 24)
     (fun q=>[(83,.int .i64 q.1),(6,.int .i64 q.2)]) (fun _=>[(1,.box g.av),(0,.box m.av)]) (fun q=>g.ins.length - q.1) (0,p1) ?_ (fun _=>rfl) ?_ ?_
    ·exact ⟨Nat.zero_le _,rfl,hp⟩
    ·refine ⟨?_,.mk ?_ ⟨by simp,by simp,trivial⟩⟩
     ·all_goals exact wk
     ·all_goals exact wk
    rintro ⟨j,e⟩ ⟨hj,hnj,he⟩ _
    dsimp only at hj hnj he
    (try dsimp only[awp]);conv=>whnf
    refine And.intro (fun hh=>?_) (fun hh=>?_)
    ·have hjl : j < g.ins.length:=by simpa using hh
     rw [List.drop_eq_getElem_cons hjl] at hnj
     simp only [evL] at hnj
     (try dsimp only[awp]);conv=>whnf
     refine aidx hjl ?_
     generalize g.ins[j] = s at *
     have cF:=cF s
     have hfe:=findX_ev (m:=m) (a:=a) (s:=s)
     generalize findX m a s = y at *
     obtain ⟨y1,y2,y3⟩:=y
     dsimp only at hfe hnj
     (try dsimp only[awp]);conv=>whnf
     refine .pure _ _ ?_ ⟨rfl,rfl⟩ cF fun _=>?_
     ·exact leL_refl _
     (try dsimp only[awp]);conv=>whnf
     refine And.intro (fun g1=>?_) (fun g1=>?_)
     ·obtain ⟨f1,f2⟩:=hfe g1
      rw [if_pos g1] at hnj
      obtain ⟨z,rfl⟩ : ∃ z : Nat,y3 = z:=⟨y3.toNat,by omega⟩
      have hz : z < 24:=by omega
      have hpz : 2 ^ z < 2 ^ 24:=Nat.pow_lt_pow_right (by omega) hz
      rw [Int.toNat_natCast] at hnj
      have hor:=Nat.or_lt_two_pow he hpz
      (try dsimp only[awp]);conv=>whnf
      refine ⟨by omega,?_⟩
      rw [shl_one (by omega)]
      conv=>whnf
      rw [or_nat (by omega) (by omega)]
      (try dsimp only[awp]);conv=>whnf
      refine zA ?_;conv=>whnf
      refine ⟨(j + 1,e ||| 2 ^ z),?_,?_,?_⟩
      ·exact ⟨hjl,hnj,hor⟩
      ·refine ⟨?_,.mk ?_ ⟨by simp,by simp,trivial⟩⟩
       ·all_goals exact wk
       ·all_goals exact wk
      ·show g.ins.length - (j + 1) < g.ins.length - j
       omega
     ·rw [if_neg g1] at hnj
      (try dsimp only[awp]);conv=>whnf
      refine zA ?_;conv=>whnf
      refine ⟨(j + 1,e),?_,?_,?_⟩
      ·exact ⟨hjl,hnj,he⟩
      ·refine ⟨?_,.mk ?_ ⟨by simp,by simp,trivial⟩⟩
       ·all_goals exact wk
       ·all_goals exact wk
      ·show g.ins.length - (j + 1) < g.ins.length - j
       omega
    have hjl : j = g.ins.length:=by have : ¬ j < g.ins.length:=by simpa using hh
                                    omega
    rw [List.drop_eq_nil_of_le (by omega)] at hnj
    simp only [evL] at hnj
    rw [hnj,show dynG g = true from by unfold dynG; rw [decide_eq_true k7]; simp] at hni
    (try dsimp only[awp]);conv=>whnf
    refine zA ?_;conv=>whnf
    refine ⟨(i + 1,e,true),?_,?_,?_⟩
    ·exact ⟨hlt,hni,he⟩
    ·refine ⟨?_,.mk ?_ ⟨by simp,trivial⟩⟩
     ·repeat' first|exact rfl|exact trivial|exact wR|exact lR _|apply aI
      all_goals first | (show (_ : Bool) = _; rfl) | (show _ ↔ _; simp) | rfl
     ·all_goals exact wk
    ·show gs.length - (i + 1) < gs.length - i
     omega
   have hdg : dynG g = decide (g.kind = 8):=by unfold dynG; rw [decide_eq_false k6,decide_eq_false k7]; rfl
   (try dsimp only[awp]);conv=>whnf
   refine LoopE.of <| LoopSpec.inv (.refl _ _) (fun (q : Nat × Nat)=>q.1 ≤ g.ins.length ∧ evL m a g.ins p1 = evL m a (g.ins.drop q.1) q.2 ∧ q.2 < 2 ^ 24)
    (fun q=>[(83,.int .i64 q.1),(6,.int .i64 q.2)]) (fun _=>[(1,.box g.av),(0,.box m.av)]) (fun q=>g.ins.length - q.1) (0,p1) ?_ (fun _=>rfl) ?_ ?_
   ·exact ⟨Nat.zero_le _,rfl,hp⟩
   ·refine ⟨?_,.mk ?_ ⟨by simp,by simp,trivial⟩⟩
    ·all_goals exact wk
    ·all_goals exact wk
   rintro ⟨j,e⟩ ⟨hj,hnj,he⟩ _
   dsimp only at hj hnj he
   (try dsimp only[awp]);conv=>whnf
   refine And.intro (fun hh=>?_) (fun hh=>?_)
   ·have hjl : j < g.ins.length:=by simpa using hh
    rw [List.drop_eq_getElem_cons hjl] at hnj
    simp only [evL] at hnj
    (try dsimp only[awp]);conv=>whnf
    refine aidx hjl ?_
    generalize g.ins[j] = s at *
    have cF:=cF s
    have hfe:=findX_ev (m:=m) (a:=a) (s:=s)
    generalize findX m a s = y at *
    obtain ⟨y1,y2,y3⟩:=y
    dsimp only at hfe hnj
    (try dsimp only[awp]);conv=>whnf
    refine .pure _ _ ?_ ⟨rfl,rfl⟩ cF fun _=>?_
    ·exact leL_refl _
    (try dsimp only[awp]);conv=>whnf
    refine And.intro (fun g1=>?_) (fun g1=>?_)
    ·obtain ⟨f1,f2⟩:=hfe g1
     rw [if_pos g1] at hnj
     obtain ⟨z,rfl⟩ : ∃ z : Nat,y3 = z:=⟨y3.toNat,by omega⟩
     have hz : z < 24:=by omega
     have hpz : 2 ^ z < 2 ^ 24:=Nat.pow_lt_pow_right (by omega) hz
     rw [Int.toNat_natCast] at hnj
     have hor:=Nat.or_lt_two_pow he hpz
     (try dsimp only[awp]);conv=>whnf
     refine ⟨by omega,?_⟩
     rw [shl_one (by omega)]
     conv=>whnf
     rw [or_nat (by omega) (by omega)]
     (try dsimp only[awp]);conv=>whnf
     refine zA ?_;conv=>whnf
     refine ⟨(j + 1,e ||| 2 ^ z),?_,?_,?_⟩
     ·exact ⟨hjl,hnj,hor⟩
     ·refine ⟨?_,.mk ?_ ⟨by simp,by simp,trivial⟩⟩
      ·all_goals exact wk
      ·all_goals exact wk
     ·show g.ins.length - (j + 1) < g.ins.length - j
      omega
    ·rw [if_neg g1] at hnj
     (try dsimp only[awp]);conv=>whnf
     refine zA ?_;conv=>whnf
     refine ⟨(j + 1,e),?_,?_,?_⟩
     ·exact ⟨hjl,hnj,he⟩
     ·refine ⟨?_,.mk ?_ ⟨by simp,by simp,trivial⟩⟩
      ·all_goals exact wk
      ·all_goals exact wk
     ·show g.ins.length - (j + 1) < g.ins.length - j
      omega
   have hjl : j = g.ins.length:=by have : ¬ j < g.ins.length:=by simpa using hh
                                   omega
   rw [List.drop_eq_nil_of_le (by omega)] at hnj
   simp only [evL] at hnj
   rw [hnj,hdg] at hni
   (try dsimp only[awp]);conv=>whnf
   refine zA ?_;conv=>whnf
   refine ⟨(i + 1,e,decide (g.kind = 8)),?_,?_,?_⟩
   ·exact ⟨hlt,hni,he⟩
   ·refine ⟨?_,.mk ?_ ⟨by simp,trivial⟩⟩
    ·repeat' first|exact rfl|exact trivial|exact wR|exact lR _|apply aI
     all_goals first | (show (_ : Bool) = _; rfl) | (show _ ↔ _; simp) | rfl
    ·all_goals exact wk
   ·show gs.length - (i + 1) < gs.length - i
    omega
  have hil : i = gs.length:=by have : ¬ i < gs.length:=by simpa using h
                               omega
  rw [List.drop_eq_nil_of_le (by omega)] at hni
  simp only [List.foldl_nil] at hni
  (try dsimp only[awp]);conv=>whnf
  refine zA ?_;conv=>whnf
  refine ⟨(k + 1,p1,p2),?_,?_,?_⟩
  ·exact ⟨hkl,by show (nodesFrom m (k + 1)).foldl (stepN m F) (p1,p2) = _; rw [hrs]; exact hni,hp⟩
  ·refine ⟨?_,.mk ?_ ⟨by simp,trivial⟩⟩
   ·repeat' first|exact rfl|exact trivial|exact wR|exact lR _|apply aI
    all_goals (show _ = _; congr 1 <;> omega)
   ·all_goals exact wk
  ·show m.pages.length + 1 - (k + 1) < m.pages.length + 1 - k
   omega
 have hkl : m.pages.length + 1 ≤ k:=by simp only [List.length_map] at h; omega
 rw [nodesFrom_end hkl] at hn
 simp only [List.foldl_nil] at hn
 rw [← hn] at hR
 subst hR
 (try dsimp only[awp]);conv=>whnf
 refine fM ?_;(conv=>whnf);refine ⟨?_,rfl⟩;conv=>whnf
 all_goals exact wk

inductive Reach (m : Md) (r : Node) : Node → Prop
 | root : Reach m r r
 | step {x y : Node} (h : Reach m r x) (h2 : x.1 = 2) (hy : y ∈ kidsM m x) : Reach m r y

theorem Reach.leaf {m : Md} {r x : Node} (h : Reach m r x) (hr : r.1 ≠ 2) : x = r:=by
 induction h with
 | root=>rfl
 | step h h2 hy ih=>rw [ih] at h2; exact absurd h2 hr

theorem Reach.ok {m : Md} {r x : Node} (hc : ClosedM m) (hr : okN m r) (h : Reach m r x) : okN m x:=by
 induction h with
 | root=>exact hr
 | step h h2 hy ih=>exact (okN_kids hc ih h2).2 _ hy

inductive RI (us : List (List Int)) (f : Nat) : Nat → Prop
 | root : RI us f f
 | step {i : Nat} {k : Int} (h : RI us f i) (hk : k ∈ us.getD i []) : RI us f k.toNat

theorem markB_le {d : List Bool} {i : Nat} {k : Int} : LeD d (markB d i k):=by
 intro j h
 unfold markB
 rw [getD_set]
 split
 ·rename_i e; rw [e.1,h,Bool.true_or]
 ·exact h

theorem marksB_le {i : Nat} : ∀ (l : List Int) (d : List Bool),LeD d (marksB i l d)
 | [],d=>.refl d
 | _ :: l,_=>markB_le.trans (marksB_le l _)

theorem passB_le : ∀ (us : List (List Int)) (i : Nat) (d : List Bool),LeD d (passB i us d)
 | [],_,d=>.refl d
 | l :: us,i,d=>(marksB_le l d).trans (passB_le us (i + 1) _)

theorem marks_in {i : Nat} : ∀ (l : List Int) (d : List Bool) (k : Int),k ∈ l → d.getD i false = true → k.toNat < d.length → (marksB i l d).getD k.toNat false = true
 | [],_,_,h,_,_=>by simp at h
 | x :: l,d,k,h,hd,hl=>by
   simp only [marksB]
   rcases List.mem_cons.1 h with rfl | h
   ·refine marksB_le l _ _ ?_
    unfold markB
    rw [getD_set,if_pos ⟨rfl,hl⟩,hd,Bool.or_true]
   ·exact marks_in l _ k h (markB_le _ hd) (by rw [markB_len]; exact hl)

theorem pass_mark : ∀ (us : List (List Int)) (j : Nat) (d : List Bool) (i : Nat) (k : Int),k ∈ us.getD i [] → d.getD (j + i) false = true → k.toNat < d.length → (passB j us d).getD k.toNat false = true
 | [],_,_,_,_,h,_,_=>by simp at h
 | l :: us,j,d,0,k,h,hd,hl=>passB_le us (j + 1) _ _ (marks_in l d k (by simpa using h) hd hl)
 | l :: us,j,d,i + 1,k,h,hd,hl=>pass_mark us (j + 1) _ i k (by simpa using h) (marksB_le l d _ (by rw [show j + 1 + i = j + (i + 1) by omega]; exact hd)) (by rw [marksB_len]; exact hl)

def ClosedB (us : List (List Int)) (d : List Bool) : Prop:=∀ i : Nat,d.getD i false = true → ∀ k ∈ us.getD i [],d.getD k.toNat false = true

theorem set_same {d : List Bool} {k : Nat} : d.set k (d.getD k false) = d:=by
 by_cases h : k < d.length
 ·rw [getD_lt' h]; exact List.set_getElem_self h
 ·exact List.set_eq_of_length_le (by omega)

theorem marks_same {i : Nat} : ∀ (l : List Int) (d : List Bool),(d.getD i false = true → ∀ k ∈ l,d.getD k.toNat false = true) → marksB i l d = d
 | [],_,_=>rfl
 | k :: l,d,h=>by
   have e : markB d i k = d:=by
    unfold markB
    cases hi : d.getD i false
    ·rw [Bool.or_false]; exact set_same
    ·have:=h hi k (by simp)
     rw [Bool.or_true]
     rw [← this]; exact set_same
   simp only [marksB]
   rw [e]
   exact marks_same l d fun hi k hk=>h hi k (by simp [hk])

theorem pass_same : ∀ (us : List (List Int)) (j : Nat) (d : List Bool),(∀ i : Nat,d.getD (j + i) false = true → ∀ k ∈ us.getD i [],d.getD k.toNat false = true) → passB j us d = d
 | [],_,_,_=>rfl
 | l :: us,j,d,h=>by
   simp only [passB]
   rw [marks_same l d (fun hi k hk=>h 0 (by simpa using hi) k (by simpa using hk))]
   exact pass_same us (j + 1) d fun i hi k hk=>h (i + 1) (by rw [show j + (i + 1) = j + 1 + i by omega]; exact hi) k (by simpa using hk)

theorem rounds_same {us : List (List Int)} {d : List Bool} (h : ClosedB us d) : ∀ r,roundsB us r d = d
 | 0=>rfl
 | r + 1=>by simp only [roundsB]; rw [pass_same us 0 d (fun i hi=>h i (by rwa [Nat.zero_add] at hi))]; exact rounds_same h r

theorem rounds_closed {us : List (List Int)} (hus : ∀ i,∀ k ∈ us.getD i [],k.toNat < us.length) : ∀ (r : Nat) (d : List Bool),d.length = us.length → d.count false ≤ r → ClosedB us (roundsB us r d)
 | 0,d,hd,h=>by
   simp only [roundsB]
   intro i _ k hk
   have hk:=hus i k hk
   have h0 : ¬ false ∈ d:=List.count_eq_zero.1 (by omega)
   rw [getD_lt' (by omega)]
   have hm:=List.getElem_mem (l:=d) (n:=k.toNat) (by omega)
   cases e : d[k.toNat]'(by omega)
   ·rw [e] at hm; exact absurd hm h0
   ·rfl
 | r + 1,d,hd,h=>by
   by_cases hc : ClosedB us d
   ·rw [rounds_same hc]; exact hc
   simp only [roundsB]
   refine rounds_closed hus r _ (by rw [passB_len]; exact hd) ?_
   obtain ⟨h1,h2⟩:=cnt_lt d (passB 0 us d) (passB_len us 0 d).symm (passB_le us 0 d)
   have : ∃ i : Nat,d.getD i false = true ∧ ∃ k ∈ us.getD i [],¬ d.getD k.toNat false = true:=by
    apply Classical.byContradiction
    intro hn
    refine hc fun i hi k hk=>?_
    apply Classical.byContradiction
    intro hne
    exact hn ⟨i,hi,k,hk,hne⟩
   obtain ⟨i,hi,k,hk,hne⟩:=this
   have hkl:=hus i k hk
   have:=h2 ⟨k.toNat,by omega,by simpa using hne,pass_mark us 0 d i k hk (by rwa [Nat.zero_add]) (by omega)⟩
   omega

theorem below_closed {us : List (List Int)} (hus : ∀ i,∀ k ∈ us.getD i [],k.toNat < us.length) (f : Nat) : ClosedB us (belowU us f) :=
 rounds_closed hus _ _ (by simp) (by have:=List.count_le_length (a:=false) (l:=(List.replicate us.length false).set f true); simpa using this)

def AllRI (us : List (List Int)) (f : Nat) (d : List Bool) : Prop:=∀ j : Nat,d.getD j false = true → RI us f j

theorem marks_RI {us : List (List Int)} {f i : Nat} : ∀ (l : List Int) (d : List Bool),(∀ k ∈ l,k ∈ us.getD i []) → AllRI us f d → AllRI us f (marksB i l d)
 | [],_,_,h=>h
 | k :: l,d,hl,h=>by
   simp only [marksB]
   refine marks_RI l _ (fun k hk=>hl k (by simp [hk])) fun j hj=>?_
   unfold markB at hj
   rw [getD_set] at hj
   split at hj
   ·rename_i e
    rw [← e.1]
    rw [Bool.or_eq_true] at hj
    rcases hj with g | g
    ·exact h _ g
    ·exact .step (h _ g) (hl k (by simp))
   ·exact h j hj

theorem pass_RI {us : List (List Int)} {f : Nat} : ∀ (l : List (List Int)) (i : Nat) (d : List Bool),us.drop i = l → AllRI us f d → AllRI us f (passB i l d)
 | [],_,_,_,h=>h
 | x :: l,i,d,hl,h=>by
   simp only [passB]
   have h1 : us[i]? = some x:=by rw [← List.head?_drop,hl]; rfl
   have h2 : us.drop (i + 1) = l:=by rw [← List.tail_drop,hl]; rfl
   exact pass_RI l (i + 1) _ h2 (marks_RI x d (fun k hk=>by rw [List.getD_eq_getElem?_getD,h1]; exact hk) h)

theorem rounds_RI {us : List (List Int)} {f : Nat} : ∀ (r : Nat) (d : List Bool),AllRI us f d → AllRI us f (roundsB us r d)
 | 0,_,h=>h
 | r + 1,d,h=>by simp only [roundsB]; exact rounds_RI r _ (pass_RI us 0 d rfl h)

theorem rounds_le {us : List (List Int)} : ∀ (r : Nat) (d : List Bool),LeD d (roundsB us r d)
 | 0,d=>.refl d
 | r + 1,d=>by simp only [roundsB]; exact (passB_le us 0 d).trans (rounds_le r _)

theorem below_iff {us : List (List Int)} (hus : ∀ i,∀ k ∈ us.getD i [],k.toNat < us.length) {f : Nat} (hf : f < us.length) (j : Nat) : (belowU us f).getD j false = true ↔ RI us f j:=by
 constructor
 ·refine rounds_RI (us:=us) us.length _ (fun j hj=>?_) j
  rw [getD_set] at hj
  split at hj
  ·rename_i e; rw [← e.1]; exact .root
  ·rw [List.getD_eq_getElem?_getD,List.getElem?_replicate] at hj
   split at hj <;> simp at hj
 ·intro h
  induction h with
  | root=>exact rounds_le _ _ _ (by rw [getD_set,if_pos ⟨rfl,by simpa using hf⟩])
  | step h hk ih=>exact below_closed hus f _ ih _ hk

theorem uses_nat {m : Md} : ∀ i,∀ k ∈ (usesM m).getD i [],k.toNat < (usesM m).length:=by
 intro i k hk
 by_cases h : i < (usesM m).length
 ·rw [getD_lt' h] at hk
  have:=uses_lt _ (List.getElem_mem h) k hk
  omega
 ·rw [List.getD_eq_getElem?_getD,List.getElem?_eq_none (by omega)] at hk
  simp at hk

theorem num_inj {m : Md} {x y : Node} (hx : x ∈ allNodes m) (hy : y ∈ allNodes m) (h : (numR m x).toNat = (numR m y).toNat) : x = y:=by
 obtain ⟨_,h1⟩:=num_get hx
 obtain ⟨_,h2⟩:=num_get hy
 rw [h,h2] at h1
 exact (Option.some.inj h1).symm

theorem mark_reach {m : Md} (hc : ClosedM m) {r : Node} (hr : r ∈ allNodes m) {y : Node} (hy : y ∈ allNodes m) : (belowU (usesM m) (numR m r).toNat).getD (numR m y).toNat false = true ↔ Reach m r y:=by
 rw [below_iff uses_nat (numR_lt hr).2]
 constructor
 ·intro h
  have key : ∀ j,RI (usesM m) (numR m r).toNat j → ∃ z ∈ allNodes m,(numR m z).toNat = j ∧ Reach m r z:=by
   intro j h
   induction h with
   | root=>exact ⟨r,hr,rfl,.root⟩
   | step h hk ih =>
     obtain ⟨z,hz,e,hR⟩:=ih
     rw [← e,uses_get hz,uses_kids hc hz] at hk
     obtain ⟨w,hw,rfl⟩:=List.mem_map.1 hk
     obtain ⟨hw,h2⟩:=List.mem_filter.1 hw
     have hz2:=(mem_all.1 hz).1
     exact ⟨w,(okN_kids hc ((okN_kids hc (.inr (.inr hz)) hz2).2 w hw) (of_decide_eq_true h2)).1,rfl,.step hR hz2 hw⟩
  obtain ⟨z,hz,e,hR⟩:=key _ h
  rw [← num_inj hz hy e]; exact hR
 ·intro h
  have key : ∀ z,Reach m r z → z.1 = 2 → RI (usesM m) (numR m r).toNat (numR m z).toNat:=by
   intro z h
   induction h with
   | root=>intro _; exact .root
   | step h h2 hy ih =>
     rename_i a b
     intro hb
     have ha:=(okN_kids hc (h.ok hc (.inr (.inr hr))) h2).1
     refine .step (ih h2) ?_
     rw [uses_get ha,uses_kids hc ha]
     exact List.mem_map.2 ⟨b,List.mem_filter.2 ⟨hy,by simpa using hb⟩,rfl⟩
  exact key y h (mem_all.1 hy).1

theorem evL_bit {m : Md} {a : Int} {i : Nat} : ∀ (l : List Str) (e : Nat),(evL m a l e).testBit i = true ↔ (e.testBit i = true ∨ ∃ s ∈ l,(findX m a s).1 = 0 ∧ (findX m a s).2.2.toNat = i)
 | [],e=>by simp [evL]
 | s :: l,e=>by
   simp only [evL]
   rw [evL_bit l]
   by_cases h : (findX m a s).1 = 0
   ·rw [if_pos h,Nat.testBit_or,Nat.testBit_two_pow]
    simp only [Bool.or_eq_true,decide_eq_true_eq,List.mem_cons,exists_eq_or_imp]
    constructor
    ·rintro ((h1 | h1) | h1)
     ·exact .inl h1
     ·exact .inr (.inl ⟨h,h1⟩)
     ·exact .inr (.inr h1)
    ·rintro (h1 | h1 | h1)
     ·exact .inl (.inl h1)
     ·exact .inl (.inr h1.2)
     ·exact .inr h1
   ·rw [if_neg h]
    simp only [List.mem_cons,exists_eq_or_imp]
    constructor
    ·rintro (h1 | h1)
     ·exact .inl h1
     ·exact .inr (.inr h1)
    ·rintro (h1 | h1 | h1)
     ·exact .inl h1
     ·exact absurd h1.1 h
     ·exact .inr h1

theorem needs_fold {m : Md} {F : List Bool} {i : Nat} : ∀ (l : List Node) (p : Nat × Bool),
  (((l.foldl (stepN m F) p).1.testBit i = true ↔ (p.1.testBit i = true ∨ ∃ y ∈ l,F.getD (numR m y).toNat false = true ∧ ∃ s ∈ (gateAt m y).ins,(findX m y.2.1 s).1 = 0 ∧ (findX m y.2.1 s).2.2.toNat = i)) ∧
  ((l.foldl (stepN m F) p).2 = true ↔ (p.2 = true ∨ ∃ y ∈ l,F.getD (numR m y).toNat false = true ∧ dynG (gateAt m y) = true)))
 | [],p=>by simp
 | y :: l,p=>by
   obtain ⟨h1,h2⟩:=needs_fold (i:=i) l (stepN m F p y)
   simp only [List.foldl_cons]
   rw [h1,h2]
   simp only [List.mem_cons,exists_eq_or_imp]
   by_cases h : F.getD (numR m y).toNat false = true
   ·have e : stepN m F p y = (evL m y.2.1 (gateAt m y).ins p.1,p.2 || dynG (gateAt m y)):=if_pos h
    rw [e]
    dsimp only
    rw [evL_bit,Bool.or_eq_true]
    simp only [h,true_and,or_assoc,and_self]
   ·have e : stepN m F p y = p:=if_neg h
    rw [e]
    simp only [h,false_and,false_or,and_self,Bool.false_eq_true]


theorem stat_dyn {m : Md} (hM : MOk m) {y : Node} (hy : y ∈ allNodes m) : statK (gateAt m y).kind = !dynG (gateAt m y):=by
 obtain ⟨_,h2,h3,h4⟩:=mem_all.1 hy
 have hk : y.2.2.toNat < (gatesM m y.2.1).length:=by omega
 have ho:=(hM.gate h2 hk).own
 have e : gateAt m y = (gatesM m y.2.1)[y.2.2.toNat]:=by unfold gateAt; exact getD_lt' hk
 rw [← e] at ho
 generalize gateAt m y = g at *
 unfold mgErr at ho
 split at ho
 ·cases ho
 split at ho
 ·cases ho
 rename_i h5 h6
 have : g.kind = 0 ∨ g.kind = 1 ∨ g.kind = 2 ∨ g.kind = 3 ∨ g.kind = 4 ∨ g.kind = 5 ∨ g.kind = 6 ∨ g.kind = 7 ∨ g.kind = 8:=by omega
 unfold statK dynG
 rcases this with e | e | e | e | e | e | e | e | e <;> simp [e]

theorem Reach.trans {m : Md} {x y z : Node} (h : Reach m x y) (g : Reach m y z) : Reach m x z:=by
 induction g with
 | root=>exact h
 | step _ h2 hy ih=>exact ih.step h2 hy

theorem comp_err {m : Md} (hc : ClosedM m) {rank : Node → Nat} (hr : RankM m rank) (vars : Int) : ∀ (n : Nat) (x : Node) (st : CS),okN m x → lvl rank x < n → (compN m vars n x st).1.1 = true →
  ∃ y,Reach m x y ∧ y ∈ allNodes m ∧ statK (gateAt m y).kind = false
 | 0,_,_,_,h,_=>by omega
 | n + 1,x,st,hx,hn,h=>by
   unfold compN at h
   split at h
   ·cases h
   rename_i h0
   split at h
   ·cases h
   split at h
   ·cases h
   rename_i h1
   have h2 : x.1 = 2:=by
    rcases hx with h | h | h
    ·omega
    ·omega
    ·exact (mem_all.1 h).1
   obtain ⟨hxa,hk⟩:=okN_kids hc hx h2
   split at h
   ·exact ⟨x,.root,hxa,by assumption⟩
   split at h
   ·rename_i he
    have hlv : rank x < n:=by unfold lvl at hn; rw [if_pos h2] at hn; omega
    have key : ∀ (l : List Node) (s : CS) (acc : List Int),(∀ y ∈ l,y ∈ kidsM m x) → (compL (compN m vars n) l s acc).1.1 = true → ∃ y ∈ kidsM m x,∃ s,(compN m vars n y s).1.1 = true:=by
     intro l
     induction l with
     | nil=>intro s acc _ h; cases h
     | cons y l ih =>
       intro s acc hl h
       unfold compL at h
       split at h
       ·exact ⟨y,hl y (by simp),s,by assumption⟩
       ·exact ih _ _ (fun z hz=>hl z (by simp [hz])) h
    obtain ⟨y,hy,s,hs⟩:=key _ _ _ (fun _ h=>h) he
    have hly : lvl rank y < n:=by
     unfold lvl
     split
     ·rename_i e; have:=hr x hx h2 y hy e; omega
     ·omega
    obtain ⟨z,hz1,hz2,hz3⟩:=comp_err hc hr vars n y s (hk y hy) hly hs
    exact ⟨z,(Reach.root.step h2 hy).trans hz1,hz2,hz3⟩
   ·cases h

def GoodS (m : Md) (st : CS) : Prop:=∀ z : Node,lookO st.es z ≠ none → z.1 = 2 → statK (gateAt m z).kind = true ∧ ∀ y ∈ kidsM m z,y.1 = 0 ∨ lookO st.es y ≠ none
def Done (st : CS) (x : Node) : Prop:=x.1 = 0 ∨ lookO st.es x ≠ none
def LeS (s t : CS) : Prop:=∀ z,lookO s.es z ≠ none → lookO t.es z ≠ none

theorem comp_good {m : Md} (vars : Int) : ∀ (n : Nat) (x : Node) (st : CS),GoodS m st → (compN m vars n x st).1.1 = false → GoodS m (compN m vars n x st).2 ∧ Done (compN m vars n x st).2 x ∧ LeS st (compN m vars n x st).2
 | 0,_,_,_,h=>by cases h
 | n + 1,x,st,hg,h=>by
   have push : ∀ {s : CS} (nd : Nd),GoodS m s → LeS st s → (x.1 = 2 → statK (gateAt m x).kind = true ∧ ∀ y ∈ kidsM m x,Done s y) → GoodS m (pushN vars s x nd).2 ∧ Done (pushN vars s x nd).2 x ∧ LeS st (pushN vars s x nd).2:=by
    intro s nd h1 h2 h3
    have mono : LeS s (pushN vars s x nd).2:=by
     intro z hz
     show lookO (mark s.es x _) z ≠ none
     rw [lookO_mark]
     split
     ·simp
     ·exact hz
    refine ⟨fun z hz hz2=>?_,.inr ?_,fun z hz=>mono z (h2 z hz)⟩
    ·have hz : lookO (mark s.es x (vars + s.nodes.length)) z ≠ none:=hz
     rw [lookO_mark] at hz
     by_cases e : x = z
     ·subst e
      obtain ⟨k1,k2⟩:=h3 hz2
      exact ⟨k1,fun y hy=>(k2 y hy).imp id (mono y)⟩
     ·rw [if_neg e] at hz
      obtain ⟨k1,k2⟩:=h1 z hz hz2
      exact ⟨k1,fun y hy=>(k2 y hy).imp id (mono y)⟩
    ·show lookO (mark s.es x _) x ≠ none
     rw [lookO_mark,if_pos rfl]; simp
   unfold compN at h ⊢
   split
   ·rename_i h0; exact ⟨hg,.inl h0,fun _ h=>h⟩
   rename_i h0
   rw [if_neg h0] at h
   split
   ·rename_i a ha; exact ⟨hg,.inr (by rw [ha]; simp),fun _ h=>h⟩
   rename_i hn
   simp only [hn] at h
   split
   ·rename_i h1; exact push _ hg (fun _ h=>h) (fun e=>by omega)
   rename_i h1
   rw [if_neg h1] at h
   split
   ·rename_i hs; rw [if_pos hs] at h; cases h
   rename_i hs
   rw [if_neg hs] at h
   have key : ∀ (l : List Node) (s : CS) (acc : List Int),GoodS m s → (compL (compN m vars n) l s acc).1.1 = false → GoodS m (compL (compN m vars n) l s acc).2 ∧ (∀ y ∈ l,Done (compL (compN m vars n) l s acc).2 y) ∧ LeS s (compL (compN m vars n) l s acc).2:=by
    intro l
    induction l with
    | nil=>intro s acc h _; exact ⟨h,by simp,fun _ h=>h⟩
    | cons y l ih =>
      intro s acc h he
      unfold compL at he ⊢
      split
      ·rename_i hb; rw [if_pos hb] at he; cases he
      ·rename_i hb
       rw [if_neg hb] at he
       obtain ⟨g1,g2,g3⟩:=comp_good vars n y s h (by simpa using hb)
       obtain ⟨i1,i2,i3⟩:=ih _ _ g1 he
       refine ⟨i1,fun z hz=>?_,fun z hz=>i3 z (g3 z hz)⟩
       rcases List.mem_cons.1 hz with rfl | hz
       ·exact g2.imp id (i3 z)
       ·exact i2 z hz
   split
   ·rename_i he; rw [if_pos he] at h; cases h
   ·rename_i he
    obtain ⟨k1,k2,k3⟩:=key _ _ _ hg (by simpa using he)
    exact push _ k1 k3 fun _=>⟨by simpa using hs,k2⟩

theorem comp_static {m : Md} {vars : Int} {n : Nat} {x : Node} (h : (compN m vars n x ⟨[],[]⟩).1.1 = false) : ∀ y,Reach m x y → y.1 = 2 → statK (gateAt m y).kind = true:=by
 obtain ⟨h1,h2,_⟩:=comp_good (m:=m) vars n x ⟨[],[]⟩ (fun z hz=>by simp [lookO] at hz) h
 have key : ∀ y,Reach m x y → Done (compN m vars n x ⟨[],[]⟩).2 y:=by
  intro y hy
  induction hy with
  | root=>exact h2
  | step _ hk hy ih =>
    rcases ih with e | e
    ·omega
    ·exact (h1 _ e hk).2 _ hy
 intro y hy e
 rcases key y hy with k | k
 ·omega
 ·exact (h1 y k e).1

theorem comp_needs {m : Md} (hM : MOk m) {s : Str} (hs : isInR m (-1) s = true) : (compTop m s).1.1 = (needsR m (findX m (-1) s)).2:=by
 obtain ⟨he,_⟩:=findX_in hM (.inl rfl) hs
 have hok:=(hM.inOk (.inl rfl) hs).ok
 have hc:=hM.closed
 obtain ⟨rank,hr,hb⟩:=hM.rank
 rw [he]
 unfold compTop
 generalize resR m (-1) s = x at *
 have hiff : (compN m m.evs.length (fuelC m) x ⟨[],[]⟩).1.1 = true ↔ ∃ y,Reach m x y ∧ y ∈ allNodes m ∧ dynG (gateAt m y) = true:=by
  constructor
  ·intro h
   obtain ⟨y,h1,h2,h3⟩:=comp_err hc hr _ _ x _ hok (hb x) h
   refine ⟨y,h1,h2,?_⟩
   rw [stat_dyn hM h2] at h3
   simpa using h3
  ·rintro ⟨y,h1,h2,h3⟩
   cases h : (compN m m.evs.length (fuelC m) x ⟨[],[]⟩).1.1 with
   | true=>rfl
   | false =>
     have:=comp_static h y h1 (mem_all.1 h2).1
     rw [stat_dyn hM h2,h3] at this
     cases this
 rw [Bool.eq_iff_iff,hiff]
 unfold needsR
 by_cases h0 : x.1 = 0
 ·rw [if_pos h0]
  refine ⟨fun ⟨y,h1,h2,_⟩=>?_,fun h=>by cases h⟩
  have:=h1.leaf (by omega)
  subst this
  have:=(mem_all.1 h2).1
  omega
 rw [if_neg h0]
 by_cases h1 : x.1 = 1
 ·rw [if_pos h1]
  refine ⟨fun ⟨y,h2,h3,_⟩=>?_,fun h=>by cases h⟩
  have:=h2.leaf (by omega)
  subst this
  have:=(mem_all.1 h3).1
  omega
 rw [if_neg h1]
 have hx : x ∈ allNodes m:=by
  rcases hok with h | h | h
  ·omega
  ·omega
  ·exact h
 unfold needsG
 rw [(needs_fold (i:=0) (allNodes m) (0,false)).2]
 constructor
 ·rintro ⟨y,h2,h3,h4⟩
  exact .inr ⟨y,h3,(mark_reach hc hx h3).2 h2,h4⟩
 ·rintro (h | ⟨y,h2,h3,h4⟩)
  ·cases h
  ·exact ⟨y,(mark_reach hc hx h2).1 h3,h2,h4⟩

abbrev bAV (ve : Int) (st : CS) : AV:=.ag [.ag [.int .i64 ve,.sl 3 (st.nodes.map Nd.av) (.own 2),.int .i64 0],.sl 3 (st.es.map fun e=>nAV e.1) (.own 1),.sl 1 (st.es.map fun e=>.int .i64 e.2) (.own 0)]
abbrev hpR (st : CS) : Heap:=[(2,.tok 3 st.nodes.length),(1,.tok 3 st.es.length),(0,.tok 1 st.es.length)]

theorem c_rkind (k : Int) : FnH Tryz.prog 98 [.int .i64 k] [] (.int .i64 (if k = 1 then 3 else if k = 2 then 4 else if k = 3 then 1 else if k = 4 then 5 else 2)) []:=by
 obtain ⟨a,ha⟩ : ∃ a : Int,(if k = 1 then 3 else if k = 2 then 4 else if k = 3 then 1 else if k = 4 then 5 else 2) = a:=⟨_,rfl⟩
 rw [ha]
 refine FnH.intro lay mixed Tryz.func98 (by kernel_rfl) rfl (by kernel_rfl) rfl fun hok=>?_
 (try dsimp only[argC,succC]);(try dsimp only[awp]);conv=>whnf
 repeat' (first | (refine And.intro (fun _=>?_) (fun _=>?_) <;> ((try dsimp only[awp]);(conv=>whnf))))
 all_goals
  refine fM ?_;(conv=>whnf);refine ⟨?_,rfl⟩;conv=>whnf
 all_goals
  rw [← ha]
  repeat' first|exact rfl|exact trivial|exact wR|exact lR _|apply aI
 all_goals simp_all

theorem kind_same {k : Int} (h : statK k = true) : (if k = 1 then (3 : Int) else if k = 2 then 4 else if k = 3 then 1 else if k = 4 then 5 else 2) = kindN k:=by
 unfold statK at h
 simp only [Bool.or_eq_true,decide_eq_true_eq] at h
 unfold kindN
 rcases h with ((((h | h) | h) | h) | h) | h <;> subst h <;> rfl

theorem aidx_last {α : Type} {l : List α} {x : α} {k : α → Prop} (h : k x) : AIdx (l ++ [x]) ((((l ++ [x]).length : Nat) : Int) - 1) k :=
 ⟨⟨x,⟨by simp,by
  have : ((((l ++ [x]).length : Nat) : Int) - 1).toNat = l.length:=by simp
  rw [this]; simp⟩,h⟩⟩

theorem c_rnode (ve : Int) (hv : 0 ≤ ve ∧ ve ≤ 100) (st : CS) (hs : st.nodes.length ≤ 100000 ∧ st.es.length ≤ 100000) (x : Node) (nd : Nd) (hn : lookO st.es x = none) :
  FnH Tryz.prog 97 [bAV ve st,nAV x,nd.av] (hpR st) (.tup [bAV ve (pushN ve st x nd).2,.int .i64 (ve + st.nodes.length)]) (hpR (pushN ve st x nd).2):=by
 have e : (pushN ve st x nd).2 = ⟨st.nodes ++ [nd],st.es ++ [(x,ve + st.nodes.length)]⟩:=by
  unfold pushN; rw [(mark_new hn).1]
 rw [e]
 refine FnH.intro lay mixed Tryz.func97 (by kernel_rfl) rfl (by kernel_rfl) rfl fun hok=>?_
 (try dsimp only[argC,succC]);(try dsimp only[awp]);conv=>whnf
 refine ⟨by rw [List.length_map],.mk (by simp [maxL] <;> omega) (by simp <;> omega) ?_⟩
 (try dsimp only[awp]);conv=>whnf
 refine ⟨by rw [List.length_map],.mk (by simp [maxL] <;> omega) (by simp <;> omega) ?_⟩
 (try dsimp only[awp]);conv=>whnf
 refine ⟨inr64 (by simp <;> omega) (by simp <;> omega),?_⟩
 (try dsimp only[awp]);conv=>whnf
 refine ⟨inr64 (by simp <;> omega) (by simp <;> omega),?_⟩
 (try dsimp only[awp]);conv=>whnf
 refine ⟨by rw [List.length_map],.mk (by simp [maxL] <;> omega) (by simp <;> omega) ?_⟩
 (try dsimp only[awp]);conv=>whnf
 refine ADraw.late [2,4] ⟨[false,true,false,true,false,true,true,true,true,false,true],by kernel_rfl,?_⟩
 conv=>whnf
 refine ⟨inr64 (by simp <;> omega) (by simp <;> omega),?_⟩
 conv=>whnf
 refine aidx_last ?_
 conv=>whnf
 (refine aI (by (conv=>whnf)<;>exact rfl) ?_;(conv=>whnf))
 (refine aI (by (conv=>whnf)<;>exact rfl) ?_;(conv=>whnf))
 refine ⟨⟨_,_,.refl _ _,?_⟩⟩
 conv=>whnf
 refine ⟨?_,rfl,by simp [nextId],.mk ?_ (by simp [idsOk])⟩
 ·repeat' first|exact rfl|exact trivial|exact wR|exact lR _|apply aI
  all_goals first | (show leRL _ (List.map _ (_ ++ [_])); rw [List.map_append]; refine leRL_snoc ?_ (lR _); (repeat' first|exact rfl|exact trivial|exact lR _|apply aI); done) | (show leRL _ (List.map _ (_ ++ [_])); rw [List.map_append]; refine leRL_snoc ?_ (lR _); exact ⟨rfl,by simp <;> omega⟩) | (simp; done) | (simp; omega)
 ·repeat' first|exact rfl|exact trivial|exact wR|exact lR _|apply aI
  all_goals first | (simp; done) | (simp; omega)

theorem lookO_at {x : Node} : ∀ {es : Marks} {i : Nat} (h : i < es.length),es[i].1 = x → (∀ (j : Nat) (hj : j < es.length),j < i → es[j].1 ≠ x) → lookO es x = some es[i].2
 | [],_,h,_,_=>by simp at h
 | (y,u) :: es,0,_,h1,_=>by simp only [List.getElem_cons_zero] at h1; exact if_pos h1
 | (y,u) :: es,i + 1,h,h1,h2=>by
   have:=h2 0 (by simp) (by omega)
   simp only [List.getElem_cons_zero] at this
   simp only [lookO,if_neg this,List.getElem_cons_succ]
   exact lookO_at (by simpa using h) (by simpa using h1) fun j hj hji=>by
    have:=h2 (j + 1) (by simpa using hj) (by omega)
    simpa using this

theorem lookO_no {x : Node} : ∀ {es : Marks},(∀ (j : Nat) (hj : j < es.length),es[j].1 ≠ x) → lookO es x = none
 | [],_=>rfl
 | (y,u) :: es,h=>by
   have:=h 0 (by simp)
   simp only [List.getElem_cons_zero] at this
   simp only [lookO,if_neg this]
   exact lookO_no fun j hj=>by have:=h (j + 1) (by simpa using hj); simpa using this

abbrev zB : AV:=.ag [.ag [.int .i64 0,.nils,.int .i64 0],.nils,.nils]

theorem CInv.shortE {m : Md} (hB : MdB m) {st : CS} (h : CInv m st) : st.es.length ≤ 20000:=by
 rw [← h.len]; exact h.short hB

theorem c_rcompile (m : Md) (hM : MOk m) (hB : MdB m) (rank : Node → Nat) (hr : RankM m rank) : ∀ (n : Nat) (a : Int) (s : Str) (st : CS),(a = -1 ∨ (0 ≤ a ∧ a < (m.pages.length : Int))) → isInR m a s = true → lvl rank (resR m a s) < n → CInv m st →
  (compN m m.evs.length n (resR m a s) st).1.1 = false →
  FnH Tryz.prog 61 [bAV m.evs.length st,m.av,.int .i64 a,.str s] (hpR st) (.tup [bAV m.evs.length (compN m m.evs.length n (resR m a s) st).2,.int .i64 (compN m m.evs.length n (resR m a s) st).1.2]) (hpR (compN m m.evs.length n (resR m a s) st).2):=by
 intro n
 induction n with
 | zero=>intro a s st _ _ h; omega
 | succ n ih =>
   intro a s st ha hs hn hI hne
   have hin:=hM.inOk ha hs
   have hev:=hM.lens.1
   have cF:=c_Find m a s ha hM.noAt
   rw [(findX_in hM ha hs).1] at cF
   have hxo:=hin.ok
   have hshort:=hI.short hB
   have hshortE:=hI.shortE hB
   have hcl:=hM.closed
   have hkk:=fun h2=>okN_kids hcl hxo h2
   have hrk:=hr _ hxo
   have hInv:=comp_inv hcl hr m.evs.length n
   generalize resR m a s = x at *
   generalize hve : (m.evs.length : Int) = ve at *
   obtain ⟨x1,x2,x3⟩:=x
   refine FnH.intro lay mixed Tryz.func61 (by kernel_rfl) rfl (by kernel_rfl) rfl fun hok=>?_
   (try dsimp only[argC,succC]);(try dsimp only[awp]);conv=>whnf
   refine .pure _ _ ?_ ⟨rfl,rfl⟩ cF fun _=>?_
   ·exact leL_refl _
   (try dsimp only[awp]);conv=>whnf
   refine And.intro (fun h0=>?_) (fun h0=>?_)
   ·rw [show compN m ve (n + 1) (x1,x2,x3) st = ((false,x3),st) from if_pos h0]
    (try dsimp only[awp]);conv=>whnf
    refine ⟨⟨_,_,.refl _ _,?_⟩⟩
    conv=>whnf
    refine ⟨?_,rfl,by simp [nextId],.mk ?_ (by simp [idsOk])⟩
    ·all_goals exact wk
    ·all_goals exact wk
   (try dsimp only[awp]);conv=>whnf
   refine LoopE.of <| LoopSpec.inv (.refl _ _) (fun (i : Nat)=>i ≤ st.es.length ∧ ∀ (j : Nat) (hj : j < st.es.length),j < i → st.es[j].1 ≠ (x1,x2,x3))
    (fun i=>[(41,.int .i64 i)]) (fun _=>(6,.box (nAV (x1,x2,x3))) :: (5,.box zB) :: (4,.box m.av) :: (3,.box (bAV ve st)) :: hpR st) (fun i=>st.es.length - i) 0 ?_ (fun _=>rfl) ?_ ?_
   ·exact ⟨Nat.zero_le _,by omega⟩
   ·refine ⟨?_,.mk ?_ (by simp [idsOk])⟩
    ·all_goals exact wk
    ·all_goals exact wk
   rintro i ⟨hi,hno⟩ _
   (try dsimp only[awp]);conv=>whnf
   refine And.intro (fun hh=>?_) (fun hh=>?_)
   ·have hil : i < st.es.length:=by simpa using hh
    (try dsimp only[awp]);conv=>whnf
    refine aidx (f:=fun e : Node × Int=>nAV e.1) hil ?_
    (try dsimp only[awp]);conv=>whnf
    refine And.intro (fun h3=>?_) (fun h3=>?_)
    ·have hx : st.es[i].1 = (x1,x2,x3):=by
      generalize st.es[i].1 = y at *
      obtain ⟨y1,y2,y3⟩:=y
      simpa [eqPL,eqP] using h3
     have hlo:=lookO_at hil hx hno
     have hR : compN m ve (n + 1) (x1,x2,x3) st = ((false,st.es[i].2),st):=by unfold compN; rw [if_neg h0,hlo]
     rw [hR]
     (try dsimp only[awp]);conv=>whnf
     refine ADraw.late [2] ⟨[false,true,false,true,true,true,false,true],by kernel_rfl,?_⟩
     conv=>whnf
     refine aidx (f:=fun e : Node × Int=>.int .i64 e.2) hil ?_
     conv=>whnf
     (refine aI (by (conv=>whnf)<;>exact rfl) ?_;(conv=>whnf))
     refine ⟨⟨_,_,.refl _ _,?_⟩⟩
     conv=>whnf
     refine ⟨?_,rfl,by simp [nextId],.mk ?_ (by simp [idsOk])⟩
     ·all_goals exact wk
     ·all_goals exact wk
    ·(try dsimp only[awp]);conv=>whnf
     refine zA ?_;conv=>whnf
     refine ⟨i + 1,?_,?_,?_⟩
     ·refine ⟨hil,fun j hj hji e=>?_⟩
      by_cases hji2 : j = i
      ·subst hji2
       apply h3
       rw [e]
       simp [eqPL,eqP]
      ·exact hno j hj (by omega) e
     ·refine ⟨?_,.mk ?_ (by simp [idsOk])⟩
      ·all_goals exact wk
      ·all_goals exact wk
     ·omega
   have hil : i = st.es.length:=by (have : ¬ i < st.es.length:=by simpa using hh); omega
   subst hil
   clear hh
   have hlo:=lookO_no fun j hj=>hno j hj hj
   (try dsimp only[awp]);conv=>whnf
   refine And.intro (fun h1=>?_) (fun h1=>?_)
   ·have hh : 0 ≤ x3 ∧ x3 < (m.hs.length : Int):=by
     rcases hxo with h | h | h
     ·exact absurd h.1 h0
     ·exact ⟨h.2.2.1,h.2.2.2⟩
     ·have:=(mem_all.1 h).1; dsimp only at this; omega
    have hR : compN m ve (n + 1) (x1,x2,x3) st = pushN ve st (x1,x2,x3) ⟨0,if (houseAt m (x1,x2,x3)).on = true then 1 else 0,[]⟩:=by unfold compN; rw [if_neg h0,hlo]; exact if_pos h1
    rw [hR]
    (try dsimp only[awp]);conv=>whnf
    refine aidxD default hh ?_
    rw [show m.hs.getD x3.toNat default = houseAt m (x1,x2,x3) from rfl]
    generalize houseAt m (x1,x2,x3) = hs at *
    (try dsimp only[awp]);conv=>whnf
    refine And.intro (fun g=>?_) (fun g=>?_)
    ·rw [if_pos g]
     have cN:=c_rnode ve (by omega) st (by omega) (x1,x2,x3) ⟨0,1,[]⟩ hlo
     (try dsimp only[awp]);conv=>whnf
     refine .gen _ _ (FnH.frame [0,1,2] cN ⟨rfl,rfl,rfl,rfl⟩ ?_ ?_) fun _=>?_
     ·all_goals exact wk
     ·all_goals exact wk
     (try dsimp only[awp]);conv=>whnf
     refine ⟨⟨_,_,.refl _ _,?_⟩⟩
     conv=>whnf
     refine ⟨?_,rfl,by simp [nextId],.mk ?_ (by simp [idsOk])⟩
     ·all_goals exact wk
     ·all_goals exact wk
    ·rw [if_neg (by rw [g]; simp)]
     have cN:=c_rnode ve (by omega) st (by omega) (x1,x2,x3) ⟨0,0,[]⟩ hlo
     (try dsimp only[awp]);conv=>whnf
     refine .gen _ _ (FnH.frame [0,1,2] cN ⟨rfl,rfl,rfl,rfl⟩ ?_ ?_) fun _=>?_
     ·all_goals exact wk
     ·all_goals exact wk
     (try dsimp only[awp]);conv=>whnf
     refine ⟨⟨_,_,.refl _ _,?_⟩⟩
     conv=>whnf
     refine ⟨?_,rfl,by simp [nextId],.mk ?_ (by simp [idsOk])⟩
     ·all_goals exact wk
     ·all_goals exact wk
   have h2 : x1 = 2:=by
    rcases hxo with h | h | h
    ·exact absurd h.1 h0
    ·exact absurd h.1 h1
    ·exact (mem_all.1 h).1
   subst h2
   obtain ⟨hxa,hkk⟩:=hkk rfl
   obtain ⟨_,hpg,hix⟩:=mem_all.1 hxa
   have hrk:=hrk rfl
   have hlv : rank (2,x2,x3) < n:=by unfold lvl at hn; rw [if_pos rfl] at hn; omega
   have hgm : gateAt m (2,x2,x3) ∈ gatesM m x2:=by
    unfold gateAt
    rw [List.getD_eq_getElem?_getD,List.getElem?_eq_getElem (by dsimp only at hix ⊢; omega)]
    exact List.getElem_mem _
   have hil : (gateAt m (2,x2,x3)).ins.length ≤ 40:=by
    have:=hgm
    unfold gatesM at this
    split at this
    ·exact hB.gates.2 _ this
    ·rw [List.getD_eq_getElem?_getD] at this
     cases hp : m.pages[x2.toNat]? with
     | none=>rw [hp] at this; exact absurd this (by show ¬ gateAt m (2,x2,x3) ∈ ([] : List Mg); simp)
     | some p=>rw [hp] at this; exact (hB.pgates p (List.mem_of_getElem? hp)).2 _ this
   have hins : ∀ (j : Nat) (h : j < (gateAt m (2,x2,x3)).ins.length),isInR m x2 (gateAt m (2,x2,x3)).ins[j] = true ∧ (kidsM m (2,x2,x3))[j]? = some (resR m x2 (gateAt m (2,x2,x3)).ins[j]):=fun j h =>
    ⟨hM.ins_in hpg hgm (List.getElem_mem h),by simp [kidsM,h]⟩
   have hlen : (kidsM m (2,x2,x3)).length = (gateAt m (2,x2,x3)).ins.length:=by simp [kidsM]
   have hmem : ∀ y ∈ kidsM m (2,x2,x3),lvl rank y < n:=fun y hy=>by
    unfold lvl
    split
    ·rename_i e; have:=hrk y hy e; omega
    ·omega
   have hR : compN m ve (n + 1) (2,x2,x3) st = if statK (gateAt m (2,x2,x3)).kind = false then ((true,0),st)
    else if (compL (compN m ve n) (kidsM m (2,x2,x3)) st []).1.1 = true then ((true,0),(compL (compN m ve n) (kidsM m (2,x2,x3)) st []).2)
    else pushN ve (compL (compN m ve n) (kidsM m (2,x2,x3)) st []).2 (2,x2,x3) ⟨kindN (gateAt m (2,x2,x3)).kind,(gateAt m (2,x2,x3)).k,(compL (compN m ve n) (kidsM m (2,x2,x3)) st []).1.2⟩:=by
    conv=>lhs; unfold compN
    rw [if_neg h0,hlo]
    exact if_neg h1
   rw [hR] at hne
   have hst : statK (gateAt m (2,x2,x3)).kind = true:=by
    cases hk : statK (gateAt m (2,x2,x3)).kind with
    | true=>rfl
    | false=>rw [if_pos hk] at hne; cases hne
   rw [if_neg (by rw [hst]; simp)] at hR hne
   have hne2 : (compL (compN m ve n) (kidsM m (2,x2,x3)) st []).1.1 = false:=by
    cases hk : (compL (compN m ve n) (kidsM m (2,x2,x3)) st []).1.1 with
    | false=>rfl
    | true=>rw [if_pos hk] at hne; cases hne
   rw [if_neg (by rw [hne2]; simp)] at hR
   have cK:=c_rkind (gateAt m (2,x2,x3)).kind
   rw [kind_same hst] at cK
   have cG:=c_rGates m x2 hpg
   (try dsimp only[awp]);conv=>whnf
   refine .pure _ _ ?_ ⟨rfl,rfl⟩ cG fun _=>?_
   ·exact leL_refl _
   (try dsimp only[awp]);conv=>whnf
   refine aidxD default hix ?_
   have hga : (gatesM m x2).getD x3.toNat default = gateAt m (2,x2,x3):=rfl
   rw [hga]
   generalize gateAt m (2,x2,x3) = g at *
   generalize kidsM m (2,x2,x3) = K at *
   (try dsimp only[awp]);conv=>whnf
   refine ADraw.auto (by kernel_rfl) ?_;conv=>whnf
   refine ACallP.pure _ _ ?_ ⟨rfl,rfl⟩ cK ?_
   ·exact leL_refl _
   (try dsimp only[awp]);conv=>whnf
   generalize hW : compN m ve n = W at *
   generalize hS : compL W K st [] = Rz at *
   refine LoopE.of <| LoopSpec.inv (.growF 8 [2] 1 [] (.ag [.int .i64 (kindN g.kind),.int .i64 g.k,.nils]) .nils _ rfl rfl (.inl ⟨rfl,rfl⟩) rfl (.refl _ _))
    (fun (q : Nat × CS × List Int)=>q.1 ≤ g.ins.length ∧ compL W (K.drop q.1) q.2.1 q.2.2 = Rz ∧ q.2.2.length = q.1 ∧ CInv m q.2.1 ∧ (∀ z : Node,z.1 = 2 → rank (2,x2,x3) ≤ rank z → lookO st.es z = none → lookO q.2.1.es z = none))
    (fun q=>[(87,.int .i64 q.1)]) (fun q=>(9,.tok 1 q.1) :: (8,.box (.ag [.int .i64 (kindN g.kind),.int .i64 g.k,.sl 1 (q.2.2.map (.int .i64)) (.own 9)])) :: (7,.gone) :: (6,.box (nAV (2,x2,x3))) :: (5,.box zB) :: (4,.box m.av) :: (3,.box (bAV ve q.2.1)) :: hpR q.2.1) (fun q=>g.ins.length - q.1) (0,st,[]) ?_ (fun _=>rfl) ?_ ?_
   ·exact ⟨Nat.zero_le _,hS,rfl,hI,fun _ _ _ h=>h⟩
   ·refine ⟨?_,.mk ?_ (by simp [idsOk])⟩
    ·all_goals exact wk
    ·all_goals exact wk
   rintro ⟨j,sj,acc⟩ ⟨hj,hnj,hacc,hIj,hzj⟩ _
   dsimp only at hj hnj hacc hIj hzj
   (try dsimp only[awp]);conv=>whnf
   refine And.intro (fun hh=>?_) (fun hh=>?_)
   ·have hjl : j < g.ins.length:=by simpa using hh
    obtain ⟨hij,hKj⟩:=hins j hjl
    rw [drop_of_get? hKj] at hnj
    unfold compL at hnj
    have hyK:=List.mem_of_getElem? hKj
    have hlj:=hmem _ hyK
    have cw:=ih x2 g.ins[j] sj hpg hij hlj hIj
    have hIr:=hInv (resR m x2 g.ins[j]) sj (hM.inOk hpg hij).ok hIj
    have hyr:=hrk _ hyK
    (try dsimp only[awp]);conv=>whnf
    refine aidx hjl ?_
    generalize g.ins[j] = s2 at *
    generalize resR m x2 s2 = y at *
    generalize hr0 : W y sj = r at *
    obtain ⟨⟨rb,ra⟩,rs⟩:=r
    dsimp only at hnj hIr cw
    have hrb : rb = false:=by
     cases rb with
     | false=>rfl
     | true=>rw [if_pos rfl] at hnj; rw [← hnj] at hne2; cases hne2
    subst hrb
    rw [if_neg (by simp)] at hnj
    have cw:=cw rfl
    (try dsimp only[awp]);conv=>whnf
    refine .gen _ _ (FnH.frame [0,1,2] cw ⟨rfl,rfl,rfl,rfl⟩ ?_ ?_) fun _=>?_
    ·all_goals exact wk
    ·all_goals exact wk
    (try dsimp only[awp]);conv=>whnf
    refine ⟨by rw [List.length_map,hacc],.mk (by simp [maxL]; omega) (by simp; omega) ?_⟩
    (try dsimp only[awp]);conv=>whnf
    refine zA ?_;conv=>whnf
    refine ⟨(j + 1,rs,acc ++ [ra]),?_,?_,?_⟩
    ·exact ⟨hjl,hnj,by simp [hacc],hIr.1,fun z hz hxz hs=>hIr.2 z hz (fun e=>by have:=hyr e; omega) (hzj z hz hxz hs)⟩
    ·refine ⟨?_,.mk ?_ (by simp [idsOk])⟩
     ·all_goals exact wk
     ·repeat' first|exact rfl|exact trivial|exact wR|exact lR _|apply aI
      all_goals first | (show leRL _ (List.map _ (_ ++ [_])); rw [List.map_append]; exact lR _) | (simp [hacc]; done) | (simp; omega)
    ·show g.ins.length - (j + 1) < g.ins.length - j
     omega
   have hjl : K.length ≤ j:=by (have : ¬ j < g.ins.length:=by simpa using hh); omega
   rw [List.drop_eq_nil_of_le hjl] at hnj
   unfold compL at hnj
   rw [← hnj] at hR
   rw [hR]
   have cN:=c_rnode ve (by omega) sj (by have:=hIj.short hB; have:=hIj.shortE hB; omega) (2,x2,x3) ⟨kindN g.kind,g.k,acc⟩ (hzj _ rfl (Nat.le_refl _) hlo)
   (try dsimp only[awp]);conv=>whnf
   refine .gen _ _ (FnH.frame [0,1,2] cN ⟨rfl,rfl,rfl,rfl⟩ ?_ ?_) fun _=>?_
   ·all_goals exact wk
   ·all_goals exact wk
   (try dsimp only[awp]);conv=>whnf
   refine ⟨⟨_,_,.refl _ _,?_⟩⟩
   conv=>whnf
   refine ⟨?_,rfl,by simp [nextId],.mk ?_ (by simp [idsOk])⟩
   ·all_goals exact wk
   ·all_goals exact wk

theorem intsSelf (a : List Int) : FnH Tryz.prog 33 [iL a,iL a] [] .tt []:=(c_ints a a).weak (R':=.tt) (by show decide _ = true; simp)

theorem c_form1 (f : Fo) : FnH Tryz.prog 10 [f.av,f.av] [] .tt []:=by
 refine FnH.intro lay mixed Tryz.func10 (by kernel_rfl) rfl (by kernel_rfl) rfl fun hok=>?_
 have ha : f.nodes.length ≤ 9223372036854775807:=by
  have:=hok.1
  simp only [Ok,OkL,maxL,List.length_map] at this
  exact this.2.1.1
 (try dsimp only[argC,succC]);(try dsimp only[awp]);conv=>whnf
 refine And.intro (fun h=>absurd rfl h) (fun _=>?_)
 (try dsimp only[awp]);conv=>whnf
 refine And.intro (fun h=>absurd rfl h) (fun _=>?_)
 (try dsimp only[awp]);conv=>whnf
 refine And.intro (fun h=>absurd rfl h) (fun _=>?_)
 (try dsimp only[awp]);conv=>whnf
 refine LoopE.of <| LoopSpec.inv (.refl _ _) (fun (i : Nat)=>i ≤ f.nodes.length) (fun (i : Nat)=>[(30,.int .i64 i)]) (fun _=>_) (fun (i : Nat)=>f.nodes.length - i) 0 ?_ (fun _=>rfl) ?_ ?_
 ·exact Nat.zero_le _
 ·all_goals exact wk
 intro i hi _
 (try dsimp only[awp]);conv=>whnf
 refine And.intro (fun h1=>?_) (fun h1=>?_)
 ·have hlt : i < f.nodes.length:=by simpa using h1
  (try dsimp only[awp]);conv=>whnf
  refine ADraw.auto (by kernel_rfl) ?_;conv=>whnf
  refine aidx hlt ?_
  conv=>whnf
  refine aidx hlt ?_
  conv=>whnf
  refine And.intro (fun h=>absurd rfl h) (fun _=>?_)
  conv=>whnf
  refine aidx hlt ?_
  conv=>whnf
  refine aidx hlt ?_
  conv=>whnf
  refine And.intro (fun h=>absurd rfl h) (fun _=>?_)
  conv=>whnf
  refine aidx hlt ?_
  conv=>whnf
  refine aidx hlt ?_
  conv=>whnf
  refine ACallP.pure _ _ ?_ ⟨rfl,rfl⟩ (intsSelf f.nodes[i].args) ?_
  ·exact leL_refl _
  (try dsimp only[awp]);conv=>whnf
  refine zA ?_;conv=>whnf
  refine ⟨i + 1,?_,?_,?_⟩
  ·exact hlt
  ·refine ⟨?_,.mk ?_ (by simp [idsOk])⟩
   ·all_goals exact wk
   ·all_goals exact wk
  ·omega
 ·have hl : i = f.nodes.length:=by (have : ¬ i < f.nodes.length:=by simpa using h1); omega
  subst hl
  clear h1
  (try dsimp only[awp]);conv=>whnf
  refine fM ?_;(conv=>whnf);refine ⟨?_,rfl⟩;conv=>whnf
  all_goals exact wk

def zR : Rat:=⟨false,[],[]⟩
def mdE26 : Md:={ name:=[109],top:=[103],evs:=[⟨[97],zR,zR,zR,0⟩,⟨[98],zR,zR,zR,0⟩],hs:=[⟨[104],true⟩],gates:=[⟨[103],1,0,[[104],[107]],zR⟩,⟨[107],5,0,[[97],[98]],zR⟩],pages:=[],grs:=[],phs:=[] }

theorem c_Example26 : FnH Tryz.prog 18 [] [] mdE26.av []:=by
 refine FnH.intro lay mixed Tryz.func18 (by kernel_rfl) rfl (by kernel_rfl) rfl fun hok=>?_
 (try dsimp only[argC,succC]);(try dsimp only[awp]);conv=>whnf
 refine fM ?_;(conv=>whnf);refine ⟨?_,rfl⟩;conv=>whnf
 all_goals exact wk

theorem ex26 : staticR mdE26 = (⟨2,[⟨0,1,[]⟩,⟨2,0,[0,1]⟩,⟨3,0,[2,3]⟩],4⟩,0):=by decide +kernel

theorem light26 : lightM mdE26 = true:=by decide +kernel

theorem c_awake26 : FnH Tryz.prog 4 [] [] (.bool true) []:=by
 obtain ⟨hB,hC⟩:=lightM_B light26
 have cs:=c_Static mdE26 hC hB _ rfl
 rw [ex26] at cs
 have cf:=c_form1 ⟨2,[⟨0,1,[]⟩,⟨2,0,[0,1]⟩,⟨3,0,[2,3]⟩],4⟩
 refine FnH.intro lay mixed Tryz.func4 (by kernel_rfl) rfl (by kernel_rfl) rfl fun hok=>?_
 (try dsimp only[argC,succC]);(try dsimp only[awp]);conv=>whnf
 refine .pure _ _ ?_ ⟨rfl,rfl⟩ c_Example26 fun _=>?_
 ·exact leL_refl _
 (try dsimp only[awp]);conv=>whnf
 refine .pure _ _ ?_ ⟨rfl,rfl⟩ cs fun _=>?_
 ·all_goals exact wk
 (try dsimp only[awp]);conv=>whnf
 refine .pure _ _ ?_ ⟨rfl,rfl⟩ cf fun _=>?_
 ·all_goals exact wk
 (try dsimp only[awp]);conv=>whnf
 refine fM ?_;(conv=>whnf);refine ⟨?_,rfl⟩;conv=>whnf
 all_goals exact wk

theorem c_rAt (m : Md) (hM : MOk m) (hB : MdB m) (s : Str) (R : AV) (hR : R = .tup [(atR m s).1.av,.int .i64 (atR m s).2]) : FnH Tryz.prog 34 [m.av,.str s] [] R []:=by
 have hc:=checkM_of hM
 have hev:=hM.lens.1
 have cF:=c_Find m (-1) s (.inl rfl) hM.noAt
 cases hs : isInR m (-1) s with
 | false =>
   have hn:=findX_out hs
   have hi : (inputR m (-1) s).2 = 5:=by
    unfold inputR
    rw [if_neg (by rw [hc]; simp),if_neg (by omega),if_neg (by omega),if_pos hs]
   rw [show atR m s = (⟨0,[],0⟩,5) from by unfold atR; rw [hi]; exact if_pos (by decide)] at hR
   subst hR
   generalize findX m (-1) s = x at *
   obtain ⟨x1,x2,x3⟩:=x
   refine FnH.intro lay mixed Tryz.func34 (by kernel_rfl) rfl (by kernel_rfl) rfl fun hok=>?_
   (try dsimp only[argC,succC]);(try dsimp only[awp]);conv=>whnf
   refine .pure _ _ ?_ ⟨rfl,rfl⟩ cF fun _=>?_
   ·exact leL_refl _
   (try dsimp only[awp]);conv=>whnf
   refine And.intro (fun _=>?_) (fun h=>absurd hn h)
   (try dsimp only[awp]);conv=>whnf
   refine ⟨⟨_,_,.refl _ _,?_⟩⟩
   conv=>whnf
   refine ⟨?_,rfl,by simp [nextId],.mk ?_ (by simp [idsOk])⟩
   ·all_goals exact wk
   ·all_goals exact wk
 | true =>
   obtain ⟨he,hn⟩:=findX_in hM (.inl rfl) hs
   have hin:=hM.inOk (.inl rfl) hs
   have cN:=c_Needs m hM hB s hs _ rfl
   have hcn:=comp_needs hM hs
   have hi : (inputR m (-1) s).2 = 0:=by
    unfold inputR
    rw [if_neg (by rw [hc]; simp),if_neg (by omega),if_neg (by omega),if_neg (by rw [hs]; simp)]
   have hA : atR m s = if (compTop m s).1.1 = true then (⟨0,[],0⟩,7) else (⟨m.evs.length,(compTop m s).2.nodes,(compTop m s).1.2⟩,0):=if_neg (by rw [hi]; simp)
   rw [hA] at hR
   rw [← hcn] at cN
   obtain ⟨rank,hr,hb⟩:=hM.rank
   have cw:=c_rcompile m hM hB rank hr (fuelC m) (-1) s ⟨[],[]⟩ (.inl rfl) hs (hb _) (.nil m)
   rw [show compN m m.evs.length (fuelC m) (resR m (-1) s) ⟨[],[]⟩ = compTop m s from rfl] at cw
   generalize (needsR m (findX m (-1) s)).1 = nv at *
   generalize findX m (-1) s = x at *
   obtain ⟨x1,x2,x3⟩:=x
   dsimp only at hn
   generalize compTop m s = r at *
   obtain ⟨⟨rb,ra⟩,rn,re⟩:=r
   dsimp only at hR cN cw
   cases rb with
   | true =>
     rw [if_pos rfl] at hR
     subst hR
     refine FnH.intro lay mixed Tryz.func34 (by kernel_rfl) rfl (by kernel_rfl) rfl fun hok=>?_
     (try dsimp only[argC,succC]);(try dsimp only[awp]);conv=>whnf
     refine .pure _ _ ?_ ⟨rfl,rfl⟩ cF fun _=>?_
     ·exact leL_refl _
     (try dsimp only[awp]);conv=>whnf
     refine And.intro (fun h=>by exfalso; omega) (fun _=>?_)
     (try dsimp only[awp]);conv=>whnf
     refine .pure _ _ ?_ ⟨rfl,rfl⟩ cN fun _=>?_
     ·exact leL_refl _
     (try dsimp only[awp]);conv=>whnf
     refine And.intro (fun _=>?_) (fun h=>by cases h)
     (try dsimp only[awp]);conv=>whnf
     refine ⟨⟨_,_,.refl _ _,?_⟩⟩
     conv=>whnf
     refine ⟨?_,rfl,by simp [nextId],.mk ?_ (by simp [idsOk])⟩
     ·all_goals exact wk
     ·all_goals exact wk
   | false =>
     rw [if_neg (by simp)] at hR
     subst hR
     have cw:=cw rfl
     refine FnH.intro lay mixed Tryz.func34 (by kernel_rfl) rfl (by kernel_rfl) rfl fun hok=>?_
     (try dsimp only[argC,succC]);(try dsimp only[awp]);conv=>whnf
     refine .pure _ _ ?_ ⟨rfl,rfl⟩ cF fun _=>?_
     ·exact leL_refl _
     (try dsimp only[awp]);conv=>whnf
     refine And.intro (fun h=>by exfalso; omega) (fun _=>?_)
     (try dsimp only[awp]);conv=>whnf
     refine .pure _ _ ?_ ⟨rfl,rfl⟩ cN fun _=>?_
     ·exact leL_refl _
     (try dsimp only[awp]);conv=>whnf
     refine And.intro (fun h=>by cases h) (fun _=>?_)
     (try dsimp only[awp]);conv=>whnf
     rw [show (((m.evs.map Ev.av).length : Nat) : Int) = (m.evs.length : Int) by simp]
     refine .gen _ _ (FnH.growA 0 [2] 1 rfl rfl rfl rfl rfl (FnH.growA 0 [1] 3 rfl rfl rfl rfl rfl (FnH.growA 0 [0,1] 3 rfl rfl rfl rfl rfl (FnH.frame [2,3,4] cw ⟨rfl,rfl,rfl,rfl⟩ ?_ ?_)))) fun _=>?_
     ·all_goals exact wk
     ·all_goals exact wk
     (try dsimp only[awp]);conv=>whnf
     refine ⟨⟨_,_,.refl _ _,?_⟩⟩
     conv=>whnf
     refine ⟨?_,rfl,by simp [nextId],.mk ?_ (by simp [idsOk])⟩
     ·all_goals exact wk
     ·all_goals exact wk


def rnS (old new s : Str) : Str:=if s = old then new else s
def rnG (old new : Str) (g : Mg) : Mg:={ g with ins:=g.ins.map (rnS old new) }
def rnE (old new : Str) (x : Ev) : Ev:={ x with name:=rnS old new x.name }
def rnP (old new : Str) (x : Pg) : Pg:={ x with top:=rnS old new x.top,gates:=x.gates.map (rnG old new) }
def rnGr (old new : Str) (x : Gr) : Gr:={ x with mem:=x.mem.map (rnS old new) }
def rnPv (old new : Str) (x : Pv) : Pv:={ x with ev:=rnS old new x.ev }
def rnPh (old new : Str) (x : Ph) : Ph:={ x with top:=rnS old new x.top,vals:=x.vals.map (rnPv old new) }
def rnM (m : Md) (old new : Str) : Md :=
 { name:=m.name,top:=rnS old new m.top,evs:=m.evs.map (rnE old new),hs:=m.hs,gates:=m.gates.map (rnG old new),pages:=m.pages.map (rnP old new),grs:=m.grs.map (rnGr old new),phs:=m.phs.map (rnPh old new) }


def Fr (old new s : Str) : Prop:=s = new → new = old

structure FreshM (m : Md) (old new : Str) : Prop where
 ev : 0 ≤ i_event m.evs old
 evs : ∀ x ∈ m.evs,Fr old new x.name
 top : Fr old new m.top
 gates : ∀ g ∈ m.gates,∀ s ∈ g.ins,Fr old new s
 pages : ∀ p ∈ m.pages,Fr old new p.top ∧ ∀ g ∈ p.gates,∀ s ∈ g.ins,Fr old new s
 grs : ∀ g ∈ m.grs,∀ s ∈ g.mem,Fr old new s
 phs : ∀ p ∈ m.phs,Fr old new p.top ∧ ∀ v ∈ p.vals,Fr old new v.ev
 nold : nameR old = true
 nnew : nameR new = true

theorem ev_first {m : Md} (h : eventsErr m = 0) {i : Nat} (hi : i < m.evs.length) : (i : Int) ≤ i_event m.evs m.evs[i].name:=by
 have:=(eventsErr_zero h).2.2.1 i hi
 unfold evErr at this
 split at this
 ·cases this
 split at this
 ·cases this
 omega

theorem phases_in {m : Md} (h : phasesErr m = 0) : ∀ p ∈ m.phs,isInR m (-1) p.top = true ∧ ∀ v ∈ p.vals,0 ≤ i_event m.evs v.ev:=by
 unfold phasesErr at h
 split at h
 ·cases h
 intro p hp
 obtain ⟨i,hi,rfl⟩:=List.getElem_of_mem hp
 have:=errL_zero.1 h i hi
 unfold phErr at this
 split at this
 ·cases this
 split at this
 ·cases this
 split at this
 ·cases this
 rename_i h3
 refine ⟨by simpa using h3,fun v hv=>?_⟩
 obtain ⟨j,hj,rfl⟩:=List.getElem_of_mem hv
 have:=errL_zero.1 this j hj
 unfold pvErr at this
 split at this
 ·cases this
 omega


def phF (vs : List Pv) (x : Ev) : Rat:=vs.foldl (fun r v=>if v.ev = x.name then v.p else r) x.p
def phP (m : Md) (vs : List Pv) : List Rat:=m.evs.map (phF vs)

theorem phF_succ {vs : List Pv} {k : Nat} (h : k < vs.length) (x : Ev) : phF (vs.take (k + 1)) x = if vs[k].ev = x.name then vs[k].p else phF (vs.take k) x:=by
 unfold phF
 rw [List.take_succ_eq_append_getElem h,List.foldl_append]; rfl

theorem i_event_iff {m : Md} (hM : MOk m) {s : Str} (hs : 0 ≤ i_event m.evs s) {i : Nat} (hi : i < m.evs.length) : (i_event m.evs s).toNat = i ↔ s = m.evs[i].name:=by
 constructor
 ·intro h
  rcases idxP_cases (fun x : Ev=>decide (x.name = s)) m.evs with ⟨h1,_⟩ | ⟨j,hj,h1,h2,_⟩
  ·unfold i_event at hs; rw [h1] at hs; omega
  ·unfold i_event at h; rw [h1] at h
   obtain rfl : j = i:=by simpa using h
   simpa using (of_decide_eq_true h2).symm
 ·rintro rfl
  have h1:=ev_first hM.evs hi
  have h2:=(idxP_le (p:=fun x : Ev=>decide (x.name = m.evs[i].name)) hi (by simp)).2
  unfold i_event at h1 ⊢; omega

theorem phP_set {m : Md} (hM : MOk m) {vs : List Pv} {k : Nat} (h : k < vs.length) (hv : 0 ≤ i_event m.evs vs[k].ev) :
  phP m (vs.take (k + 1)) = (phP m (vs.take k)).set (i_event m.evs vs[k].ev).toNat vs[k].p:=by
 apply List.ext_getElem
 ·simp [phP]
 ·intro i h1 h2
  have hi : i < m.evs.length:=by simpa [phP] using h1
  have:=i_event_iff hM hv hi
  simp only [phP,List.getElem_map,List.getElem_set,phF_succ h]
  by_cases hc : vs[k].ev = m.evs[i].name
  ·rw [if_pos hc,if_pos (this.2 hc)]
  ·rw [if_neg hc,if_neg (fun e=>hc (this.1 e))]

def refS (m : Md) (vs : List Pv) (i k : Nat) : List Rat:=m.evs.zipIdx.map fun y=>if y.2 < i then phF vs y.1 else if y.2 = i then phF (vs.take k) y.1 else y.1.p

theorem refS_get {m : Md} {vs : List Pv} {i k j : Nat} (h : j < (refS m vs i k).length) (hj : j < m.evs.length) : (refS m vs i k)[j] = if j < i then phF vs m.evs[j] else if j = i then phF (vs.take k) m.evs[j] else m.evs[j].p:=by
 simp [refS]

theorem refS_len (m : Md) (vs : List Pv) (i k : Nat) : (refS m vs i k).length = m.evs.length:=by simp [refS]

theorem refS_zero (m : Md) (vs : List Pv) : refS m vs 0 0 = m.evs.map Ev.p:=by
 apply List.ext_getElem
 ·simp [refS]
 ·intro j h1 h2
  have hj : j < m.evs.length:=by simpa using h2
  rw [refS_get h1 hj]
  rw [if_neg (by omega)]
  split
  ·simp [phF]
  ·simp

theorem refS_next (m : Md) (vs : List Pv) (i : Nat) : refS m vs i vs.length = refS m vs (i + 1) 0:=by
 apply List.ext_getElem
 ·simp [refS]
 ·intro j h1 h2
  have hj : j < m.evs.length:=by simpa [refS] using h2
  rw [refS_get h1 hj,refS_get h2 hj]
  rw [List.take_length,List.take_zero]
  by_cases h : j < i
  ·rw [if_pos h,if_pos (by omega)]
  ·rw [if_neg h]
   by_cases h' : j = i
   ·rw [if_pos h',if_pos (by omega)]
   ·rw [if_neg h',if_neg (by omega)]
    split
    ·simp [phF]
    ·rfl

theorem refS_last (m : Md) (vs : List Pv) : refS m vs m.evs.length 0 = phP m vs:=by
 apply List.ext_getElem
 ·simp [refS,phP]
 ·intro j h1 h2
  have hj : j < m.evs.length:=by simpa [phP] using h2
  rw [refS_get h1 hj,if_pos hj]
  simp [phP]

theorem refS_set {m : Md} {vs : List Pv} {i k : Nat} (h : k < vs.length) (hi : i < m.evs.length) (he : vs[k].ev = m.evs[i].name) : refS m vs i (k + 1) = (refS m vs i k).set i vs[k].p:=by
 apply List.ext_getElem
 ·simp [refS]
 ·intro j h1 h2
  have hj : j < m.evs.length:=by simpa [refS] using h1
  rw [refS_get h1 hj,List.getElem_set,refS_get (by rw [refS_len]; exact hj) hj]
  by_cases hji : j = i
  ·subst hji
   rw [if_neg (Nat.lt_irrefl _),if_pos rfl,if_pos rfl,phF_succ h,if_pos he]
  ·rw [if_neg (c:=i = j) (fun e=>hji e.symm),if_neg (c:=j = i) hji,if_neg (c:=j = i) hji]

theorem refS_skip {m : Md} {vs : List Pv} {i k : Nat} (h : k < vs.length) (hi : i < m.evs.length) (he : vs[k].ev ≠ m.evs[i].name) : refS m vs i (k + 1) = refS m vs i k:=by
 apply List.ext_getElem
 ·simp [refS]
 ·intro j h1 h2
  have hj : j < m.evs.length:=by simpa [refS] using h1
  rw [refS_get h1 hj,refS_get h2 hj]
  by_cases hji : j = i
  ·subst hji
   rw [if_neg (Nat.lt_irrefl _),if_neg (Nat.lt_irrefl _),if_pos rfl,if_pos rfl,phF_succ h,if_neg he]
  ·rw [if_neg (c:=j = i) hji,if_neg (c:=j = i) hji]

theorem c_clone26 (x : Rat) (hx : shortX x) : FnH Tryz.prog 22 [x.av] [] x.av []:=by
 have c1:=c_clone32 x.num (by have:=hx.1; omega)
 have c2:=c_clone32 x.den (by have:=hx.2; omega)
 refine FnH.intro lay mixed Tryz.func22 (by kernel_rfl) rfl (by kernel_rfl) rfl fun hok=>?_
 (try dsimp only[argC,succC]);(try dsimp only[awp]);conv=>whnf
 refine ADraw.auto (by kernel_rfl) ?_;conv=>whnf
 refine ACallP.pure _ _ ?_ ⟨rfl,rfl⟩ c1 ?_
 ·exact leL_refl _
 conv=>whnf
 refine ACallP.pure _ _ ?_ ⟨rfl,rfl⟩ c2 ?_
 ·exact leL_refl _
 conv=>whnf
 refine fM ?_;(conv=>whnf);refine ⟨?_,rfl⟩;conv=>whnf
 all_goals exact wk

theorem c_rNames26 (m : Md) (hb : m.evs.length ≤ 24) : FnH Tryz.prog 14 [m.av] [] (sL (m.evs.map Ev.name)) []:=by
 refine FnH.intro lay mixed Tryz.func14 (by kernel_rfl) rfl (by kernel_rfl) rfl fun hok=>?_
 (try dsimp only[argC,succC]);(try dsimp only[awp]);conv=>whnf
 refine LoopE.of <| LoopSpec.inv (.grow 3 1 [] _ rfl (.inl ⟨rfl,rfl⟩) (.refl _ _)) (fun i : Nat=>i ≤ m.evs.length) (fun i=>[(9,.int .i64 i),(3,.sl 1 (((m.evs.take i).map Ev.name).map .str) (.own 1))]) (fun i=>[(1,.tok 1 i),(0,.box m.av)]) (fun i=>m.evs.length - i) 0 (Nat.zero_le _) (fun _=>rfl) ?_ ?_
 ·all_goals exact wk
 intro i hi _
 (try dsimp only[awp]);conv=>whnf
 refine And.intro (fun h1=>?_) (fun h1=>?_)
 ·have hlt : i < m.evs.length:=by simpa using h1
  (try dsimp only[awp]);conv=>whnf
  refine aidx hlt ?_
  (try dsimp only[awp]);conv=>whnf
  refine ⟨by simp; omega,?_⟩
  (refine ⟨by simp [maxL] <;> omega,by simp <;> omega,?_⟩;(conv=>whnf))
  refine zA ?_;conv=>whnf
  refine ⟨i + 1,?_,?_,?_⟩
  ·exact hlt
  ·refine ⟨?_,.mk ?_ ?_⟩
   ·repeat' first|exact rfl|exact trivial|exact wR|exact lR _|apply aI
    refine leRL_of ?_
    rw [show m.evs.take (i + 1) = m.evs.take i ++ [m.evs[i]] from List.take_succ_eq_append_getElem hlt]
    simp only [List.map_append]; rfl
   ·repeat' first|exact rfl|exact trivial|exact wR|exact lR _|apply aI
    simp; omega
   ·exact ⟨by simp,by simp,trivial⟩
  ·omega
 ·have hl : i = m.evs.length:=by (have : ¬ i < m.evs.length:=by simpa using h1); omega
  subst hl
  clear h1
  rw [List.take_length]
  (try dsimp only[awp]);conv=>whnf
  refine fM ?_;(conv=>whnf);refine ⟨?_,rfl⟩;conv=>whnf
  all_goals exact wk

theorem c_rProbsW (m : Md) (hb : m.evs.length ≤ 24) : FnH Tryz.prog 16 [m.av] [] (.gs 1 m.evs.length) [(1,.wtok 3 ((m.evs.map Ev.p).map Rat.av))]:=by
 refine FnH.intro lay mixed Tryz.func16 (by kernel_rfl) rfl (by kernel_rfl) rfl fun hok=>?_
 (try dsimp only[argC,succC]);(try dsimp only[awp]);conv=>whnf
 refine LoopE.of <| LoopSpec.inv (.growW 3 3 rfl (.refl _ _)) (fun i : Nat=>i ≤ m.evs.length) (fun i=>[(9,.int .i64 i),(3,.gs 1 i)]) (fun i=>[(1,.wtok 3 (((m.evs.take i).map Ev.p).map Rat.av)),(0,.box m.av)]) (fun i=>m.evs.length - i) 0 (Nat.zero_le _) (fun _=>rfl) ?_ ?_
 ·all_goals exact wk
 intro i hi _
 (try dsimp only[awp]);conv=>whnf
 refine And.intro (fun h1=>?_) (fun h1=>?_)
 ·have hlt : i < m.evs.length:=by simpa using h1
  (try dsimp only[awp]);conv=>whnf
  refine aidx hlt ?_
  (try dsimp only[awp]);conv=>whnf
  refine ⟨by simp; omega,by simp,?_⟩
  (refine ⟨by simp [maxL] <;> omega,by simp <;> omega,?_⟩;(conv=>whnf))
  refine zA ?_;conv=>whnf
  refine ⟨i + 1,?_,?_,?_⟩
  ·exact hlt
  ·refine ⟨?_,.mk ?_ ?_⟩
   ·all_goals exact wk
   ·repeat' first|exact rfl|exact trivial|exact wR|exact lR _|apply aI
    refine leRL_of ?_
    rw [show m.evs.take (i + 1) = m.evs.take i ++ [m.evs[i]] from List.take_succ_eq_append_getElem hlt]
    simp only [List.map_append]; rfl
   ·exact ⟨by simp,by simp,trivial⟩
  ·omega
 ·have hl : i = m.evs.length:=by (have : ¬ i < m.evs.length:=by simpa using h1); omega
  subst hl
  clear h1
  rw [List.take_length]
  (try dsimp only[awp]);conv=>whnf
  refine ⟨⟨_,_,.refl _ _,?_⟩⟩
  conv=>whnf
  refine ⟨?_,rfl,by simp [nextId],.mk ?_ (by simp [idsOk])⟩
  ·all_goals exact wk
  ·all_goals exact wk
theorem c_rProbsP (m : Md) (hb : m.evs.length ≤ 24) : FnH Tryz.prog 16 [m.av] [] (.sl 3 ((m.evs.map Ev.p).map Rat.av) .no) []:=by
 refine FnH.intro lay mixed Tryz.func16 (by kernel_rfl) rfl (by kernel_rfl) rfl fun hok=>?_
 (try dsimp only[argC,succC]);(try dsimp only[awp]);conv=>whnf
 refine LoopE.of <| LoopSpec.inv (.grow 3 3 [] _ rfl (.inl ⟨rfl,rfl⟩) (.refl _ _)) (fun i : Nat=>i ≤ m.evs.length) (fun i=>[(9,.int .i64 i),(3,.sl 3 (((m.evs.take i).map Ev.p).map Rat.av) (.own 1))]) (fun i=>[(1,.tok 3 i),(0,.box m.av)]) (fun i=>m.evs.length - i) 0 (Nat.zero_le _) (fun _=>rfl) ?_ ?_
 ·all_goals exact wk
 intro i hi _
 (try dsimp only[awp]);conv=>whnf
 refine And.intro (fun h1=>?_) (fun h1=>?_)
 ·have hlt : i < m.evs.length:=by simpa using h1
  (try dsimp only[awp]);conv=>whnf
  refine aidx hlt ?_
  (try dsimp only[awp]);conv=>whnf
  refine ⟨by simp; omega,?_⟩
  (refine ⟨by simp [maxL] <;> omega,by simp <;> omega,?_⟩;(conv=>whnf))
  refine zA ?_;conv=>whnf
  refine ⟨i + 1,?_,?_,?_⟩
  ·exact hlt
  ·refine ⟨?_,.mk ?_ ?_⟩
   ·repeat' first|exact rfl|exact trivial|exact wR|exact lR _|apply aI
    refine leRL_of ?_
    rw [show m.evs.take (i + 1) = m.evs.take i ++ [m.evs[i]] from List.take_succ_eq_append_getElem hlt]
    simp only [List.map_append]; rfl
   ·repeat' first|exact rfl|exact trivial|exact wR|exact lR _|apply aI
    simp; omega
   ·exact ⟨by simp,by simp,trivial⟩
  ·omega
 ·have hl : i = m.evs.length:=by (have : ¬ i < m.evs.length:=by simpa using h1); omega
  subst hl
  clear h1
  rw [List.take_length]
  (try dsimp only[awp]);conv=>whnf
  refine fM ?_;(conv=>whnf);refine ⟨?_,rfl⟩;conv=>whnf
  all_goals exact wk

theorem c_mCheck_ok (m : Md) (hC : MdC m) (hB : MdB m) (hc : checkM m = 0) : FnH Tryz.prog 21 [m.av] [] .nilI []:=by
 have cc:=c_mCheck m hC hB _ rfl
 rw [hc,errAV_zero] at cc
 exact cc

theorem ce_Names (m : Md) (hC : MdC m) (hB : MdB m) (hc : checkM m ≠ 0) : FnH Tryz.prog 6 [m.av] [] (.tup [.nils,.ifc 79 (.int .i64 (checkM m))]) []:=by
 have cc:=c_mCheck m hC hB _ rfl
 rw [errAV_ne hc] at cc
 refine FnH.intro lay mixed Tryz.func6 (by kernel_rfl) rfl (by kernel_rfl) rfl fun hok=>?_
 (try dsimp only[argC,succC]);(try dsimp only[awp]);conv=>whnf
 refine .pure _ _ ?_ ⟨rfl,rfl⟩ cc fun _=>?_
 ·exact leL_refl _
 (try dsimp only[awp]);conv=>whnf
 refine fM ?_;(conv=>whnf);refine ⟨?_,rfl⟩;conv=>whnf
 all_goals exact wk
theorem ce_Probs (m : Md) (hC : MdC m) (hB : MdB m) (hc : checkM m ≠ 0) : FnH Tryz.prog 7 [m.av] [] (.tup [.nils,.ifc 79 (.int .i64 (checkM m))]) []:=by
 have cc:=c_mCheck m hC hB _ rfl
 rw [errAV_ne hc] at cc
 refine FnH.intro lay mixed Tryz.func7 (by kernel_rfl) rfl (by kernel_rfl) rfl fun hok=>?_
 (try dsimp only[argC,succC]);(try dsimp only[awp]);conv=>whnf
 refine .pure _ _ ?_ ⟨rfl,rfl⟩ cc fun _=>?_
 ·exact leL_refl _
 (try dsimp only[awp]);conv=>whnf
 refine fM ?_;(conv=>whnf);refine ⟨?_,rfl⟩;conv=>whnf
 all_goals exact wk

theorem c_Names26 (m : Md) (hC : MdC m) (hB : MdB m) (hM : MOk m) : FnH Tryz.prog 6 [m.av] [] (.tup [sL (m.evs.map Ev.name),.nilI]) []:=by
 have cc:=c_mCheck_ok m hC hB (checkM_of hM)
 have hb:=hM.lens.1
 refine FnH.intro lay mixed Tryz.func6 (by kernel_rfl) rfl (by kernel_rfl) rfl fun hok=>?_
 (try dsimp only[argC,succC]);(try dsimp only[awp]);conv=>whnf
 refine .pure _ _ ?_ ⟨rfl,rfl⟩ cc fun _=>?_
 ·exact leL_refl _
 (try dsimp only[awp]);conv=>whnf
 refine LoopE.of <| LoopSpec.inv (.grow 5 1 [] _ rfl (.inl ⟨rfl,rfl⟩) (.refl _ _)) (fun i : Nat=>i ≤ m.evs.length) (fun i=>[(16,.int .i64 i),(5,.sl 1 (((m.evs.take i).map Ev.name).map .str) (.own 1))]) (fun i=>[(1,.tok 1 i),(0,.box m.av)]) (fun i=>m.evs.length - i) 0 (Nat.zero_le _) (fun _=>rfl) ?_ ?_
 ·all_goals exact wk
 intro i hi _
 (try dsimp only[awp]);conv=>whnf
 refine And.intro (fun h1=>?_) (fun h1=>?_)
 ·have hlt : i < m.evs.length:=by simpa using h1
  (try dsimp only[awp]);conv=>whnf
  refine aidx hlt ?_
  (try dsimp only[awp]);conv=>whnf
  refine ⟨by simp; omega,?_⟩
  (refine ⟨by simp [maxL] <;> omega,by simp <;> omega,?_⟩;(conv=>whnf))
  refine zA ?_;conv=>whnf
  refine ⟨i + 1,?_,?_,?_⟩
  ·exact hlt
  ·refine ⟨?_,.mk ?_ ?_⟩
   ·repeat' first|exact rfl|exact trivial|exact wR|exact lR _|apply aI
    refine leRL_of ?_
    rw [show m.evs.take (i + 1) = m.evs.take i ++ [m.evs[i]] from List.take_succ_eq_append_getElem hlt]
    simp only [List.map_append]; rfl
   ·repeat' first|exact rfl|exact trivial|exact wR|exact lR _|apply aI
    simp; omega
   ·exact ⟨by simp,by simp,trivial⟩
  ·omega
 ·have hl : i = m.evs.length:=by (have : ¬ i < m.evs.length:=by simpa using h1); omega
  subst hl
  clear h1
  rw [List.take_length]
  (try dsimp only[awp]);conv=>whnf
  refine fM ?_;(conv=>whnf);refine ⟨?_,rfl⟩;conv=>whnf
  all_goals exact wk

theorem c_ProbsW (m : Md) (hC : MdC m) (hB : MdB m) (hX : MdX m) (hM : MOk m) : FnH Tryz.prog 7 [m.av] [] (.tup [.gs 1 m.evs.length,.nilI]) [(1,.wtok 3 ((m.evs.map Ev.p).map Rat.av))]:=by
 have cc:=c_mCheck_ok m hC hB (checkM_of hM)
 have hb:=hM.lens.1
 refine FnH.intro lay mixed Tryz.func7 (by kernel_rfl) rfl (by kernel_rfl) rfl fun hok=>?_
 (try dsimp only[argC,succC]);(try dsimp only[awp]);conv=>whnf
 refine .pure _ _ ?_ ⟨rfl,rfl⟩ cc fun _=>?_
 ·exact leL_refl _
 (try dsimp only[awp]);conv=>whnf
 refine LoopE.of <| LoopSpec.inv (.growW 5 3 rfl (.refl _ _)) (fun i : Nat=>i ≤ m.evs.length) (fun i=>[(16,.int .i64 i),(5,.gs 1 i)]) (fun i=>[(1,.wtok 3 (((m.evs.take i).map Ev.p).map Rat.av)),(0,.box m.av)]) (fun i=>m.evs.length - i) 0 (Nat.zero_le _) (fun _=>rfl) ?_ ?_
 ·all_goals exact wk
 intro i hi _
 (try dsimp only[awp]);conv=>whnf
 refine And.intro (fun h1=>?_) (fun h1=>?_)
 ·have hlt : i < m.evs.length:=by simpa using h1
  (try dsimp only[awp]);conv=>whnf
  refine aidx hlt ?_
  (try dsimp only[awp]);conv=>whnf
  refine .pure _ _ ?_ ⟨rfl,rfl⟩ (c_clone26 _ (hX.evs _ (List.getElem_mem hlt)).1) fun _=>?_
  ·exact leL_refl _
  (try dsimp only[awp]);conv=>whnf
  refine ⟨by simp; omega,by simp,?_⟩
  (refine ⟨by simp [maxL] <;> omega,by simp <;> omega,?_⟩;(conv=>whnf))
  refine zA ?_;conv=>whnf
  refine ⟨i + 1,?_,?_,?_⟩
  ·exact hlt
  ·refine ⟨?_,.mk ?_ ?_⟩
   ·all_goals exact wk
   ·repeat' first|exact rfl|exact trivial|exact wR|exact lR _|apply aI
    refine leRL_of ?_
    rw [show m.evs.take (i + 1) = m.evs.take i ++ [m.evs[i]] from List.take_succ_eq_append_getElem hlt]
    simp only [List.map_append]; rfl
   ·exact ⟨by simp,by simp,trivial⟩
  ·omega
 ·have hl : i = m.evs.length:=by (have : ¬ i < m.evs.length:=by simpa using h1); omega
  subst hl
  clear h1
  rw [List.take_length]
  (try dsimp only[awp]);conv=>whnf
  refine ⟨⟨_,_,.refl _ _,?_⟩⟩
  conv=>whnf
  refine ⟨?_,rfl,by simp [nextId],.mk ?_ (by simp [idsOk])⟩
  ·all_goals exact wk
  ·all_goals exact wk

theorem c_ProbsP (m : Md) (hC : MdC m) (hB : MdB m) (hX : MdX m) (hM : MOk m) : FnH Tryz.prog 7 [m.av] [] (.tup [.sl 3 ((m.evs.map Ev.p).map Rat.av) .no,.nilI]) []:=by
 have cc:=c_mCheck_ok m hC hB (checkM_of hM)
 have hb:=hM.lens.1
 refine FnH.intro lay mixed Tryz.func7 (by kernel_rfl) rfl (by kernel_rfl) rfl fun hok=>?_
 (try dsimp only[argC,succC]);(try dsimp only[awp]);conv=>whnf
 refine .pure _ _ ?_ ⟨rfl,rfl⟩ cc fun _=>?_
 ·exact leL_refl _
 (try dsimp only[awp]);conv=>whnf
 refine LoopE.of <| LoopSpec.inv (.grow 5 3 [] _ rfl (.inl ⟨rfl,rfl⟩) (.refl _ _)) (fun i : Nat=>i ≤ m.evs.length) (fun i=>[(16,.int .i64 i),(5,.sl 3 (((m.evs.take i).map Ev.p).map Rat.av) (.own 1))]) (fun i=>[(1,.tok 3 i),(0,.box m.av)]) (fun i=>m.evs.length - i) 0 (Nat.zero_le _) (fun _=>rfl) ?_ ?_
 ·all_goals exact wk
 intro i hi _
 (try dsimp only[awp]);conv=>whnf
 refine And.intro (fun h1=>?_) (fun h1=>?_)
 ·have hlt : i < m.evs.length:=by simpa using h1
  (try dsimp only[awp]);conv=>whnf
  refine aidx hlt ?_
  (try dsimp only[awp]);conv=>whnf
  refine .pure _ _ ?_ ⟨rfl,rfl⟩ (c_clone26 _ (hX.evs _ (List.getElem_mem hlt)).1) fun _=>?_
  ·exact leL_refl _
  (try dsimp only[awp]);conv=>whnf
  refine ⟨by simp; omega,?_⟩
  (refine ⟨by simp [maxL] <;> omega,by simp <;> omega,?_⟩;(conv=>whnf))
  refine zA ?_;conv=>whnf
  refine ⟨i + 1,?_,?_,?_⟩
  ·exact hlt
  ·refine ⟨?_,.mk ?_ ?_⟩
   ·repeat' first|exact rfl|exact trivial|exact wR|exact lR _|apply aI
    refine leRL_of ?_
    rw [show m.evs.take (i + 1) = m.evs.take i ++ [m.evs[i]] from List.take_succ_eq_append_getElem hlt]
    simp only [List.map_append]; rfl
   ·repeat' first|exact rfl|exact trivial|exact wR|exact lR _|apply aI
    simp; omega
   ·exact ⟨by simp,by simp,trivial⟩
  ·omega
 ·have hl : i = m.evs.length:=by (have : ¬ i < m.evs.length:=by simpa using h1); omega
  subst hl
  clear h1
  rw [List.take_length]
  (try dsimp only[awp]);conv=>whnf
  refine fM ?_;(conv=>whnf);refine ⟨?_,rfl⟩;conv=>whnf
  all_goals exact wk


theorem c1_phase (x : Ev) (v : Pv) : FnH Tryz.prog 25 [x.av,.ptr 0 [] 0] [(0,.box v.av)] (.bool (decide (x.name = v.ev))) [(0,.box v.av)]:=by
 refine FnH.intro lay mixed Tryz.func25 (by kernel_rfl) rfl (by kernel_rfl) rfl fun hok=>?_
 (try dsimp only[argC,succC]);(try dsimp only[awp]);conv=>whnf
 refine ⟨⟨_,_,.refl _ _,?_⟩⟩
 conv=>whnf
 refine ⟨?_,rfl,by simp [nextId],.mk ?_ ⟨by simp,trivial⟩⟩
 ·show _ ↔ _
  simp
 ·all_goals exact wk

theorem ce_Phase (m : Md) (j : Int) (hC : MdC m) (hB : MdB m) (hc : checkM m ≠ 0) : FnH Tryz.prog 8 [m.av,.int .i64 j] [] (.tup [(⟨0,[],0⟩ : Fo).av,.nils,.ifc 79 (.int .i64 (checkM m))]) []:=by
 have cp:=ce_Probs m hC hB hc
 refine FnH.intro lay mixed Tryz.func8 (by kernel_rfl) rfl (by kernel_rfl) rfl fun hok=>?_
 (try dsimp only[argC,succC]);(try dsimp only[awp]);conv=>whnf
 refine .pure _ _ ?_ ⟨rfl,rfl⟩ cp fun _=>?_
 ·exact leL_refl _
 (try dsimp only[awp]);conv=>whnf
 refine fM ?_;(conv=>whnf);refine ⟨?_,rfl⟩;conv=>whnf
 all_goals exact wk

abbrev foZ : AV:=.ag [.int .i64 0,.nils,.int .i64 0]

theorem c_ProbsF (m : Md) (hC : MdC m) (hB : MdB m) (hX : MdX m) (hM : MOk m) : FnH Tryz.prog 7 [m.av] [(1,.box foZ),(0,.box m.av)] (.tup [.gs 3 m.evs.length,.nilI]) [(3,.wtok 3 ((m.evs.map Ev.p).map Rat.av)),(1,.box foZ),(0,.box m.av)] :=
 FnH.frame [] (c_ProbsW m hC hB hX hM) ⟨rfl,rfl,rfl,rfl⟩ trivial (leL_refl _)

theorem ci_Phase (m : Md) (j : Int) (hC : MdC m) (hB : MdB m) (hX : MdX m) (hM : MOk m) (hj : ¬ (0 ≤ j ∧ j < (m.phs.length : Int))) : FnH Tryz.prog 8 [m.av,.int .i64 j] [] (.tup [(⟨0,[],0⟩ : Fo).av,.nils,.ifc 79 (.int .i64 10)]) []:=by
 refine FnH.intro lay mixed Tryz.func8 (by kernel_rfl) rfl (by kernel_rfl) rfl fun hok=>?_
 (try dsimp only[argC,succC]);(try dsimp only[awp]);conv=>whnf
 refine .gen _ _ (c_ProbsF m hC hB hX hM) fun _=>?_
 (try dsimp only[awp]);conv=>whnf
 refine And.intro (fun h1=>?_) (fun h1=>?_)
 ·(try dsimp only[awp]);conv=>whnf
  refine fM ?_;(conv=>whnf);refine ⟨?_,rfl⟩;conv=>whnf
  all_goals exact wk
 ·(try dsimp only[awp]);conv=>whnf
  refine And.intro (fun h2=>?_) (fun h2=>?_)
  ·(try dsimp only[awp]);conv=>whnf
   refine fM ?_;(conv=>whnf);refine ⟨?_,rfl⟩;conv=>whnf
   all_goals exact wk
  ·exfalso
   simp only [List.length_map] at h2
   omega

theorem cf_Phase (m : Md) (j : Nat) (hC : MdC m) (hB : MdB m) (hX : MdX m) (hM : MOk m) (hj : j < m.phs.length) (he : (atR m m.phs[j].top).2 ≠ 0) (hz : (atR m m.phs[j].top).1 = ⟨0,[],0⟩) : FnH Tryz.prog 8 [m.av,.int .i64 j] [] (.tup [(⟨0,[],0⟩ : Fo).av,.nils,.ifc 79 (.int .i64 (atR m m.phs[j].top).2)]) []:=by
 have ca:=c_at m m.phs[j].top hC hB _ rfl
 unfold atAV at ca
 rw [hz,errAV_ne he] at ca
 refine FnH.intro lay mixed Tryz.func8 (by kernel_rfl) rfl (by kernel_rfl) rfl fun hok=>?_
 (try dsimp only[argC,succC]);(try dsimp only[awp]);conv=>whnf
 refine .gen _ _ (c_ProbsF m hC hB hX hM) fun _=>?_
 (try dsimp only[awp]);conv=>whnf
 refine And.intro (fun h1=>by exfalso; omega) (fun h1=>?_)
 (try dsimp only[awp]);conv=>whnf
 refine And.intro (fun h2=>by exfalso; simp only [List.length_map] at h2; omega) (fun h2=>?_)
 (try dsimp only[awp]);conv=>whnf
 refine ADraw.auto (by kernel_rfl) ?_;conv=>whnf
 refine aidx hj ?_
 (try dsimp only[awp]);conv=>whnf
 refine ACallP.pure _ _ ?_ ⟨rfl,rfl⟩ ca ?_
 ·exact leL_refl _
 (try dsimp only[awp]);conv=>whnf
 refine fM ?_;(conv=>whnf);refine ⟨?_,rfl⟩;conv=>whnf
 all_goals exact wk

theorem c_idxF (m : Md) (v : Pv) (F : AV) (cp : Nat) (l : List AV) : FnH Tryz.prog 24 [.sl 11 (m.evs.map Ev.av) .no,.fn 25 [.ptr 6 [] 0]] [(6,.box v.av),(5,.arr 3 cp l),(4,.box F),(3,.gone),(1,.box foZ),(0,.box m.av)] (.int .i64 (i_event m.evs v.ev)) [(6,.box v.av),(5,.arr 3 cp l),(4,.box F),(3,.gone),(1,.box foZ),(0,.box m.av)]:=by
 have h:=FnH.frame (args:=[.sl 11 (m.evs.map Ev.av) .no,.fn 25 [.ptr 6 [] 0]]) (H:=[(6,.box v.av),(5,.arr 3 cp l),(4,.box F),(3,.gone),(1,.box foZ),(0,.box m.av)]) [6] (c_idx_Ev m.evs 25 [.ptr 0 [] 0] (fun x=>decide (x.name = v.ev)) _ (fun x _=>c1_phase x v)) ⟨rfl,rfl,rfl,rfl⟩ (by (repeat' first|exact rfl|exact trivial|exact wR|exact lR _|apply aI)) (by (repeat' first|exact rfl|exact trivial|exact wR|exact lR _|apply aI))
 exact h

theorem co_Phase (m : Md) (j : Nat) (hC : MdC m) (hB : MdB m) (hX : MdX m) (hM : MOk m) (hj : j < m.phs.length) (he : (atR m m.phs[j].top).2 = 0) : FnH Tryz.prog 8 [m.av,.int .i64 j] [] (.tup [(atR m m.phs[j].top).1.av,.sl 3 ((phP m m.phs[j].vals).map Rat.av) .no,.nilI]) []:=by
 have ca:=c_at m m.phs[j].top hC hB _ rfl
 unfold atAV at ca
 rw [he,errAV_zero] at ca
 generalize (atR m m.phs[j].top).1 = f at *
 refine FnH.intro lay mixed Tryz.func8 (by kernel_rfl) rfl (by kernel_rfl) rfl fun hok=>?_
 (try dsimp only[argC,succC]);(try dsimp only[awp]);conv=>whnf
 refine .gen _ _ (c_ProbsF m hC hB hX hM) fun _=>?_
 (try dsimp only[awp]);conv=>whnf
 refine And.intro (fun h1=>by exfalso; omega) (fun h1=>?_)
 (try dsimp only[awp]);conv=>whnf
 refine And.intro (fun h2=>by exfalso; simp only [List.length_map] at h2; omega) (fun h2=>?_)
 (try dsimp only[awp]);conv=>whnf
 refine ADraw.auto (by kernel_rfl) ?_;conv=>whnf
 refine aidx hj ?_
 (try dsimp only[awp]);conv=>whnf
 refine ACallP.pure _ _ ?_ ⟨rfl,rfl⟩ ca ?_
 ·exact leL_refl _
 (try dsimp only[awp]);conv=>whnf
 refine aidx hj ?_
 (try dsimp only[awp]);conv=>whnf
 have hv : ∀ v ∈ m.phs[j].vals,0 ≤ i_event m.evs v.ev:=(phases_in hM.phs _ (List.getElem_mem hj)).2
 have hvx:=hX.phs _ (List.getElem_mem hj)
 have hvb:=hB.vals _ (List.getElem_mem hj)
 generalize m.phs[j].vals = vs at *
 by_cases hne : m.evs = []
 ·have hvs : vs = []:=by
   cases vs with
   | nil=>rfl
   | cons v l =>
     have:=hv v (by simp)
     rw [hne] at this
     exact absurd this (by show ¬ (0 : Int) ≤ -1; decide)
  subst hvs
  refine LoopE.step 1 ?_
  (try dsimp only[awp]);conv=>whnf
  refine And.intro (fun h1=>absurd h1 (by simp)) (fun _=>?_)
  (try dsimp only[awp]);conv=>whnf
  refine ⟨⟨_,_,.freezeW 5 3 3 ((m.evs.map Ev.p).map Rat.av) (by rw [show ((m.evs.map Ev.p).map Rat.av).length = m.evs.length by simp]; rfl) rfl (by simp [hne]) (.refl _ _),?_⟩⟩
  conv=>whnf
  refine ⟨?_,rfl,by simp [nextId],.mk ?_ (by simp [idsOk])⟩
  ·all_goals exact wk
  ·all_goals exact wk
 ·refine LoopE.thaw 7 3 3 ((m.evs.map Ev.p).map Rat.av) (by rw [show ((m.evs.map Ev.p).map Rat.av).length = m.evs.length by simp]; rfl) rfl (by simpa using hne) fun cp h1 h2=>⟨0,?_⟩
  change LoopSpec _ _ _ _ _ _
  refine (LoopSpec.inv (.refl _ _) (fun k : Nat=>k ≤ vs.length) (fun k=>[(55,.int .i64 k)]) (fun k=>[(5,.arr 3 cp ((phP m (vs.take k)).map Rat.av)),(4,.box f.av),(3,.gone),(1,.box foZ),(0,.box m.av)]) (fun k=>vs.length - k) 0 (Nat.zero_le _) ?_ ?_ ?_)
  ·exact fun _=>rfl
  ·all_goals exact wk
  intro k hk _
  (try dsimp only[awp]);conv=>whnf
  refine And.intro (fun h1=>?_) (fun h1=>?_)
  ·have hlt : k < vs.length:=by simpa using h1
   (try dsimp only[awp]);conv=>whnf
   refine aidx hlt ?_
   (try dsimp only[awp]);conv=>whnf
   have cI:=c_idxF m vs[k] f.av cp ((phP m (vs.take k)).map Rat.av)
   refine .gen _ _ cI fun _=>?_
   (try dsimp only[awp]);conv=>whnf
   refine .pure _ _ ?_ ⟨rfl,rfl⟩ (c_clone26 _ (hvx _ (List.getElem_mem hlt))) fun _=>?_
   ·exact leL_refl _
   (try dsimp only[awp]);conv=>whnf
   have hvk:=hv _ (List.getElem_mem hlt)
   have hvl : i_event m.evs vs[k].ev < (m.evs.length : Int):=idxP_lt _ _
   refine ⟨⟨hvk,by simpa using hvl⟩,?_⟩
   (try dsimp only[awp]);conv=>whnf
   refine ⟨?_,rfl,?_⟩
   ·have h3 : (i_event m.evs vs[k].ev).toNat < m.evs.length:=by omega
    rw [Nat.zero_add,List.length_map,phP,List.length_map]
    exact h3
   (try dsimp only[awp]);conv=>whnf
   refine zA ?_;conv=>whnf
   refine ⟨k + 1,?_,?_,?_⟩
   ·exact hlt
   ·refine ⟨?_,.mk ?_ (by simp [idsOk])⟩
    ·all_goals exact wk
    ·repeat' first|exact rfl|exact trivial|exact wR|exact lR _|apply aI
     refine leRL_of ?_
     rw [phP_set hM hlt hvk,List.map_set,Nat.zero_add]
     rfl
   ·omega
  ·have hk : k = vs.length:=by (have : ¬ k < vs.length:=by simpa using h1); omega
   subst hk
   (try dsimp only[awp]);conv=>whnf
   rw [List.take_length]
   refine ⟨⟨_,_,.freeze 5 5 0 ((m.evs.map Ev.p).map Rat.av).length cp cp 3 ((phP m vs).map Rat.av) rfl rfl (by simp [phP]) (.refl _ _),?_⟩⟩
   conv=>whnf
   refine ⟨?_,rfl,by simp [nextId],.mk ?_ (by simp [idsOk])⟩
   ·repeat' first|exact rfl|exact trivial|exact wR|exact lR _|apply aI
    rw [List.drop_zero,List.take_of_length_le (by simp [phP])]
    exact leRL_refl _
   ·all_goals exact wk

theorem ri_Phase (m : Md) (j : Int) (hj : ¬ (0 ≤ j ∧ j < (m.phs.length : Int))) : FnH Tryz.prog 12 [m.av,.int .i64 j] [] (.tup [(⟨0,[],0⟩ : Fo).av,.nils,.int .i64 10]) []:=by
 refine FnH.intro lay mixed Tryz.func12 (by kernel_rfl) rfl (by kernel_rfl) rfl fun hok=>?_
 (try dsimp only[argC,succC]);(try dsimp only[awp]);conv=>whnf
 refine And.intro (fun h1=>?_) (fun h1=>?_)
 ·(try dsimp only[awp]);conv=>whnf
  refine fM ?_;(conv=>whnf);refine ⟨?_,rfl⟩;conv=>whnf
  all_goals exact wk
 ·(try dsimp only[awp]);conv=>whnf
  refine And.intro (fun h2=>?_) (fun h2=>?_)
  ·(try dsimp only[awp]);conv=>whnf
   refine fM ?_;(conv=>whnf);refine ⟨?_,rfl⟩;conv=>whnf
   all_goals exact wk
  ·exfalso
   simp only [List.length_map] at h2
   omega

theorem rf_Phase (m : Md) (j : Nat) (hB : MdB m) (hM : MOk m) (hj : j < m.phs.length) (he : (atR m m.phs[j].top).2 ≠ 0) : FnH Tryz.prog 12 [m.av,.int .i64 j] [] (.tup [(⟨0,[],0⟩ : Fo).av,.nils,.int .i64 (atR m m.phs[j].top).2]) []:=by
 have ca:=c_rAt m hM hB m.phs[j].top _ rfl
 generalize (atR m m.phs[j].top).1 = f at *
 generalize (atR m m.phs[j].top).2 = e at *
 refine FnH.intro lay mixed Tryz.func12 (by kernel_rfl) rfl (by kernel_rfl) rfl fun hok=>?_
 (try dsimp only[argC,succC]);(try dsimp only[awp]);conv=>whnf
 refine And.intro (fun h1=>by exfalso; omega) (fun h1=>?_)
 (try dsimp only[awp]);conv=>whnf
 refine And.intro (fun h2=>by exfalso; simp only [List.length_map] at h2; omega) (fun h2=>?_)
 (try dsimp only[awp]);conv=>whnf
 refine ADraw.auto (by kernel_rfl) ?_;conv=>whnf
 refine aidx hj ?_
 (try dsimp only[awp]);conv=>whnf
 refine ACallP.pure _ _ ?_ ⟨rfl,rfl⟩ ca ?_
 ·exact leL_refl _
 (try dsimp only[awp]);conv=>whnf
 refine And.intro (fun _=>?_) (fun h=>absurd he h)
 (try dsimp only[awp]);conv=>whnf
 refine fM ?_;(conv=>whnf);refine ⟨?_,rfl⟩;conv=>whnf
 all_goals exact wk

theorem c_rProbsF (m : Md) (F : AV) (hM : MOk m) : FnH Tryz.prog 16 [m.av] [(2,.box F),(1,.box foZ),(0,.box m.av)] (.gs 4 m.evs.length) [(4,.wtok 3 ((m.evs.map Ev.p).map Rat.av)),(2,.box F),(1,.box foZ),(0,.box m.av)] :=
 FnH.frame [] (c_rProbsW m hM.lens.1) ⟨rfl,rfl,rfl,rfl⟩ trivial (leL_refl _)

theorem ro_Phase (m : Md) (j : Nat) (hB : MdB m) (hM : MOk m) (hj : j < m.phs.length) (he : (atR m m.phs[j].top).2 = 0) : FnH Tryz.prog 12 [m.av,.int .i64 j] [] (.tup [(atR m m.phs[j].top).1.av,.sl 3 ((phP m m.phs[j].vals).map Rat.av) .no,.int .i64 0]) []:=by
 have ca:=c_rAt m hM hB m.phs[j].top _ rfl
 rw [he] at ca
 generalize (atR m m.phs[j].top).1 = f at *
 have hvb:=hB.vals _ (List.getElem_mem hj)
 have hev:=hM.lens.1
 refine FnH.intro lay mixed Tryz.func12 (by kernel_rfl) rfl (by kernel_rfl) rfl fun hok=>?_
 (try dsimp only[argC,succC]);(try dsimp only[awp]);conv=>whnf
 refine And.intro (fun h1=>by exfalso; omega) (fun h1=>?_)
 (try dsimp only[awp]);conv=>whnf
 refine And.intro (fun h2=>by exfalso; simp only [List.length_map] at h2; omega) (fun h2=>?_)
 (try dsimp only[awp]);conv=>whnf
 refine ADraw.auto (by kernel_rfl) ?_;conv=>whnf
 refine aidx hj ?_
 (try dsimp only[awp]);conv=>whnf
 refine ACallP.pure _ _ ?_ ⟨rfl,rfl⟩ ca ?_
 ·exact leL_refl _
 (try dsimp only[awp]);conv=>whnf
 refine And.intro (fun h=>absurd rfl h) (fun _=>?_)
 (try dsimp only[awp]);conv=>whnf
 refine .gen _ _ (c_rProbsF m f.av hM) fun _=>?_
 (try dsimp only[awp]);conv=>whnf
 by_cases hne : m.evs = []
 ·refine LoopE.step 1 ?_
  (try dsimp only[awp]);conv=>whnf
  refine And.intro (fun h1=>absurd h1 (by simp [hne])) (fun _=>?_)
  (try dsimp only[awp]);conv=>whnf
  refine ⟨⟨_,_,.freezeW 5 4 3 ((m.evs.map Ev.p).map Rat.av) (by rw [show ((m.evs.map Ev.p).map Rat.av).length = m.evs.length by simp]; rfl) rfl (by simp [hne]) (.refl _ _),?_⟩⟩
  conv=>whnf
  refine ⟨?_,rfl,by simp [nextId],.mk ?_ (by simp [idsOk])⟩
  ·repeat' first|exact rfl|exact trivial|exact wR|exact lR _|apply aI
   simp only [phP,hne]
   exact leRL_refl _
  ·all_goals exact wk
 ·refine LoopE.thaw 9 4 3 ((m.evs.map Ev.p).map Rat.av) (by rw [show ((m.evs.map Ev.p).map Rat.av).length = m.evs.length by simp]; rfl) rfl (by simpa using hne) fun cp h1 h2=>⟨0,?_⟩
  change LoopSpec _ _ _ _ _ _
  refine (LoopSpec.inv (.refl _ _) (fun i : Nat=>i ≤ m.evs.length) (fun i=>[(44,.int .i64 i)]) (fun i=>[(5,.arr 3 cp ((refS m m.phs[j].vals i 0).map Rat.av)),(4,.gone),(2,.box f.av),(1,.box foZ),(0,.box m.av)]) (fun i=>m.evs.length - i) 0 (Nat.zero_le _) ?_ ?_ ?_)
  ·exact fun _=>rfl
  ·refine ⟨?_,.mk ?_ (by simp [idsOk])⟩
   ·all_goals exact wk
   ·repeat' first|exact rfl|exact trivial|exact wR|exact lR _|apply aI
    refine leRL_of ?_
    rw [refS_zero]
  intro i hi _
  (try dsimp only[awp]);conv=>whnf
  refine And.intro (fun h1=>?_) (fun h1=>?_)
  ·have hlt : i < m.evs.length:=by simpa using h1
   (try dsimp only[awp]);conv=>whnf
   refine aidx hlt ?_
   (try dsimp only[awp]);conv=>whnf
   refine aidx hj ?_
   (try dsimp only[awp]);conv=>whnf
   refine LoopE.of <| (LoopSpec.inv (.refl _ _) (fun k : Nat=>k ≤ m.phs[j].vals.length) (fun k=>[(56,.int .i64 k)]) (fun k=>[(6,.box m.evs[i].av),(5,.arr 3 cp ((refS m m.phs[j].vals i k).map Rat.av)),(4,.gone),(2,.box f.av),(1,.box foZ),(0,.box m.av)]) (fun k=>m.phs[j].vals.length - k) 0 (Nat.zero_le _) ?_ ?_ ?_)
   ·exact fun _=>rfl
   ·all_goals exact wk
   intro k hk _
   (try dsimp only[awp]);conv=>whnf
   refine And.intro (fun h1=>?_) (fun h1=>?_)
   ·have hkt : k < m.phs[j].vals.length:=by simpa using h1
    (try dsimp only[awp]);conv=>whnf
    refine aidx hkt ?_
    (try dsimp only[awp]);conv=>whnf
    refine And.intro (fun h=>?_) (fun h=>?_)
    ·(try dsimp only[awp]);conv=>whnf
     refine ⟨⟨by omega,by simp; omega⟩,?_⟩
     (try dsimp only[awp]);conv=>whnf
     refine ⟨?_,rfl,?_⟩
     ·rw [Nat.zero_add,List.length_map,refS_len]
      simpa using hlt
     (try dsimp only[awp]);conv=>whnf
     refine zA ?_;conv=>whnf
     refine ⟨k + 1,?_,?_,?_⟩
     ·exact hkt
     ·refine ⟨?_,.mk ?_ (by simp [idsOk])⟩
      ·all_goals exact wk
      ·repeat' first|exact rfl|exact trivial|exact wR|exact lR _|apply aI
       refine leRL_of ?_
       rw [refS_set hkt hlt h,List.map_set,Nat.zero_add]
       rfl
     ·omega
    ·(try dsimp only[awp]);conv=>whnf
     refine zA ?_;conv=>whnf
     refine ⟨k + 1,?_,?_,?_⟩
     ·exact hkt
     ·refine ⟨?_,.mk ?_ (by simp [idsOk])⟩
      ·all_goals exact wk
      ·repeat' first|exact rfl|exact trivial|exact wR|exact lR _|apply aI
       refine leRL_of ?_
       rw [refS_skip hkt hlt h]
     ·omega
   ·have hk : k = m.phs[j].vals.length:=by (have : ¬ k < m.phs[j].vals.length:=by simpa using h1); omega
    subst hk
    (try dsimp only[awp]);conv=>whnf
    refine zA ?_;conv=>whnf
    refine ⟨i + 1,?_,?_,?_⟩
    ·exact hlt
    ·refine ⟨?_,.mk ?_ (by simp [idsOk])⟩
     ·all_goals exact wk
     ·repeat' first|exact rfl|exact trivial|exact wR|exact lR _|apply aI
      refine leRL_of ?_
      rw [refS_next]
    ·omega
  ·have hl : i = m.evs.length:=by (have : ¬ i < m.evs.length:=by simpa using h1); omega
   subst hl
   (try dsimp only[awp]);conv=>whnf
   rw [refS_last]
   refine ⟨⟨_,_,.freeze 5 5 0 ((m.evs.map Ev.p).map Rat.av).length cp cp 3 ((phP m m.phs[j].vals).map Rat.av) rfl rfl (by simp [phP]) (.refl _ _),?_⟩⟩
   conv=>whnf
   refine ⟨?_,rfl,by simp [nextId],.mk ?_ (by simp [idsOk])⟩
   ·repeat' first|exact rfl|exact trivial|exact wR|exact lR _|apply aI
    rw [List.drop_zero,List.take_of_length_le (by simp [phP])]
    exact leRL_refl _
   ·all_goals exact wk

theorem ratSelf (a : Rat) : FnH Tryz.prog 35 [a.av,a.av] [] .tt []:=(c_ratEq a a).weak (R':=.tt) (by show decide _ = true; simp)

theorem c_texts1 (a : List Str) : FnH Tryz.prog 13 [sL a,sL a] [] .tt []:=by
 refine FnH.intro lay mixed Tryz.func13 (by kernel_rfl) rfl (by kernel_rfl) rfl fun hok=>?_
 have ha : a.length ≤ 9223372036854775807:=by simpa [OkL,Ok,maxL] using hok.1.1
 (try dsimp only[argC,succC]);(try dsimp only[awp]);conv=>whnf
 refine And.intro (fun h=>absurd rfl h) (fun _=>?_)
 (try dsimp only[awp]);conv=>whnf
 refine LoopE.of <| LoopSpec.inv (.refl _ _) (fun (i : Nat)=>i ≤ a.length) (fun (i : Nat)=>[(13,.int .i64 i)]) (fun _=>_) (fun (i : Nat)=>a.length - i) 0 ?_ (fun _=>rfl) ?_ ?_
 ·exact Nat.zero_le _
 ·all_goals exact wk
 intro i hi _
 (try dsimp only[awp]);conv=>whnf
 refine And.intro (fun h1=>?_) (fun h1=>?_)
 ·have hlt : i < a.length:=by simpa using h1
  (try dsimp only[awp]);conv=>whnf
  refine ADraw.auto (by kernel_rfl) ?_;conv=>whnf
  refine aidx hlt ?_
  (try dsimp only[awp]);conv=>whnf
  refine aidx hlt ?_
  (try dsimp only[awp]);conv=>whnf
  refine And.intro (fun h2=>absurd rfl h2) (fun _=>?_)
  (try dsimp only[awp]);conv=>whnf
  refine zA ?_;conv=>whnf
  refine ⟨i + 1,?_,?_,?_⟩
  ·exact hlt
  ·all_goals exact wk
  ·omega
 ·have hl : i = a.length:=by (have : ¬ i < a.length:=by simpa using h1); omega
  subst hl
  clear h1
  (try dsimp only[awp]);conv=>whnf
  refine fM ?_;(conv=>whnf);refine ⟨?_,rfl⟩;conv=>whnf
  all_goals exact wk

theorem c_rats1 (a : List Rat) : FnH Tryz.prog 15 [.sl 3 (a.map Rat.av) .no,.sl 3 (a.map Rat.av) .no] [] .tt []:=by
 refine FnH.intro lay mixed Tryz.func15 (by kernel_rfl) rfl (by kernel_rfl) rfl fun hok=>?_
 have ha : a.length ≤ 9223372036854775807:=by simpa [OkL,Ok,maxL] using hok.1.1
 (try dsimp only[argC,succC]);(try dsimp only[awp]);conv=>whnf
 refine And.intro (fun h=>absurd rfl h) (fun _=>?_)
 (try dsimp only[awp]);conv=>whnf
 refine LoopE.of <| LoopSpec.inv (.refl _ _) (fun (i : Nat)=>i ≤ a.length) (fun (i : Nat)=>[(13,.int .i64 i)]) (fun _=>_) (fun (i : Nat)=>a.length - i) 0 ?_ (fun _=>rfl) ?_ ?_
 ·exact Nat.zero_le _
 ·all_goals exact wk
 intro i hi _
 (try dsimp only[awp]);conv=>whnf
 refine And.intro (fun h1=>?_) (fun h1=>?_)
 ·have hlt : i < a.length:=by simpa using h1
  (try dsimp only[awp]);conv=>whnf
  refine ADraw.auto (by kernel_rfl) ?_;conv=>whnf
  refine aidx hlt ?_
  (try dsimp only[awp]);conv=>whnf
  refine aidx hlt ?_
  (try dsimp only[awp]);conv=>whnf
  refine ACallP.pure _ _ ?_ ⟨rfl,rfl⟩ (ratSelf a[i]) ?_
  ·exact leL_refl _
  (try dsimp only[awp]);conv=>whnf
  refine zA ?_;conv=>whnf
  refine ⟨i + 1,?_,?_,?_⟩
  ·exact hlt
  ·all_goals exact wk
  ·omega
 ·have hl : i = a.length:=by (have : ¬ i < a.length:=by simpa using h1); omega
  subst hl
  clear h1
  (try dsimp only[awp]);conv=>whnf
  refine fM ?_;(conv=>whnf);refine ⟨?_,rfl⟩;conv=>whnf
  all_goals exact wk

end S
