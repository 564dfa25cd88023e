/-
  Contracts of functions of the program, over the logic of the texts before. Nothing is assumed.
-/
import Derived.Test.YtkbjecdpgbnkdaaGreatT3

open Go Go.AL Go.Proofs
namespace S
set_option maxRecDepth 100000

theorem once_values (n : Nat) (old : List Int) : ∀ (l : List Gate) (ms : List Int) (v : List Bool),v.length = n + ms.length →
  (l.foldl (ostep old) (ms,v)).2 = l.foldl (vstep n (l.foldl (ostep old) (ms,v)).1) v ∧ ms <+: (l.foldl (ostep old) (ms,v)).1
 | [],ms,v,_=>⟨rfl,List.prefix_refl _⟩
 | g :: l,ms,v,h=>by
   simp only [List.foldl_cons]
   obtain ⟨h1,h2⟩:=once_values n old l (ostep old (ms,v) g).1 (ostep old (ms,v) g).2 (by simp [ostep,h]; omega)
   have h3 : (l.foldl (ostep old) (ostep old (ms,v) g)).1.getD ms.length 0 = memoR g v (old.getD ms.length 0):=by
    obtain ⟨t,ht⟩:=h2
    have ht : ms ++ [memoR g v (old.getD ms.length 0)] ++ t = _:=ht
    rw [← ht,List.getD_eq_getElem?_getD]
    simp
   refine ⟨?_,?_⟩
   ·refine Eq.trans h1 ?_
    congr 1
    show v ++ [gval g v (memoR g v (old.getD ms.length 0))] = vstep n _ v g
    unfold vstep
    rw [h,Nat.add_sub_cancel_left,h3]
   ·refine List.IsPrefix.trans ?_ h2
    exact ⟨[memoR g v (old.getD ms.length 0)],rfl⟩

theorem onceR_values (d : Dyn) (f : Nat) (old : List Int) : (onceR d f old).2 = valuesR d f (onceR d f old).1:=by
 have:=(once_values d.vars.toNat old d.gates [] (evs d.vars.toNat f) (by simp [evs_len])).1
 exact this

theorem onceR_memo {old : List Int} : ∀ (l : List Gate) (ms : List Int) (v : List Bool) (i : Nat) (h : i < l.length),∃ v',(l.foldl (ostep old) (ms,v)).1.getD (ms.length + i) 0 = memoR l[i] v' (old.getD (ms.length + i) 0)
 | [],_,_,i,h=>by simp at h
 | g :: l,ms,v,0,_=>by
   refine ⟨v,?_⟩
   simp only [List.foldl_cons]
   have key : ∀ (l : List Gate) (a : List Int) (w : List Bool),a <+: (l.foldl (ostep old) (a,w)).1:=by
    intro l
    induction l with
    | nil=>intro a w; exact List.prefix_refl _
    | cons g l ih =>
      intro a w
      simp only [List.foldl_cons]
      refine List.IsPrefix.trans ?_ (ih _ _)
      exact ⟨[memoR g w (old.getD a.length 0)],rfl⟩
   obtain ⟨t,ht⟩:=key l (ms ++ [memoR g v (old.getD ms.length 0)]) (ostep old (ms,v) g).2
   have ht : ms ++ [memoR g v (old.getD ms.length 0)] ++ t = (l.foldl (ostep old) (ostep old (ms,v) g)).1:=ht
   rw [← ht,List.getD_eq_getElem?_getD]
   simp
 | g :: l,ms,v,i + 1,h=>by
   simp only [List.foldl_cons]
   obtain ⟨v',hv⟩:=onceR_memo (old:=old) l (ostep old (ms,v) g).1 (ostep old (ms,v) g).2 i (by simpa using h)
   refine ⟨v',?_⟩
   have e : (ostep old (ms,v) g).1.length + i = ms.length + (i + 1):=by simp [ostep]; omega
   rw [e] at hv
   simpa using hv

theorem bstep_third (v : List Bool) : ∀ (l : List Int) (s : Bool × Bool × Int),(l.foldl (bstep v) s).2.2 = s.2.2 ∨ (l.foldl (bstep v) s).2.2 = 1
 | [],s=>.inl rfl
 | a :: l,s=>by
   simp only [List.foldl_cons]
   rcases bstep_third v l (bstep v s a) with h | h
   ·rw [h]
    unfold bstep
    split
    ·dsimp only
     split
     ·exact .inr rfl
     ·exact .inl rfl
    ·exact .inl rfl
   ·exact .inr h

theorem memoR_ok {g : Gate} {v : List Bool} {old : Int} (h : loG g ≤ old ∧ old ≤ hiG g) : loG g ≤ memoR g v old ∧ memoR g v old ≤ hiG g:=by
 unfold loG hiG at *
 unfold memoR
 by_cases h6 : g.kind = 6
 ·rw [if_pos h6]
  rw [if_neg (by omega),if_pos h6] at *
  have:=bstep_third v g.args (false,false,old)
  unfold brokenR
  dsimp only at *
  split <;> omega
 ·by_cases h7 : g.kind = 7
  ·rw [if_neg h6,if_pos h7]
   rw [if_pos h7,if_neg h6,if_pos h7] at *
   unfold activeR
   split
   ·exact h
   ·rcases idxP_cases (fun a=>!v.getD a.toNat false) g.args with ⟨h1,_⟩ | ⟨i,hi,h1,_⟩
    ·rw [h1]; omega
    ·rw [h1]; omega
  ·rw [if_neg h6,if_neg h7]
   rw [if_neg h7,if_neg h6,if_neg h7] at *
   omega

def MemoIn (d : Dyn) (memo : List Int) : Prop:=memo.length = d.gates.length ∧ ∀ (k : Nat) (h : k < d.gates.length),loG d.gates[k] ≤ memo.getD k 0 ∧ memo.getD k 0 ≤ hiG d.gates[k]

theorem onceR_in {d : Dyn} {f : Nat} {old : List Int} (h : MemoIn d old) : MemoIn d (onceR d f old).1:=by
 refine ⟨?_,fun k hk=>?_⟩
 ·unfold onceR; rw [(ostep_len old d.gates _).1]; simp
 ·obtain ⟨v,hv⟩:=onceR_memo (old:=old) d.gates [] (evs d.vars.toNat f) k hk
  simp only [List.length_nil,Nat.zero_add] at hv
  show loG d.gates[k] ≤ (onceR d f old).1.getD k 0 ∧ _
  unfold onceR
  rw [hv]
  exact memoR_ok (h.2 k hk)

theorem zeroIn {d : Dyn} (hd : TreeOk d) : MemoIn d (List.replicate d.gates.length 0):=by
 refine ⟨by simp,fun k hk=>?_⟩
 have h7:=hd.sp k hk
 rw [List.getD_eq_getElem?_getD,List.getElem?_replicate,if_pos hk]
 unfold loG hiG
 show (if _ then _ else _) ≤ (0 : Int) ∧ (0 : Int) ≤ _
 by_cases h : (d.gates[k]).kind = 7
 ·have:=h7 h
  rw [if_pos h,if_neg (by omega),if_pos h]
  omega
 ·rw [if_neg h,if_neg h]
  split <;> omega

theorem orAll_bit {i : Nat} : ∀ (l : List Int) (f : Nat),(orAll l f).testBit i = (f.testBit i || l.any fun a=>decide (a.toNat = i))
 | [],f=>by simp [orAll]
 | a :: l,f=>by
   have:=orAll_bit (i:=i) l (f ||| 2 ^ a.toNat)
   simp only [orAll,List.foldl_cons,List.any_cons] at this ⊢
   rw [this,Nat.testBit_or,Nat.testBit_two_pow,Bool.or_assoc]

theorem strike1_bit {v : List Bool} {f i : Nat} {g : Gate} (h : f.testBit i = true) : (strike1 v f g).testBit i = true:=by
 unfold strike1
 split
 ·rw [orAll_bit,h]; rfl
 ·exact h

theorem strikeL_bit {v : List Bool} {i : Nat} : ∀ (l : List Gate) (f : Nat),f.testBit i = true → (l.foldl (strike1 v) f).testBit i = true
 | [],_,h=>h
 | _ :: l,_,h=>strikeL_bit l _ (strike1_bit h)

theorem strikeL_hit {v : List Bool} {a : Int} : ∀ (l : List Gate) (f : Nat),(∃ g ∈ l,g.kind = 8 ∧ v.getD (g.args.getD 0 0).toNat false = true ∧ a ∈ g.args.drop 1) → (l.foldl (strike1 v) f).testBit a.toNat = true
 | [],_,h=>by simp at h
 | g :: l,f,⟨x,hx,h8,hv,ha⟩=>by
   simp only [List.foldl_cons]
   rcases List.mem_cons.1 hx with rfl | hx
   ·apply strikeL_bit
    unfold strike1
    rw [if_pos ⟨h8,hv⟩,orAll_bit]
    have : ((x.args.drop 1).any fun b=>decide (b.toNat = a.toNat)) = true:=List.any_eq_true.2 ⟨a,ha,by simp⟩
    rw [this]; simp
   ·exact strikeL_hit l _ ⟨x,hx,h8,hv,ha⟩

def Settled (d : Dyn) (f : Nat) (memo : List Int) : Prop :=
 ∀ g ∈ d.gates,g.kind = 8 → (valuesR d f memo).getD (g.args.getD 0 0).toNat false = true → ∀ a ∈ g.args.drop 1,f.testBit a.toNat = true

theorem settled_of {d : Dyn} {f : Nat} {memo : List Int} (h : strike d (valuesR d f memo) f = f) : Settled d f memo:=by
 intro g hg h8 hv a ha
 have:=strikeL_hit (v:=valuesR d f memo) (a:=a) d.gates f ⟨g,hg,h8,hv,ha⟩
 rw [show d.gates.foldl (strike1 (valuesR d f memo)) f = f from h] at this
 exact this

structure Good (d : Dyn) (s : St) : Prop where
 pos : 0 ≤ s.failed
 lt : s.failed.toNat < 2 ^ d.vars.toNat
 memo : MemoIn d s.memo
 settled : Settled d s.failed.toNat s.memo

theorem settleR_good {d : Dyn} (hd : TreeOk d) {old : List Int} (ho : MemoIn d old) : ∀ (n f : Nat),2 ^ d.vars.toNat - f ≤ n → f < 2 ^ d.vars.toNat →
  Good d (settleR d f old) ∧ ∀ i,f.testBit i = true → (settleR d f old).failed.toNat.testBit i = true:=by
 intro n
 induction n with
 | zero=>intro f h1 h2; omega
 | succ n ih =>
   intro f h1 h2
   rw [settleR_step hd h2]
   split
   ·rename_i he
    rw [onceR_values] at he
    refine ⟨⟨by simp,by simpa using h2,onceR_in ho,?_⟩,fun i hi=>by simpa using hi⟩
    exact settled_of he
   ·rename_i hne
    have h4 : f ≤ strike d (onceR d f old).2 f:=strike_le _ _ _
    have h5:=strike_lt hd (v:=(onceR d f old).2) h2
    obtain ⟨g1,g2⟩:=ih (strike d (onceR d f old).2 f) (by omega) h5
    exact ⟨g1,fun i hi=>g2 i (strikeL_bit _ _ hi)⟩

theorem checkSR_of {d : Dyn} {s : St} (hc : checkR d = 0) (h : Good d s) : checkSR d s = 0:=by
 unfold checkSR
 rw [if_neg (by simp [hc]),if_neg (by simp [h.memo.1]),if_neg (by have:=h.pos; omega),if_neg (by have:=h.lt; have:=h.pos; omega),if_neg]
 intro hm
 unfold memoErr at hm
 obtain ⟨k,hk,hp⟩:=List.any_eq_true.1 hm
 have hk : k < d.gates.length:=by simpa using hk
 rw [getD_lt hk] at hp
 have:=h.memo.2 k hk
 simp only [Bool.or_eq_true,decide_eq_true_eq] at hp
 omega

theorem start_good {d : Dyn} (hc : checkR d = 0) : (startR d).2 = 0 ∧ Good d (startR d).1:=by
 have hd:=checkR_ok hc
 unfold startR
 rw [if_neg (by simp [hc])]
 exact ⟨rfl,(settleR_good hd (zeroIn hd) _ 0 (Nat.le_refl _) (Nat.two_pow_pos _)).1⟩

theorem fail_good {d : Dyn} {s : St} {i : Nat} (hc : checkR d = 0) (h : Good d s) (hi : (i : Int) < d.vars) :
  (s.failed.toNat.testBit i = true ∧ (failR d s i).2 = 12) ∨
  (s.failed.toNat.testBit i = false ∧ (failR d s i).2 = 0 ∧ Good d (failR d s i).1 ∧ ∀ k,(s.failed.toNat ||| 2 ^ i).testBit k = true → (failR d s i).1.failed.toNat.testBit k = true):=by
 have hd:=checkR_ok hc
 unfold failR
 rw [if_neg (by simp [checkSR_of hc h]),if_neg (by omega),if_neg (by omega)]
 rw [Int.toNat_natCast]
 cases hb : s.failed.toNat.testBit i with
 | true=>exact .inl ⟨rfl,rfl⟩
 | false =>
   rw [if_neg (by simp)]
   have hlt : s.failed.toNat ||| 2 ^ i < 2 ^ d.vars.toNat:=Nat.or_lt_two_pow h.lt (Nat.pow_lt_pow_right (by omega) (by omega))
   obtain ⟨g1,g2⟩:=settleR_good hd h.memo _ _ (Nat.le_refl _) hlt
   exact .inr ⟨rfl,rfl,g1,g2⟩

theorem repair_good {d : Dyn} {s : St} {i : Nat} (hc : checkR d = 0) (h : Good d s) (hi : (i : Int) < d.vars) :
  ((s.failed.toNat.testBit i = false ∨ heldR d (valuesR d s.failed.toNat s.memo) i = true) ∧ (repairR d s i).2 = 12) ∨
  (s.failed.toNat.testBit i = true ∧ heldR d (valuesR d s.failed.toNat s.memo) i = false ∧ (repairR d s i).2 = 0 ∧ Good d (repairR d s i).1 ∧ ∀ k,(nandN s.failed.toNat (2 ^ i)).testBit k = true → (repairR d s i).1.failed.toNat.testBit k = true):=by
 have hd:=checkR_ok hc
 have hv:=hd.vars
 have hp:=pow_vars hd
 unfold repairR
 rw [if_neg (by simp [checkSR_of hc h]),if_neg (by omega),if_neg (by omega)]
 rw [Int.toNat_natCast]
 cases hb : s.failed.toNat.testBit i with
 | false=>exact .inl ⟨.inl rfl,rfl⟩
 | true =>
   rw [if_neg (by simp)]
   cases hh : heldR d (valuesR d s.failed.toNat s.memo) i with
   | true=>exact .inl ⟨.inr rfl,rfl⟩
   | false =>
     rw [if_neg (by simp)]
     have hl:=h.lt
     have hlt : nandN s.failed.toNat (2 ^ i) < 2 ^ d.vars.toNat:=Nat.lt_of_le_of_lt (nandN_le (by omega)) hl
     obtain ⟨g1,g2⟩:=settleR_good hd h.memo _ _ (Nat.le_refl _) hlt
     exact .inr ⟨rfl,rfl,rfl,g1,g2⟩

def pstep (d : Dyn) (s : St) (a : Int) : St :=
 let i:=a % 128 % d.vars
 if a < 128 then (if (failR d s i).2 = 0 then (failR d s i).1 else s) else (if (repairR d s i).2 = 0 then (repairR d s i).1 else s)

def playR (d : Dyn) (acts : List Int) : St:=acts.foldl (pstep d) (startR d).1

theorem pstep_good {d : Dyn} {s : St} {a : Int} (hc : checkR d = 0) (h : Good d s) : Good d (pstep d s a):=by
 have hv:=(checkR_ok hc).vars
 have h1 : 0 ≤ a % 128 % d.vars:=Int.emod_nonneg _ (by omega)
 have h2 : a % 128 % d.vars < d.vars:=Int.emod_lt_of_pos _ (by omega)
 unfold pstep
 obtain ⟨i,hi⟩ : ∃ i : Nat,a % 128 % d.vars = i:=⟨(a % 128 % d.vars).toNat,by omega⟩
 dsimp only
 rw [hi] at h2 ⊢
 split
 ·rcases fail_good hc h h2 with ⟨_,h3⟩ | ⟨_,h3,h4,_⟩
  ·rw [if_neg (by omega)]; exact h
  ·rw [if_pos h3]; exact h4
 ·rcases repair_good hc h h2 with ⟨_,h3⟩ | ⟨_,_,h3,h4,_⟩
  ·rw [if_neg (by omega)]; exact h
  ·rw [if_pos h3]; exact h4

theorem play_good {d : Dyn} (hc : checkR d = 0) : ∀ (acts : List Int) (s : St),Good d s → Good d (acts.foldl (pstep d) s)
 | [],_,h=>h
 | _ :: l,_,h=>play_good hc l _ (pstep_good hc h)


def wdN : Nat → Nat → List Int
 | 0,_=>[]
 | k + 1,x=>((x % 4294967296 : Nat) : Int) :: wdN k (x / 4294967296)

theorem wdN_len : ∀ k x,(wdN k x).length = k
 | 0,_=>rfl
 | k + 1,x=>by simp [wdN,wdN_len k]

theorem wdN_Ws : ∀ k x,Ws (wdN k x)
 | 0,_=>Ws.nil
 | k + 1,x=>Ws.cons (by omega) (wdN_Ws k _)

theorem wdN_val : ∀ {l : List Int},Ws l → wdN l.length (val l) = l
 | [],_=>rfl
 | x :: l,h=>by
   have hx:=h.head
   simp only [List.length_cons,wdN,val]
   rw [show (x.toNat + 4294967296 * val l) % 4294967296 = x.toNat by omega,show (x.toNat + 4294967296 * val l) / 4294967296 = val l by omega,wdN_val h.tail]
   congr 1; omega

theorem val_wdN : ∀ {k x : Nat},x < 4294967296 ^ k → val (wdN k x) = x
 | 0,x,h=>by simp at h; subst h; rfl
 | k + 1,x,h=>by
   simp only [wdN,val]
   rw [val_wdN (k:=k) (by rw [Nat.div_lt_iff_lt_mul (by omega)]; rw [Nat.pow_succ] at h; exact h)]
   omega

theorem wdN_eq {l : List Int} {k x : Nat} (hw : Ws l) (hl : l.length = k) (hv : val l = x) : l = wdN k x:=by
 rw [← hl,← hv]; exact (wdN_val hw).symm

theorem val_set : ∀ {l : List Int} {i : Nat} {x : Int} (h : i < l.length),val (l.set i x) + 4294967296 ^ i * (l[i]).toNat = val l + 4294967296 ^ i * x.toNat
 | [],_,_,h=>by simp at h
 | y :: l,0,x,_=>by simp [val]; omega
 | y :: l,i + 1,x,h=>by
   have:=val_set (l:=l) (i:=i) (x:=x) (by simpa using h)
   simp only [List.set_cons_succ,val,List.getElem_cons_succ,Nat.pow_succ]
   rw [Nat.mul_comm (4294967296 ^ i) 4294967296,Nat.mul_assoc,Nat.mul_assoc]
   omega

theorem val_ge {l : List Int} {i : Nat} (h : i < l.length) : 4294967296 ^ i * (l[i]).toNat ≤ val l:=by
 rw [val_take_drop i (by omega),List.drop_eq_getElem_cons h]
 simp only [val]
 have : 4294967296 ^ i * (l[i]).toNat ≤ 4294967296 ^ i * ((l[i]).toNat + 4294967296 * val (l.drop (i + 1))):=Nat.mul_le_mul_left _ (by omega)
 omega

theorem Ws.set {l : List Int} (h : Ws l) {i : Nat} {x : Int} (hx : 0 ≤ x ∧ x < 4294967296) : Ws (l.set i x):=by
 intro y hy
 rcases List.mem_or_eq_of_mem_set hy with hy | rfl
 ·exact h y hy
 ·exact hx

theorem val_take_succ {l : List Int} {i : Nat} (h : i < l.length) : val (l.take (i + 1)) = val (l.take i) + 4294967296 ^ i * (l[i]).toNat:=by
 rw [List.take_add_one,List.getElem?_eq_getElem h,val_append,List.length_take,Nat.min_eq_left (by omega)]
 simp [val]

theorem c_word (a : List Int) (i : Nat) : FnH Tryz.prog 274 [wL a,.int .i64 i] [] (.int .u64 (a.getD i 0)) []:=by
 refine FnH.intro lay mixed Tryz.func274 (by kernel_rfl) rfl (by kernel_rfl) rfl fun hok=>?_
 have hw : Ws a:=Ws.ok hok.1.2
 conv=>whnf
 refine And.intro (fun h=>?_) (fun h=>?_)
 ·have h : i < a.length:=by simp only [List.length_map] at h; omega
  conv=>whnf
  refine aidxN' 0 rfl h ?_
  conv=>whnf
  refine fM ?_;(conv=>whnf);refine ⟨?_,rfl⟩;conv=>whnf
  have:=hw.getD (i:=i)
  exact ⟨rfl,wrap_u64 (by omega) (by omega)⟩
 ·have h : a.length ≤ i:=by simp only [List.length_map] at h; omega
  conv=>whnf
  refine fM ?_;(conv=>whnf);refine ⟨?_,rfl⟩;conv=>whnf
  refine ⟨rfl,?_⟩
  rw [List.getD_eq_getElem?_getD,List.getElem?_eq_none h]; rfl

theorem shl_u64 {a n : Nat} (ha : a < 4294967296) (hn : n < 32) : shlR .u64 (a : Int) (n : Int) = ((a * 2 ^ n : Nat) : Int):=by
 unfold shlR
 have h1 : min (n : Int).toNat (IntKind.bits .u64) = n:=by show min n 64 = n; omega
 rw [h1]
 have h2 : (a : Int) * 2 ^ n = ((a * 2 ^ n : Nat) : Int):=by simp
 rw [h2]
 have h3 : 2 ^ n ≤ 2 ^ 31:=Nat.pow_le_pow_right (by omega) (by omega)
 have h4 : a * 2 ^ n ≤ 4294967295 * 2 ^ 31:=Nat.mul_le_mul (by omega) h3
 exact wrap_u64 (by omega) (by omega)

theorem or_u32 {a b : Nat} (ha : a < 2 ^ 32) (hb : b < 2 ^ 32) : bitsR .or .u32 (a : Int) (b : Int) = ((a ||| b : Nat) : Int):=by
 simp only [bitsR]
 have e : ∀ x : Nat,BitVec.ofInt 32 (x : Int) = BitVec.ofNat 32 x:=by
  intro x; apply BitVec.eq_of_toNat_eq; simp
 have h1 : (BitVec.ofInt 32 (a : Int) ||| BitVec.ofInt 32 (b : Int)).toNat = a ||| b:=by
  rw [e,e,BitVec.toNat_or,BitVec.toNat_ofNat,BitVec.toNat_ofNat,Nat.mod_eq_of_lt ha,Nat.mod_eq_of_lt hb]
 show IntKind.wrap .u32 ((BitVec.ofInt 32 (a : Int) ||| BitVec.ofInt 32 (b : Int)).toNat : Int) = _
 rw [h1]
 have:=Nat.or_lt_two_pow ha hb
 exact wrap_u32 (by omega) (by omega)

theorem or_low {h y n : Nat} (hn : n < 32) (hh : h < 2 ^ n) : h ||| (y * 2 ^ n % 4294967296) = h + y * 2 ^ n % 4294967296:=by
 have e : (4294967296 : Nat) = 2 ^ (32 - n) * 2 ^ n:=by
  rw [← Nat.pow_add,show 32 - n + n = 32 by omega]
 rw [e,Nat.mul_mod_mul_right]
 generalize y % 2 ^ (32 - n) = z
 have:=Nat.shiftLeft_add_eq_or_of_lt (i:=n) hh z
 rw [Nat.shiftLeft_eq] at this
 rw [Nat.or_comm,← this]; omega

theorem left_arith {p g Y B v0 v1 v2 t u : Nat} (e1 : v1 + p * g = v0 + p * t) (ht : t = g + Y % B) (e2 : v2 + p * B * u = v1 + p * B * (Y / B)) (hu : u = 0) : v2 = v0 + p * Y:=by
 subst ht; subst hu
 have k1 : p * (g + Y % B) = p * g + p * (Y % B):=Nat.mul_add _ _ _
 have k2 : p * Y = p * (Y % B) + p * B * (Y / B):=by
  rw [Nat.mul_assoc,← Nat.mul_add,Nat.mod_add_div]
 have k3 : p * B * 0 = 0:=Nat.mul_zero _
 generalize p * (g + Y % B) = q1 at *
 generalize p * B * (Y / B) = q2 at *
 generalize p * (Y % B) = q3 at *
 generalize p * Y = q4 at *
 generalize p * B * 0 = q5 at *
 generalize p * g = q6 at *
 omega

theorem left_sum {out : List Int} {i g Y : Nat} {vi vo X P : Nat} (h1 : i < out.length) (h2 : i + 1 < out.length) (hgg : out[i] = (g : Int)) (hz : out.getD (i + 1) 0 = 0)
  (hv : val out = vi * P) (hvt : vo = vi + 4294967296 ^ i * X) (hY : X * P = Y) :
  val ((out.set i ((g + Y % 4294967296 : Nat) : Int)).set (i + 1) ((Y / 4294967296 : Nat) : Int)) = vo * P:=by
 have e1:=val_set (x:=((g + Y % 4294967296 : Nat) : Int)) h1
 have ho2 : i + 1 < (out.set i ((g + Y % 4294967296 : Nat) : Int)).length:=by simpa using h2
 have e2:=val_set (x:=((Y / 4294967296 : Nat) : Int)) ho2
 rw [getD_lt' h2] at hz
 rw [List.getElem_set_ne (by omega),hz,Nat.pow_succ] at e2
 rw [hgg] at e1
 have e3:=left_arith e1 rfl e2 rfl
 rw [e3,hvt,Nat.add_mul,Nat.mul_assoc,hY,hv]

theorem c_left (a : List Int) (n : Nat) (hn : n < 32) (hsz : a.length ≤ 1000000) :
  FnH Tryz.prog 279 [wL a,.int .i64 n] [] (.ms 0 0 (a.length + 1) (a.length + 1) 1) [(0,.arr 1 (a.length + 1) ((wdN (a.length + 1) (val a * 2 ^ n)).map (.int .u32)))]:=by
 refine FnH.intro lay mixed Tryz.func279 (by kernel_rfl) rfl (by kernel_rfl) rfl fun hok=>?_
 have hw : Ws a:=Ws.ok hok.1.2
 conv=>whnf
 refine ⟨inr64 (by simp; omega) (by simp; omega),?_⟩
 conv=>whnf
 refine ⟨⟨by simp; omega,by omega,by simp; omega,by simp; omega⟩,.wr ?_⟩
 conv=>whnf
 refine LoopE.of <| LoopSpec.inv (.refl _ _) (fun x : Nat × List Int=>x.1 ≤ a.length ∧ x.2.length = a.length + 1 ∧ Ws x.2 ∧ val x.2 = val (a.take x.1) * 2 ^ n ∧ ∀ k,x.1 < k → x.2.getD k 0 = 0)
  (fun | (i,_)=>[(15,.int .i64 i)]) (fun | (_,out)=>[(0,.arr 1 (a.length + 1) (out.map (.int .u32)))]) (fun x=>a.length - x.1) (0,List.replicate (a.length + 1) 0) ?_ (fun _=>rfl) ?_ ?_
 ·refine ⟨Nat.zero_le _,by simp,?_,?_,?_⟩
  ·intro x hx
   rw [List.mem_replicate] at hx
   rw [hx.2]; omega
  ·rw [val_zeros (fun x hx=>(List.mem_replicate.1 hx).2)]; simp [val]
  ·intro k _
   rw [List.getD_eq_getElem?_getD,List.getElem?_replicate]
   split <;> rfl
 ·refine ⟨?_,.mk ?_ ⟨by simp,trivial⟩⟩
  ·all_goals exact wk
  ·repeat' first|exact rfl|exact trivial|exact wR|exact lR _|apply aI
   all_goals first | (simp; done) | exact leRL_of (by simp)
 rintro ⟨i,out⟩ ⟨hi,ho,hwo,hv,hz⟩ _
 simp only at hi ho hwo hv hz
 conv=>whnf
 refine And.intro (fun h=>?_) (fun h=>?_)
 ·have hlt : i < a.length:=by simpa using h
  have hx:=hw.get hlt
  have hvt:=val_take_succ hlt
  obtain ⟨x,hxx⟩ : ∃ x : Nat,a[i] = x:=⟨(a[i]).toNat,by omega⟩
  rw [hxx] at hvt hx
  simp only [Int.toNat_natCast] at hvt
  have h1 : i < out.length:=by omega
  have hg:=hwo.get h1
  have hge:=val_ge h1
  obtain ⟨g,hgg⟩ : ∃ g : Nat,out[i] = g:=⟨(out[i]).toNat,by omega⟩
  rw [hgg] at hg hge
  simp only [Int.toNat_natCast] at hge
  have hlow : val (a.take i) < 4294967296 ^ i:=by
   have:=val_lt (hw.take i)
   rw [List.length_take,Nat.min_eq_left (by omega)] at this
   exact this
  have hp : 0 < 2 ^ n:=Nat.two_pow_pos n
  have hgn : g < 2 ^ n:=by
   have h2 : 4294967296 ^ i * g < 4294967296 ^ i * 2 ^ n:=by
    have:=Nat.mul_lt_mul_of_pos_right hlow hp
    omega
   exact Nat.lt_of_mul_lt_mul_left h2
  have hn31 : 2 ^ n ≤ 2 ^ 31:=Nat.pow_le_pow_right (by omega) (by omega)
  have hy : x * 2 ^ n ≤ 4294967295 * 2 ^ 31:=Nat.mul_le_mul (by omega) hn31
  conv=>whnf
  refine aidx hlt ?_
  rw [hxx]
  conv=>whnf
  rw [wrap_u64 (n:=(x : Int)) (by omega) (by omega)]
  refine ⟨by omega,?_⟩
  rw [shl_u64 (by omega) hn]
  conv=>whnf
  refine ⟨⟨by omega,by simp; omega⟩,?_⟩
  conv=>whnf
  refine aidxN' 0 (i:=i) (by omega) h1 ?_
  rw [getD_lt' h1,hgg]
  refine ⟨rfl,?_⟩
  conv=>whnf
  refine ⟨⟨by omega,by simp; omega⟩,?_⟩
  rw [wrapu32_mod,or_u32 (by omega) (by omega),or_low hn hgn]
  have hylt : x * 2 ^ n % 4294967296 + g < 4294967296:=by
   have h3 : g ||| (x * 2 ^ n % 4294967296) < 2 ^ 32:=Nat.or_lt_two_pow (by omega) (by omega)
   rw [or_low hn hgn] at h3
   omega
  generalize hY : x * 2 ^ n = Y at *
  conv=>whnf
  refine ⟨by simp; omega,rfl,?_⟩
  conv=>whnf
  refine zA ?_;conv=>whnf
  refine ⟨by decide,?_⟩
  rw [shr_word rfl]
  conv=>whnf
  refine ⟨⟨by omega,by simp; omega⟩,?_⟩
  rw [wrap_u32 (n:=((Y / 4294967296 : Nat) : Int)) (by omega) (by omega)]
  conv=>whnf
  refine ⟨by simp; omega,rfl,?_⟩
  conv=>whnf
  refine zA ?_;conv=>whnf
  refine ⟨(i + 1,(out.set i ((g + Y % 4294967296 : Nat) : Int)).set (i + 1) ((Y / 4294967296 : Nat) : Int)),?_,?_,?_⟩
  ·refine ⟨hlt,by simpa using ho,(hwo.set (by omega)).set (by omega),?_,?_⟩
   ·show val ((out.set i ((g + Y % 4294967296 : Nat) : Int)).set (i + 1) ((Y / 4294967296 : Nat) : Int)) = val (a.take (i + 1)) * 2 ^ n
    exact left_sum (X:=x) h1 (by omega) hgg (hz (i + 1) (by omega)) hv hvt hY
   ·intro k hk
    have hk : i + 1 < k:=hk
    have:=hz k (by omega)
    rw [List.getD_eq_getElem?_getD] at this ⊢
    rw [List.getElem?_set_ne (by omega),List.getElem?_set_ne (by omega)]
    exact this
  ·refine ⟨?_,.mk ?_ ⟨by simp,trivial⟩⟩
   ·all_goals exact wk
   ·repeat' first|exact rfl|exact trivial|exact wR|exact lR _|apply aI
    refine leRL_of ?_
    rw [List.map_set,List.map_set]
    simp [strip]
  ·show a.length - (i + 1) < a.length - i
   omega
 ·have hil : i = a.length:=by have : ¬ i < a.length:=by simpa using h
                              omega
  subst hil
  rw [List.take_length] at hv
  conv=>whnf
  refine ⟨⟨_,_,.refl _ _,?_⟩⟩
  conv=>whnf
  refine ⟨?_,rfl,by simp [nextId],.mk ?_ ⟨by simp,trivial⟩⟩
  ·show AV.ms _ _ _ _ _ = _
   simp
   exact ⟨rfl,rfl⟩
  ·repeat' first|exact rfl|exact trivial|exact wR|exact lR _|apply aI
   refine leRL_of ?_
   rw [wdN_eq hwo ho hv]

theorem wdN_get : ∀ {k x i : Nat} (_ : i < k),(wdN k x).getD i 0 = ((x / 4294967296 ^ i % 4294967296 : Nat) : Int)
 | 0,_,_,h=>by omega
 | k + 1,x,0,_=>by simp [wdN]
 | k + 1,x,i + 1,h=>by
   have:=wdN_get (k:=k) (x:=x / 4294967296) (i:=i) (by omega)
   simp only [wdN,List.getD_cons_succ]
   rw [this,Nat.div_div_eq_div_mul,Nat.pow_succ,Nat.mul_comm (4294967296 ^ i)]

theorem wdN_of {l : List Int} {k x : Nat} (hl : l.length = k) (h : ∀ i,i < k → l.getD i 0 = ((x / 4294967296 ^ i % 4294967296 : Nat) : Int)) : l = wdN k x:=by
 apply List.ext_getElem
 ·rw [hl,wdN_len]
 ·intro i h1 h2
  have e1:=h i (by omega)
  have e2:=wdN_get (k:=k) (x:=x) (i:=i) (by omega)
  rw [getD_lt' h1] at e1
  rw [getD_lt' h2] at e2
  rw [e1,e2]

theorem val_drop {l : List Int} (hw : Ws l) (i : Nat) : val l / 4294967296 ^ i = val (l.drop i):=by
 by_cases h : i ≤ l.length
 ·have e:=val_take_drop (l:=l) i h
  have h1:=val_lt (hw.take i)
  rw [List.length_take,Nat.min_eq_left h] at h1
  rw [e,Nat.add_mul_div_left _ _ (Nat.pow_pos (by omega)),Nat.div_eq_of_lt h1,Nat.zero_add]
 ·have h0:=val_lt hw
  have h2 : 4294967296 ^ l.length ≤ 4294967296 ^ i:=Nat.pow_le_pow_right (by omega) (by omega)
  rw [Nat.div_eq_of_lt (by omega),List.drop_eq_nil_of_le (by omega)]; rfl

theorem val_hd (l : List Int) (i : Nat) : val (l.drop i) = (l.getD i 0).toNat + 4294967296 * val (l.drop (i + 1)):=by
 by_cases h : i < l.length
 ·rw [List.drop_eq_getElem_cons h,getD_lt' h]; rfl
 ·rw [List.drop_eq_nil_of_le (by omega),List.drop_eq_nil_of_le (by omega),List.getD_eq_getElem?_getD,List.getElem?_eq_none (by omega)]; rfl

theorem right_word {l : List Int} (hw : Ws l) {i n : Nat} (hn : n < 32) :
  (((l.getD (i + 1) 0).toNat * 4294967296 + (l.getD i 0).toNat) / 2 ^ n) % 4294967296 = val l / 2 ^ n / 4294967296 ^ i % 4294967296:=by
 rw [Nat.div_div_eq_div_mul,Nat.mul_comm (2 ^ n),← Nat.div_div_eq_div_mul,val_drop hw,val_hd l i,val_hd l (i + 1)]
 generalize (l.getD (i + 1) 0).toNat = y
 generalize (l.getD i 0).toNat = x
 generalize val (l.drop (i + 1 + 1)) = z
 have e : (4294967296 : Nat) = 2 ^ n * 2 ^ (32 - n):=by
  rw [← Nat.pow_add,show n + (32 - n) = 32 by omega]
 have h : x + 4294967296 * (y + 4294967296 * z) = (y * 4294967296 + x) + 2 ^ n * (2 ^ (32 - n) * 4294967296 * z):=by
  have : 2 ^ n * (2 ^ (32 - n) * 4294967296 * z) = 4294967296 * (4294967296 * z):=by
   rw [← Nat.mul_assoc,← Nat.mul_assoc,← e,Nat.mul_assoc]
  omega
 rw [h,Nat.add_mul_div_left _ _ (Nat.two_pow_pos n)]
 rw [Nat.mul_comm (2 ^ (32 - n)),Nat.mul_assoc,Nat.add_mul_mod_self_left]

theorem shr_u64 {a n : Nat} (hn : n < 32) : shrR .u64 (a : Int) (n : Int) = ((a / 2 ^ n : Nat) : Int):=by
 unfold shrR
 have h1 : min (n : Int).toNat (IntKind.bits .u64) = n:=by show min n 64 = n; omega
 rw [h1]
 rw [Int.fdiv_eq_ediv_of_nonneg _ (by have:=Int.pow_pos (n:=(2 : Int)) (m:=n) (by decide); omega)]
 simp

theorem or_word' {a b : Nat} (ha : a < 4294967296) (hb : b < 4294967296) : bitsR .or .u64 (b : Int) ((a * 4294967296 : Nat) : Int) = ((a * 4294967296 + b : Nat) : Int):=by
 rw [← or_word ha hb,or_u64 (by omega) (by omega),or_u64 (by omega) (by omega),Nat.or_comm]

theorem c_right (a : List Int) (n : Nat) (hn : n < 32) (hsz : a.length ≤ 1000000) :
  FnH Tryz.prog 282 [wL a,.int .i64 n] [] (.ms 0 0 a.length a.length 1) [(0,.arr 1 a.length ((wdN a.length (val a / 2 ^ n)).map (.int .u32)))]:=by
 refine FnH.intro lay mixed Tryz.func282 (by kernel_rfl) rfl (by kernel_rfl) rfl fun hok=>?_
 have hw : Ws a:=Ws.ok hok.1.2
 conv=>whnf
 refine ⟨⟨by simp,by omega,by simp; omega,by simp; omega⟩,.wr ?_⟩
 conv=>whnf
 refine LoopE.of <| LoopSpec.inv (.refl _ _) (fun x : Nat × List Int=>x.1 ≤ a.length ∧ x.2.length = a.length ∧ ∀ k,k < x.1 → x.2.getD k 0 = ((val a / 2 ^ n / 4294967296 ^ k % 4294967296 : Nat) : Int))
  (fun | (i,_)=>[(12,.int .i64 i)]) (fun | (_,out)=>[(0,.arr 1 a.length (out.map (.int .u32)))]) (fun x=>a.length - x.1) (0,List.replicate a.length 0) ?_ (fun _=>rfl) ?_ ?_
 ·refine ⟨Nat.zero_le _,by simp,?_⟩
  intro k hk
  exact absurd hk (Nat.not_lt_zero _)
 ·refine ⟨?_,.mk ?_ ⟨by simp,trivial⟩⟩
  ·all_goals exact wk
  ·repeat' first|exact rfl|exact trivial|exact wR|exact lR _|apply aI
   all_goals first | (simp; done) | exact leRL_of (by simp)
 rintro ⟨i,out⟩ ⟨hi,ho,hz⟩ _
 simp only at hi ho hz
 conv=>whnf
 refine And.intro (fun h=>?_) (fun h=>?_)
 ·have hlt : i < a.length:=by simpa using h
  conv=>whnf
  refine .gen _ _ (FnH.frame [] (c_word a i) ⟨rfl,rfl,rfl,rfl⟩ trivial (leL_refl _)) fun _=>?_
  conv=>whnf
  refine zA ?_;conv=>whnf
  refine .gen _ _ (FnH.frame [] (c_word a (i + 1)) ⟨rfl,rfl,rfl,rfl⟩ trivial (leL_refl _)) fun _=>?_
  have hx:=hw.getD (i:=i)
  have hy:=hw.getD (i:=i + 1)
  have hrw:=right_word hw (i:=i) hn
  generalize a.getD i 0 = x0 at *
  generalize a.getD (i + 1) 0 = y0 at *
  obtain ⟨x,rfl⟩ : ∃ x : Nat,x0 = x:=⟨x0.toNat,by omega⟩
  obtain ⟨y,rfl⟩ : ∃ y : Nat,y0 = y:=⟨y0.toNat,by omega⟩
  simp only [Int.toNat_natCast] at hrw
  conv=>whnf
  refine ⟨by decide,?_⟩
  rw [shl_word (by omega)]
  conv=>whnf
  refine ⟨by omega,?_⟩
  rw [or_word' (by omega) (by omega),shr_u64 hn]
  conv=>whnf
  refine ⟨⟨by omega,by simp; omega⟩,?_⟩
  rw [wrapu32_mod,hrw]
  conv=>whnf
  refine ⟨by simp; omega,rfl,?_⟩
  conv=>whnf
  refine zA ?_;conv=>whnf
  refine ⟨(i + 1,out.set i ((val a / 2 ^ n / 4294967296 ^ i % 4294967296 : Nat) : Int)),?_,?_,?_⟩
  ·refine ⟨hlt,by simpa using ho,?_⟩
   intro k hk
   have hk : k < i + 1:=hk
   show (out.set i ((val a / 2 ^ n / 4294967296 ^ i % 4294967296 : Nat) : Int)).getD k 0 = _
   by_cases hki : k = i
   ·subst hki
    rw [getD_lt' (by simp; omega),List.getElem_set_self]
   ·rw [List.getD_eq_getElem?_getD,List.getElem?_set_ne (by omega),← List.getD_eq_getElem?_getD]
    exact hz k (by omega)
  ·refine ⟨?_,.mk ?_ ⟨by simp,trivial⟩⟩
   ·all_goals exact wk
   ·repeat' first|exact rfl|exact trivial|exact wR|exact lR _|apply aI
    refine leRL_of ?_
    rw [List.map_set]
    simp [strip]
  ·show a.length - (i + 1) < a.length - i
   omega
 ·have hia : i = a.length:=by have : ¬ i < a.length:=by simpa using h
                              omega
  subst hia
  conv=>whnf
  refine ⟨⟨_,_,.refl _ _,?_⟩⟩
  conv=>whnf
  refine ⟨?_,rfl,by simp [nextId],.mk ?_ ⟨by simp,trivial⟩⟩
  ·show AV.ms _ _ _ _ _ = _
   simp
   exact ⟨rfl,rfl⟩
  ·repeat' first|exact rfl|exact trivial|exact wR|exact lR _|apply aI
   refine leRL_of ?_
   rw [wdN_of ho hz]

def mid (us : List Int) (off : Nat) (s : List Int) : List Int:=us.take off ++ (s ++ us.drop (off + s.length))

theorem mid_len {us s : List Int} {off : Nat} (h : off + s.length ≤ us.length) : (mid us off s).length = us.length:=by
 simp only [mid,List.length_append,List.length_take,List.length_drop]; omega

theorem mid_nil {us : List Int} {off : Nat} : mid us off [] = us:=by simp [mid]

theorem mid_get {us s : List Int} {off : Nat} (h : off + s.length < us.length) : (mid us off s).getD (off + s.length) 0 = us.getD (off + s.length) 0:=by
 simp only [mid,List.getD_eq_getElem?_getD]
 rw [List.getElem?_append_right (by simp; omega),List.getElem?_append_right (by simp; omega),List.getElem?_drop]
 congr 2
 simp only [List.length_take]; omega

theorem mid_set {us s : List Int} {off : Nat} {y : Int} (h : off + s.length < us.length) : (mid us off s).set (off + s.length) y = mid us off (s ++ [y]):=by
 simp only [mid]
 have h1 : (us.take off).length = off:=by simp; omega
 rw [List.set_append_right _ _ (by omega),h1,show off + s.length - off = s.length by omega,List.set_append_right _ _ (by omega),Nat.sub_self,List.drop_eq_getElem_cons h]
 simp only [List.set_cons_zero,List.append_assoc,List.length_append,List.length_singleton]
 rfl

theorem mid_Ws {us s : List Int} {off : Nat} (hu : Ws us) (hs : Ws s) : Ws (mid us off s):=(hu.take _).append (hs.append (hu.drop _))

theorem sub_word {x low b : Nat} (hx : x < 4294967296) (hl : low < 4294967296) (hb : b ≤ 1) :
  ∃ D : Nat,IntKind.wrap .u64 (IntKind.wrap .u64 ((x : Int) - (low : Int)) - (b : Int)) = (D : Int) ∧ D < 18446744073709551616 ∧ D / 9223372036854775808 ≤ 1 ∧ x + 4294967296 * (D / 9223372036854775808) = D % 4294967296 + low + b:=by
 have hw : ∀ z : Int,IntKind.wrap .u64 z = z % 18446744073709551616:=by
  intro z; simp [IntKind.wrap,IntKind.bits,IntKind.signed]
 rw [hw,hw]
 refine ⟨((((x : Int) - (low : Int)) % 18446744073709551616 - (b : Int)) % 18446744073709551616).toNat,?_,?_,?_,?_⟩ <;> omega

theorem shr_63 {a : Nat} : shrR .u64 (a : Int) 63 = ((a / 9223372036854775808 : Nat) : Int):=by
 unfold shrR
 have h1 : min (63 : Int).toNat (IntKind.bits .u64) = 63:=by decide
 rw [h1]
 rw [Int.fdiv_eq_ediv_of_nonneg _ (by decide)]
 simp

theorem take_arith {p B n w x y c c' b b' low vs s nv : Nat} (h1 : x + B * b' = y + low + b) (h2 : c + n * w = low + B * c') (h : vs + p * (b + c) = s + nv) :
  vs + p * x + p * B * (b' + c') = s + p * y + (nv + p * (n * w)):=by
 have e1 : p * (x + B * b') = p * (y + low + b):=by rw [h1]
 have e2 : p * (c + n * w) = p * (low + B * c'):=by rw [h2]
 rw [Nat.mul_add,Nat.mul_add,Nat.mul_add,← Nat.mul_assoc] at e1
 rw [Nat.mul_add,Nat.mul_add p low,← Nat.mul_assoc p B] at e2
 rw [Nat.mul_add] at h
 rw [Nat.mul_add (p * B)]
 omega

theorem val_take_getD {l : List Int} {i : Nat} : val (l.take (i + 1)) = val (l.take i) + 4294967296 ^ i * (l.getD i 0).toNat:=by
 by_cases h : i < l.length
 ·rw [val_take_succ h,getD_lt' h]
 ·rw [List.take_of_length_le (by omega),List.take_of_length_le (by omega),List.getD_eq_getElem?_getD,List.getElem?_eq_none (by omega)]
  simp

theorem carry_step {p B a n w c : Nat} (hp : 0 < p) (h : c = a / p) : (c + n * w) / B = (a + p * (n * w)) / (p * B):=by
 rw [← Nat.div_div_eq_div_mul,Nat.add_mul_div_left _ _ hp,h]

theorem carry_lt {B n v p : Nat} (hn : n ≤ B) (hv : v < p) (hB : 0 < B) : n * v / p < B:=by
 rw [Nat.div_lt_iff_lt_mul (by omega)]
 have h1 : n * v ≤ B * v:=Nat.mul_le_mul_right _ hn
 have h2 : B * v < B * p:=Nat.mul_lt_mul_of_pos_left hv hB
 omega

def takeN (x y k : Nat) : Nat:=if x < y then x + 4294967296 ^ k - y else x - y

theorem c_take (us v : List Int) (off cap n : Nat) (hus : Ws us) (ho : off + v.length + 1 ≤ us.length) (hn : n ≤ 4294967296) (hsz : us.length ≤ 2000000)
  (hlim : n * val v < 4294967296 ^ (v.length + 1)) :
  FnH Tryz.prog 280 [.ms 0 off (v.length + 1) cap 1,wL v,.int .u64 n] [(0,.arr 1 us.length (us.map (.int .u32)))]
   (.dec (val ((us.drop off).take (v.length + 1)) < n * val v))
   [(0,.arr 1 us.length ((mid us off (wdN (v.length + 1) (takeN (val ((us.drop off).take (v.length + 1))) (n * val v) (v.length + 1)))).map (.int .u32)))]:=by
 refine FnH.intro lay mixed Tryz.func280 (by kernel_rfl) rfl (by kernel_rfl) rfl fun hok=>?_
 have hw : Ws v:=Ws.ok hok.2.1.2
 conv=>whnf
 refine LoopE.of <| LoopSpec.inv (.refl _ _) (fun x : Nat × Nat × Nat × List Int × List Int=>x.1 ≤ v.length + 1 ∧ x.2.2.1 ≤ 1 ∧ x.2.1 = n * val (v.take x.1) / 4294967296 ^ x.1 ∧ Ws x.2.2.2.1 ∧ x.2.2.2.1.length = x.1 ∧ x.2.2.2.2 = mid us off x.2.2.2.1 ∧
   val ((us.drop off).take x.1) + 4294967296 ^ x.1 * (x.2.2.1 + x.2.1) = val x.2.2.2.1 + n * val (v.take x.1))
  (fun | (i,c,b,_)=>[(13,.int .i64 i),(8,.int .u64 b),(7,.int .u64 c)]) (fun | (_,_,_,_,M)=>[(0,.arr 1 us.length (M.map (.int .u32)))])
  (fun x=>v.length + 1 - x.1) (0,0,0,[],us) ?_ (fun _=>rfl) ?_ ?_
 ·refine ⟨Nat.zero_le _,by simp,?_,Ws.nil,rfl,?_,?_⟩
  ·simp [val]
  ·simp [mid_nil]
  ·simp [val]
 ·refine ⟨?_,.mk ?_ ⟨by simp,trivial⟩⟩
  ·all_goals exact wk
  ·repeat' first|exact rfl|exact trivial|exact wR|exact lR _|apply aI
   all_goals first | (simp; done) | exact leRL_of (by simp)
 rintro ⟨i,c,b,s,M⟩ ⟨hi,hb,hc,hws,hsl,hM,hv⟩ _
 simp only at hi hb hc hws hsl hM hv
 conv=>whnf
 refine And.intro (fun h=>?_) (fun h=>?_)
 ·have hlt : i < v.length + 1:=by omega
  have hML : M.length = us.length:=by rw [hM,mid_len (by omega)]
  conv=>whnf
  refine .gen _ _ (FnH.frame [] (c_word v i) ⟨rfl,rfl,rfl,rfl⟩ trivial (leL_refl _)) fun _=>?_
  have hwd:=hw.getD (i:=i)
  have hvt:=val_take_getD (l:=v) (i:=i)
  generalize v.getD i 0 = w0 at *
  obtain ⟨w,rfl⟩ : ∃ w : Nat,w0 = w:=⟨w0.toNat,by omega⟩
  rw [Int.toNat_natCast] at hvt
  have hlow : val (v.take i) < 4294967296 ^ i:=by
   have h1:=val_lt (hw.take i)
   have h2 : 4294967296 ^ (v.take i).length ≤ 4294967296 ^ i:=Nat.pow_le_pow_right (by omega) (by simp; omega)
   omega
  have hcl : c < 4294967296:=by rw [hc]; exact carry_lt hn hlow (by omega)
  have hnw : n * w ≤ 4294967296 * 4294967295:=Nat.mul_le_mul hn (by omega)
  have hi2 : off + i < M.length:=by omega
  have hg : M.getD (off + i) 0 = us.getD (off + i) 0:=by rw [hM,← hsl]; exact mid_get (by omega)
  have hx:=hus.getD (i:=off + i)
  have hut:=val_take_getD (l:=us.drop off) (i:=i)
  rw [show (us.drop off).getD i 0 = us.getD (off + i) 0 by simp only [List.getD_eq_getElem?_getD,List.getElem?_drop]] at hut
  generalize us.getD (off + i) 0 = x0 at *
  obtain ⟨x,rfl⟩ : ∃ x : Nat,x0 = x:=⟨x0.toNat,by omega⟩
  rw [Int.toNat_natCast] at hut
  conv=>whnf
  rw [show ((n : Int) * (w : Int)) = ((n * w : Nat) : Int) from (Int.natCast_mul n w).symm,wrap_u64 (n:=((n * w : Nat) : Int)) (by omega) (by omega)]
  rw [show ((c : Int) + ((n * w : Nat) : Int)) = ((c + n * w : Nat) : Int) from (Int.natCast_add c (n * w)).symm,wrap_u64 (n:=((c + n * w : Nat) : Int)) (by omega) (by omega)]
  generalize hC : c + n * w = C at *
  conv=>whnf
  refine ⟨⟨Int.natCast_nonneg _,Int.ofNat_lt.2 hlt⟩,?_⟩
  conv=>whnf
  refine aidxN' 0 (i:=off + i) (by omega) hi2 ?_
  rw [hg]
  refine ⟨rfl,?_⟩
  conv=>whnf
  rw [wrapu32_mod (a:=C),wrap_u64 (n:=(x : Int)) (by omega) (by omega)]
  have hCd:=Nat.mod_add_div C 4294967296
  have hlo : C % 4294967296 < 4294967296:=Nat.mod_lt _ (by decide)
  generalize C % 4294967296 = lo at *
  rw [wrap_u64 (n:=(lo : Int)) (by omega) (by omega)]
  obtain ⟨D,hD,hD1,hD2,hD3⟩:=sub_word (x:=x) (low:=lo) (b:=b) (by omega) (by omega) hb
  rw [hD,wrapu32_mod (a:=D)]
  have hy : D % 4294967296 < 4294967296:=Nat.mod_lt _ (by decide)
  generalize D % 4294967296 = y at *
  refine ⟨⟨Int.natCast_nonneg _,Int.ofNat_lt.2 hlt⟩,?_⟩
  dsimp only [putE]
  rw [aops]
  dsimp only [guardC]
  dsimp only [aopW,aop]
  conv=>whnf
  refine ⟨by rw [List.length_map]; omega,rfl,?_⟩
  conv=>whnf
  refine ⟨by decide,?_⟩
  rw [shr_63]
  conv=>whnf
  refine ⟨by decide,?_⟩
  rw [shr_word rfl]
  conv=>whnf
  refine zA ?_;conv=>whnf
  refine ⟨(i + 1,C / 4294967296,D / 9223372036854775808,s ++ [(y : Int)],M.set (off + i) (y : Int)),?_,?_,?_⟩
  ·refine ⟨hlt,hD2,?_,hws.append (Ws.cons (by omega) Ws.nil),by simp [hsl],?_,?_⟩
   ·show C / 4294967296 = n * val (v.take (i + 1)) / 4294967296 ^ (i + 1)
    rw [hvt,Nat.mul_add,Nat.mul_left_comm n,Nat.pow_succ,← hC]
    exact carry_step (Nat.pow_pos (by omega)) hc
   ·show M.set (off + i) (y : Int) = mid us off (s ++ [(y : Int)])
    rw [hM,← hsl]
    exact mid_set (by omega)
   ·show val ((us.drop off).take (i + 1)) + 4294967296 ^ (i + 1) * (D / 9223372036854775808 + C / 4294967296) = val (s ++ [(y : Int)]) + n * val (v.take (i + 1))
    have e1 : val (s ++ [(y : Int)]) = val s + 4294967296 ^ i * y:=by rw [val_append,hsl]; simp [val]
    rw [hut,hvt,e1,Nat.mul_add n,Nat.mul_left_comm n,Nat.pow_succ]
    exact take_arith hD3 (by omega) hv
  ·refine ⟨?_,.mk ?_ ⟨by simp,trivial⟩⟩
   ·all_goals exact wk
   ·repeat' first|exact rfl|exact trivial|exact wR|exact lR _|apply aI
    refine leRL_of ?_
    rw [List.map_set]
    simp [strip]
  ·show v.length + 1 - (i + 1) < v.length + 1 - i
   omega
 ·have hia : i = v.length + 1:=by omega
  subst hia
  rw [List.take_of_length_le (l:=v) (by omega)] at hc hv
  rw [Nat.div_eq_of_lt hlim] at hc
  subst hc
  have hsg:=val_lt ((hus.drop off).take (v.length + 1))
  rw [List.length_take,List.length_drop,Nat.min_eq_left (by omega)] at hsg
  have hvs:=val_lt hws
  rw [hsl] at hvs
  have hfin : (((b : Int) = 1) = (val ((us.drop off).take (v.length + 1)) < n * val v)) ∧ val s = takeN (val ((us.drop off).take (v.length + 1))) (n * val v) (v.length + 1):=by
   unfold takeN
   generalize val ((us.drop off).take (v.length + 1)) = sg at *
   generalize 4294967296 ^ (v.length + 1) = P at *
   generalize n * val v = nv at *
   have hb2 : b = 0 ∨ b = 1:=by omega
   rcases hb2 with rfl | rfl
   ·rw [Nat.add_zero,Nat.mul_zero] at hv
    refine ⟨?_,?_⟩
    ·exact propext ⟨fun h=>by omega,fun h=>by omega⟩
    ·split <;> omega
   ·rw [Nat.add_zero,Nat.mul_one] at hv
    refine ⟨?_,?_⟩
    ·exact propext ⟨fun h=>by omega,fun h=>by omega⟩
    ·split <;> omega
  have hse:=wdN_eq hws hsl hfin.2
  conv=>whnf
  refine ⟨⟨_,_,.refl _ _,?_⟩⟩
  conv=>whnf
  refine ⟨?_,rfl,by simp [nextId],.mk ?_ ⟨by simp,trivial⟩⟩
  ·rw [hfin.1]
   exact le_refl _
  ·repeat' first|exact rfl|exact trivial|exact wR|exact lR _|apply aI
   refine leRL_of ?_
   rw [hM,hse]

theorem give_arith {p B c c' x w y vs s nv : Nat} (h1 : c + (x + w) = y + B * c') (h : vs + nv = s + p * c) :
  vs + p * x + (nv + p * w) = s + p * y + p * B * c':=by
 have e1 : p * (c + (x + w)) = p * (y + B * c'):=by rw [h1]
 rw [Nat.mul_add,Nat.mul_add,Nat.mul_add,← Nat.mul_assoc] at e1
 omega

theorem c_give (us v : List Int) (off cap : Nat) (hus : Ws us) (ho : off + v.length + 1 ≤ us.length) (hsz : us.length ≤ 2000000) :
  FnH Tryz.prog 281 [.ms 0 off (v.length + 1) cap 1,wL v] [(0,.arr 1 us.length (us.map (.int .u32)))]
   (.tup [])
   [(0,.arr 1 us.length ((mid us off (wdN (v.length + 1) ((val ((us.drop off).take (v.length + 1)) + val v) % 4294967296 ^ (v.length + 1)))).map (.int .u32)))]:=by
 refine FnH.intro lay mixed Tryz.func281 (by kernel_rfl) rfl (by kernel_rfl) rfl fun hok=>?_
 have hw : Ws v:=Ws.ok hok.2.1.2
 conv=>whnf
 refine LoopE.of <| LoopSpec.inv (.refl _ _) (fun x : Nat × Nat × List Int × List Int=>x.1 ≤ v.length + 1 ∧ x.2.1 ≤ 1 ∧ Ws x.2.2.1 ∧ x.2.2.1.length = x.1 ∧ x.2.2.2 = mid us off x.2.2.1 ∧
   val ((us.drop off).take x.1) + val (v.take x.1) = val x.2.2.1 + 4294967296 ^ x.1 * x.2.1)
  (fun | (i,c,_)=>[(8,.int .i64 i),(4,.int .u64 c)]) (fun | (_,_,_,M)=>[(0,.arr 1 us.length (M.map (.int .u32)))])
  (fun x=>v.length + 1 - x.1) (0,0,[],us) ?_ (fun _=>rfl) ?_ ?_
 ·refine ⟨Nat.zero_le _,by simp,Ws.nil,rfl,?_,?_⟩
  ·simp [mid_nil]
  ·simp [val]
 ·refine ⟨?_,.mk ?_ ⟨by simp,trivial⟩⟩
  ·all_goals exact wk
  ·repeat' first|exact rfl|exact trivial|exact wR|exact lR _|apply aI
   all_goals first | (simp; done) | exact leRL_of (by simp)
 rintro ⟨i,c,s,M⟩ ⟨hi,hb,hws,hsl,hM,hv⟩ _
 simp only at hi hb hws hsl hM hv
 conv=>whnf
 refine And.intro (fun h=>?_) (fun h=>?_)
 ·have hlt : i < v.length + 1:=by omega
  have hML : M.length = us.length:=by rw [hM,mid_len (by omega)]
  have hwd:=hw.getD (i:=i)
  have hvt:=val_take_getD (l:=v) (i:=i)
  have cw:=c_word v i
  generalize v.getD i 0 = w0 at *
  obtain ⟨w,rfl⟩ : ∃ w : Nat,w0 = w:=⟨w0.toNat,by omega⟩
  rw [Int.toNat_natCast] at hvt
  have hi2 : off + i < M.length:=by omega
  have hg : M.getD (off + i) 0 = us.getD (off + i) 0:=by rw [hM,← hsl]; exact mid_get (by omega)
  have hx:=hus.getD (i:=off + i)
  have hut:=val_take_getD (l:=us.drop off) (i:=i)
  rw [show (us.drop off).getD i 0 = us.getD (off + i) 0 by simp only [List.getD_eq_getElem?_getD,List.getElem?_drop]] at hut
  generalize us.getD (off + i) 0 = x0 at *
  obtain ⟨x,rfl⟩ : ∃ x : Nat,x0 = x:=⟨x0.toNat,by omega⟩
  rw [Int.toNat_natCast] at hut
  conv=>whnf
  refine ADraw.auto (by kernel_rfl) ?_;conv=>whnf
  refine ⟨⟨Int.natCast_nonneg _,Int.ofNat_lt.2 hlt⟩,?_⟩
  conv=>whnf
  refine aidxN' 0 (i:=off + i) (by omega) hi2 ?_
  rw [hg]
  refine ⟨rfl,?_⟩
  conv=>whnf
  refine ACallP.pure _ _ ?_ ⟨rfl,rfl⟩ cw ?_
  ·exact leL_refl _
  conv=>whnf
  rw [wrap_u64 (n:=(x : Int)) (by omega) (by omega)]
  rw [show ((x : Int) + (w : Int)) = ((x + w : Nat) : Int) from (Int.natCast_add x w).symm,wrap_u64 (n:=((x + w : Nat) : Int)) (by omega) (by omega)]
  rw [show ((c : Int) + ((x + w : Nat) : Int)) = ((c + (x + w) : Nat) : Int) from (Int.natCast_add c (x + w)).symm,wrap_u64 (n:=((c + (x + w) : Nat) : Int)) (by omega) (by omega)]
  generalize hC : c + (x + w) = C at *
  conv=>whnf
  rw [wrapu32_mod (a:=C)]
  have hCd:=Nat.mod_add_div C 4294967296
  have hlo : C % 4294967296 < 4294967296:=Nat.mod_lt _ (by decide)
  generalize C % 4294967296 = y at *
  refine ⟨⟨Int.natCast_nonneg _,Int.ofNat_lt.2 hlt⟩,?_⟩
  dsimp only [putE]
  rw [aops]
  dsimp only [guardC]
  dsimp only [aopW,aop]
  conv=>whnf
  refine ⟨by rw [List.length_map]; omega,rfl,?_⟩
  conv=>whnf
  refine ⟨by decide,?_⟩
  rw [shr_word rfl]
  conv=>whnf
  refine zA ?_;conv=>whnf
  refine ⟨(i + 1,C / 4294967296,s ++ [(y : Int)],M.set (off + i) (y : Int)),?_,?_,?_⟩
  ·refine ⟨hlt,(by omega : C / 4294967296 ≤ 1),hws.append (Ws.cons (by omega) Ws.nil),by simp [hsl],?_,?_⟩
   ·show M.set (off + i) (y : Int) = mid us off (s ++ [(y : Int)])
    rw [hM,← hsl]
    exact mid_set (by omega)
   ·show val ((us.drop off).take (i + 1)) + val (v.take (i + 1)) = val (s ++ [(y : Int)]) + 4294967296 ^ (i + 1) * (C / 4294967296)
    have e1 : val (s ++ [(y : Int)]) = val s + 4294967296 ^ i * y:=by rw [val_append,hsl]; simp [val]
    rw [hut,hvt,e1,Nat.pow_succ]
    exact give_arith (by omega) hv
  ·refine ⟨?_,.mk ?_ ⟨by simp,trivial⟩⟩
   ·all_goals exact wk
   ·repeat' first|exact rfl|exact trivial|exact wR|exact lR _|apply aI
    refine leRL_of ?_
    rw [List.map_set]
    simp [strip]
  ·show v.length + 1 - (i + 1) < v.length + 1 - i
   omega
 ·have hia : i = v.length + 1:=by omega
  subst hia
  rw [List.take_of_length_le (l:=v) (by omega)] at hv
  have hvs:=val_lt hws
  rw [hsl] at hvs
  have hfin : val s = (val ((us.drop off).take (v.length + 1)) + val v) % 4294967296 ^ (v.length + 1):=by
   rw [hv,Nat.add_mul_mod_self_left,Nat.mod_eq_of_lt hvs]
  have hse:=wdN_eq hws hsl hfin
  conv=>whnf
  refine ⟨⟨_,_,.refl _ _,?_⟩⟩
  conv=>whnf
  refine ⟨trivial,rfl,by simp [nextId],.mk ?_ ⟨by simp,trivial⟩⟩
  repeat' first|exact rfl|exact trivial|exact wR|exact lR _|apply aI
  refine leRL_of ?_
  rw [hM,hse]

theorem guess_gt {B p V s top next head u2 guess rest : Nat} (hV : (top * B + next) * p ≤ V) (hs : s < (head * B + u2 + 1) * p)
  (hg : guess * top + rest = head) (hc : rest * B + u2 < guess * next) : s / V < guess:=by
 apply Classical.byContradiction
 intro hn
 have h1 : guess * V ≤ s:=by
  have : guess * V ≤ (s / V) * V:=Nat.mul_le_mul_right _ (by omega)
  exact Nat.le_trans this (Nat.div_mul_le_self s V)
 have h2 : guess * ((top * B + next) * p) < (head * B + u2 + 1) * p:=Nat.lt_of_le_of_lt (Nat.le_trans (Nat.mul_le_mul_left _ hV) h1) hs
 rw [← Nat.mul_assoc] at h2
 have h3:=Nat.lt_of_mul_lt_mul_right h2
 have h4 : guess * (top * B + next) = guess * top * B + guess * next:=by rw [Nat.mul_add,Nat.mul_assoc]
 have h5 : head * B = guess * top * B + rest * B:=by rw [← hg,Nat.add_mul]
 omega

theorem guess_ge {p V s top head : Nat} (ht : 0 < top) (hV : top * p ≤ V) (hs : s < (head + 1) * p) : s / V ≤ head / top:=by
 rw [Nat.le_div_iff_mul_le ht]
 apply Classical.byContradiction
 intro hn
 have h1 : (head + 1) * p ≤ s / V * top * p:=Nat.mul_le_mul_right _ (by omega)
 have h2 : s / V * top * p ≤ s / V * V:=by rw [Nat.mul_assoc]; exact Nat.mul_le_mul_left _ hV
 have h3:=Nat.div_mul_le_self s V
 omega

theorem guess_le {B p V s top next head u2 guess rest : Nat} (hB : 0 < B) (hp : 0 < p) (ht : 0 < top) (hV1 : (top * B + next) * p ≤ V) (hV : V < (top * B + next + 1) * p) (hs : (head * B + u2) * p ≤ s)
  (hg : guess * top + rest = head) (hc : guess * next ≤ rest * B + u2) (hgB : guess < B) : guess ≤ s / V + 1:=by
 have hV0 : 0 < V:=by
  have : 0 < (top * B + next) * p:=Nat.mul_pos (by have:=Nat.mul_pos ht hB; omega) hp
  omega
 have h1 : guess * (top * B + next) ≤ head * B + u2:=by
  have h4 : guess * (top * B + next) = guess * top * B + guess * next:=by rw [Nat.mul_add,Nat.mul_assoc]
  have h5 : head * B = guess * top * B + rest * B:=by rw [← hg,Nat.add_mul]
  omega
 have h2 : guess * (top * B + next) * p ≤ s:=Nat.le_trans (Nat.mul_le_mul_right _ h1) hs
 have h3 : guess * V ≤ guess * ((top * B + next + 1) * p):=Nat.mul_le_mul_left _ (by omega)
 have h4 : guess * ((top * B + next + 1) * p) = guess * (top * B + next) * p + guess * p:=by
  rw [← Nat.mul_assoc,Nat.mul_add guess _ 1,Nat.mul_one,Nat.add_mul]
 have h5 : guess * p < V:=by
  have h6 : guess * p < B * p:=Nat.mul_lt_mul_of_pos_right hgB hp
  have h7 : B * p ≤ (top * B + next) * p:=Nat.mul_le_mul_right _ (by have:=Nat.le_mul_of_pos_left B ht; omega)
  omega
 have h6 : guess * V < s + V:=by omega
 have h8 : guess < s / V + 1 + 1:=by
  have h9:=Nat.lt_div_mul_add (a:=s) hV0
  have h10 : guess * V < (s / V + 1 + 1) * V:=by
   rw [Nat.add_mul,Nat.add_mul,Nat.one_mul]; omega
  exact Nat.lt_of_mul_lt_mul_right h10
 omega

theorem guess_small {B top head guess rest : Nat} (hg : guess * top + rest = head) (hh : head < (top + 1) * B) (hr : B ≤ rest) : guess < B:=by
 have h1 : guess * top < top * B:=by rw [Nat.add_mul,Nat.one_mul] at hh; omega
 rw [Nat.mul_comm top] at h1
 exact Nat.lt_of_mul_lt_mul_right h1

theorem take_fix {V s g q : Nat} (hV : 0 < V) (hq : q = s / V) (h1 : q ≤ g) (h2 : g ≤ q + 1) : (s < g * V) = (g = q + 1):=by
 subst hq
 have h3:=Nat.div_mul_le_self s V
 have h4:=Nat.lt_div_mul_add (a:=s) hV
 refine propext ⟨fun h=>?_,fun h=>?_⟩
 ·apply Classical.byContradiction
  intro hn
  have : g = s / V:=by omega
  rw [this] at h; omega
 ·rw [h,Nat.add_mul,Nat.one_mul]; omega

theorem take_rest {V s q k : Nat} (hq : q = s / V) : takeN s (q * V) k = s % V:=by
 subst hq
 have h3:=Nat.div_mul_le_self s V
 have h4:=Nat.div_add_mod s V
 rw [Nat.mul_comm] at h4
 unfold takeN
 rw [if_neg (by omega)]
 omega

theorem give_rest {V s q k : Nat} (hV : 0 < V) (hq : q = s / V) (hs : V < 4294967296 ^ k) : (takeN s ((q + 1) * V) k + V) % 4294967296 ^ k = s % V:=by
 subst hq
 have h3:=Nat.div_mul_le_self s V
 have h4:=Nat.div_add_mod s V
 have h5:=Nat.lt_div_mul_add (a:=s) hV
 rw [Nat.mul_comm] at h4
 have hm:=Nat.mod_lt s hV
 unfold takeN
 rw [Nat.add_mul,Nat.one_mul,if_pos (by omega)]
 generalize s / V * V = x at *
 generalize s % V = r at *
 generalize 4294967296 ^ k = P at *
 rw [show s + P - (x + V) + V = r + P by omega,Nat.add_mod_right,Nat.mod_eq_of_lt (by omega)]

theorem mid_drop {us s : List Int} {off : Nat} (h : off + s.length ≤ us.length) : (mid us off s).drop off = s ++ us.drop (off + s.length):=by
 simp only [mid]
 rw [List.drop_append_of_le_length (by simp; omega),List.drop_eq_nil_of_le (by simp; omega),List.nil_append]

theorem mid_val {us s : List Int} {off : Nat} (h : off + s.length ≤ us.length) :
  val (mid us off s) + 4294967296 ^ off * val ((us.drop off).take s.length) = val us + 4294967296 ^ off * val s:=by
 have e1 : val us = val (us.take off) + 4294967296 ^ off * val (us.drop off):=val_take_drop off (by omega)
 have e2 : val (us.drop off) = val ((us.drop off).take s.length) + 4294967296 ^ s.length * val ((us.drop off).drop s.length):=val_take_drop s.length (by simp; omega)
 have e3 : val (mid us off s) = val (us.take off) + 4294967296 ^ off * (val s + 4294967296 ^ s.length * val ((us.drop off).drop s.length)):=by
  simp only [mid]
  rw [val_append,val_append,List.drop_drop,List.length_take,Nat.min_eq_left (by omega)]
 rw [e3,e1,e2,Nat.mul_add,Nat.mul_add]
 omega

theorem val_three {l : List Int} {n : Nat} (hl : l.length = n + 3) : val l = val (l.take n) + 4294967296 ^ n * ((l.getD n 0).toNat + 4294967296 * ((l.getD (n + 1) 0).toNat + 4294967296 * (l.getD (n + 2) 0).toNat)):=by
 rw [val_take_drop n (by omega),val_hd l n,val_hd l (n + 1),val_hd l (n + 1 + 1),List.drop_eq_nil_of_le (by omega : l.length ≤ n + 1 + 1 + 1)]
 rfl

theorem val_two {l : List Int} {n : Nat} (hl : l.length = n + 2) : val l = val (l.take n) + 4294967296 ^ n * ((l.getD n 0).toNat + 4294967296 * (l.getD (n + 1) 0).toNat):=by
 rw [val_take_drop n (by omega),val_hd l n,val_hd l (n + 1),List.drop_eq_nil_of_le (by omega : l.length ≤ n + 1 + 1)]
 rfl

theorem take_lt {l : List Int} (hw : Ws l) (n : Nat) : val (l.take n) < 4294967296 ^ n:=by
 have h1:=val_lt (hw.take n)
 have h2 : 4294967296 ^ (l.take n).length ≤ 4294967296 ^ n:=Nat.pow_le_pow_right (by omega) (by simp; omega)
 omega

theorem between {r p x : Nat} (h : r < p) : x * p ≤ r + p * x ∧ r + p * x < (x + 1) * p:=by
 rw [Nat.mul_comm x p,Nat.add_mul,Nat.one_mul,Nat.mul_comm x p]; omega

structure DivInv (U V n L : Nat) (j : Nat) (M Q : List Int) : Prop where
 jle : j ≤ L - n
 wm : Ws M
 lm : M.length = L
 wq : Ws Q
 lq : Q.length = L - n
 lt : val (M.drop j) < V
 eq : val M + V * val Q = U
 z : ∀ k,k < j → Q.getD k 0 = 0

theorem DivInv.seg {U V n L j : Nat} {M Q : List Int} (h : DivInv U V n L (j + 1) M Q) (hn : n ≤ L) (hV : V < 4294967296 ^ n) :
  val ((M.drop j).take (n + 1)) = val (M.drop j) ∧ val (M.drop j) < 4294967296 * V ∧ val (M.drop (j + (n + 1))) = 0:=by
 have h1:=val_hd M j
 have h2:=h.wm.getD (i:=j)
 have h3:=h.lt
 have hj:=h.jle
 have hlt : val (M.drop j) < 4294967296 * V:=by omega
 have h4 : val (M.drop j) < 4294967296 ^ (n + 1):=by
  rw [Nat.pow_succ]
  have : V * 4294967296 < 4294967296 ^ n * 4294967296:=Nat.mul_lt_mul_of_pos_right hV (by omega)
  omega
 have h5:=val_take_drop (l:=M.drop j) (n + 1) (by rw [List.length_drop,h.lm]; omega)
 rw [List.drop_drop] at h5
 have h6 : val (M.drop (j + (n + 1))) = 0:=by
  apply Classical.byContradiction
  intro hne
  have : 4294967296 ^ (n + 1) * 1 ≤ 4294967296 ^ (n + 1) * val (M.drop (j + (n + 1))):=Nat.mul_le_mul_left _ (by omega)
  omega
 rw [h6,Nat.mul_zero,Nat.add_zero] at h5
 exact ⟨h5.symm,hlt,h6⟩

theorem DivInv.step {U V n L j : Nat} {M Q : List Int} (h : DivInv U V n L (j + 1) M Q) (hn : n ≤ L) (hV0 : 0 < V) (hV : V < 4294967296 ^ n) :
  DivInv U V n L j (mid M j (wdN (n + 1) (val (M.drop j) % V))) (Q.set j ((val (M.drop j) / V : Nat) : Int)):=by
 obtain ⟨h1,h2,h3⟩:=h.seg hn hV
 have hj:=h.jle
 have hq : val (M.drop j) / V < 4294967296:=by rw [Nat.div_lt_iff_lt_mul hV0]; omega
 have hr : val (M.drop j) % V < V:=Nat.mod_lt _ hV0
 have hdm:=Nat.div_add_mod (val (M.drop j)) V
 generalize hs : val (M.drop j) = s at *
 generalize s / V = q at *
 generalize s % V = r at *
 have hwl : (wdN (n + 1) r).length = n + 1:=wdN_len _ _
 have hwv : val (wdN (n + 1) r) = r:=val_wdN (by rw [Nat.pow_succ]; omega)
 have hml : j + (wdN (n + 1) r).length ≤ M.length:=by rw [hwl,h.lm]; omega
 have hjq : j < Q.length:=by rw [h.lq]; omega
 refine ⟨by omega,mid_Ws h.wm (wdN_Ws _ _),by rw [mid_len hml,h.lm],h.wq.set (by omega),by simpa using h.lq,?_,?_,?_⟩
 ·rw [mid_drop hml,val_append,hwv,hwl,h3,Nat.mul_zero]; omega
 ·have e1:=mid_val hml
  rw [hwl,h1,hwv] at e1
  have e2:=val_set (x:=(q : Int)) hjq
  have e3:=h.z j (by omega)
  rw [getD_lt' hjq] at e3
  rw [e3] at e2
  have e4:=h.eq
  have e5 : V * val (Q.set j (q : Int)) = V * val Q + 4294967296 ^ j * (V * q):=by
   have : val (Q.set j (q : Int)) = val Q + 4294967296 ^ j * q:=by simpa using e2
   rw [this,Nat.mul_add,Nat.mul_left_comm]
  rw [e5]
  have e6 : 4294967296 ^ j * s = 4294967296 ^ j * (V * q) + 4294967296 ^ j * r:=by rw [← Nat.mul_add,hdm]
  omega
 ·intro k hk
  have:=h.z k (by omega)
  rw [List.getD_eq_getElem?_getD] at this ⊢
  rw [List.getElem?_set_ne (by omega)]
  exact this

theorem DivInv.fin {U V n L : Nat} {M Q : List Int} (h : DivInv U V n L 0 M Q) : val Q = U / V ∧ val M = U % V:=by
 have h1:=h.lt
 have h2:=h.eq
 rw [List.drop_zero] at h1
 have hV : 0 < V:=by omega
 rw [← h2]
 constructor
 ·rw [Nat.add_mul_div_left _ _ hV,Nat.div_eq_of_lt h1,Nat.zero_add]
 ·rw [Nat.add_mul_mod_self_left,Nat.mod_eq_of_lt h1]

theorem DivInv.init {x V n L : Nat} {k : Nat} (hx : x < 4294967296 ^ (L - 1) * 2 ^ k) (hn : n ≤ L) (hn1 : 1 ≤ n) (hk : k < 32) (hV : 4294967296 ^ (n - 1) * 2 ^ k ≤ V) :
  DivInv x V n L (L - n) (wdN L x) (List.replicate (L - n) 0):=by
 have hk2 : 2 ^ k ≤ 4294967296:=Nat.le_trans (Nat.pow_le_pow_right (by omega) (show k ≤ 32 by omega)) (by decide)
 have hxl : x < 4294967296 ^ L:=by
  have h1 : 4294967296 ^ (L - 1) * 2 ^ k ≤ 4294967296 ^ (L - 1) * 4294967296:=Nat.mul_le_mul_left _ hk2
  rw [← Nat.pow_succ,show (L - 1).succ = L by omega] at h1
  omega
 refine ⟨Nat.le_refl _,wdN_Ws _ _,wdN_len _ _,?_,by simp,?_,?_,?_⟩
 ·intro y hy
  rw [(List.mem_replicate.1 hy).2]; omega
 ·rw [← val_drop (wdN_Ws _ _),val_wdN hxl]
  have h2 : x < 4294967296 ^ (L - n) * V:=by
   have h3 : 4294967296 ^ (L - n) * (4294967296 ^ (n - 1) * 2 ^ k) ≤ 4294967296 ^ (L - n) * V:=Nat.mul_le_mul_left _ hV
   rw [← Nat.mul_assoc,← Nat.pow_add,show L - n + (n - 1) = L - 1 by omega] at h3
   omega
  rw [Nat.div_lt_iff_lt_mul (Nat.pow_pos (by omega)),Nat.mul_comm]
  exact h2
 ·rw [val_wdN hxl,val_zeros (fun y hy=>(List.mem_replicate.1 hy).2),Nat.mul_zero,Nat.add_zero]
 ·intro i _
  rw [List.getD_eq_getElem?_getD,List.getElem?_replicate]
  split <;> rfl

def blen (x : Nat) : Nat:=if x = 0 then 0 else x.log2 + 1

theorem blen_pow {x l : Nat} (h1 : 2 ^ l ≤ x) (h2 : x < 2 ^ (l + 1)) : blen x = l + 1:=by
 have hx : x ≠ 0:=by have:=Nat.two_pow_pos l; omega
 unfold blen
 rw [if_neg hx,(Nat.log2_eq_iff hx).2 ⟨h1,h2⟩]

theorem blen_spec {x : Nat} (hx : x ≠ 0) : ∃ l,blen x = l + 1 ∧ 2 ^ l ≤ x ∧ x < 2 ^ (l + 1):=by
 refine ⟨x.log2,by unfold blen; rw [if_neg hx],(Nat.log2_eq_iff hx).1 rfl⟩

theorem blen_div {x k : Nat} (h : 2 ^ k ≤ x) : blen x = blen (x / 2 ^ k) + k:=by
 have hk:=Nat.two_pow_pos k
 have h0 : x / 2 ^ k ≠ 0:=by
  have:=(Nat.le_div_iff_mul_le hk (x:=1) (y:=x)).2 (by omega)
  omega
 obtain ⟨l,h1,h2,h3⟩:=blen_spec h0
 have:=blen_pow (x:=x) (l:=l + k) (by
  rw [Nat.le_div_iff_mul_le hk] at h2
  rw [Nat.pow_add]; exact h2) (by
  rw [Nat.div_lt_iff_lt_mul hk] at h3
  rw [show l + k + 1 = l + 1 + k by omega,Nat.pow_add]; exact h3)
 rw [this,h1]; omega

theorem blen_lt {x n : Nat} (h : x < 2 ^ n) : blen x ≤ n:=by
 by_cases hx : x = 0
 ·subst hx; simp [blen]
 ·obtain ⟨l,h1,h2,_⟩:=blen_spec hx
  have : 2 ^ l < 2 ^ n:=by omega
  have:=(Nat.pow_lt_pow_iff_right (a:=2) (by omega)).1 this
  omega

theorem aidxT {T : List UInt8} {x : Nat} {n : Int} {k : UInt8 → Prop} (hT : ((List.range 256).all fun i=>T[i]? == some (UInt8.ofNat (blen i))) = true) (hn : n = x) (hx : x < 256) (hk : k (UInt8.ofNat (blen x))) : AIdx T n k:=by
 subst hn
 refine ⟨⟨_,⟨Int.natCast_nonneg _,?_⟩,hk⟩⟩
 have:=List.all_eq_true.1 hT x (by simpa using hx)
 simpa using this

theorem shr_u32 {a n : Nat} (hn : n < 32) : shrR .u32 (a : Int) (n : Int) = ((a / 2 ^ n : Nat) : Int):=by
 unfold shrR
 have h1 : min (n : Int).toNat (IntKind.bits .u32) = n:=by show min n 32 = n; omega
 rw [h1]
 rw [Int.fdiv_eq_ediv_of_nonneg _ (by have:=Int.pow_pos (n:=(2 : Int)) (m:=n) (by decide); omega)]
 simp

theorem c_len32 (x : Nat) (hx : x < 4294967296) : FnH Tryz.prog 290 [.int .u32 x] [] (.int .i64 (blen x)) []:=by
 refine FnH.intro lay mixed Tryz.func290 (by kernel_rfl) rfl (by kernel_rfl) rfl fun hok=>?_
 conv=>whnf
 refine And.intro (fun n1=>?_) (fun n1=>?_)
 ·have k1:=blen_div (x:=x) (k:=16) (by omega)
  conv=>whnf
  refine ⟨by decide,?_⟩
  rw [show shrR .u32 (x : Int) 16 = ((x / 2 ^ 16 : Nat) : Int) from shr_u32 (n:=16) (by omega)]
  generalize hz : x / 2 ^ 16 = z at *
  have hz : z < 65536:=by omega
  conv=>whnf
  refine And.intro (fun n2=>?_) (fun n2=>?_)
  ·have k2:=blen_div (x:=z) (k:=8) (by omega)
   conv=>whnf
   refine ⟨by decide,?_⟩
   rw [show shrR .u32 (z : Int) 8 = ((z / 2 ^ 8 : Nat) : Int) from shr_u32 (n:=8) (by omega)]
   generalize hy : z / 2 ^ 8 = y at *
   have hy : y < 256:=by omega
   conv=>whnf
   refine zA ?_;conv=>whnf
   conv=>whnf
   refine aidxT (x:=y) (by decide +kernel) ?_ hy ?_
   ·simp [IntKind.wrap,IntKind.bits,IntKind.signed]; omega
   have hb8:=blen_lt (x:=y) (n:=8) (by omega)
   rw [show ((UInt8.ofNat (blen y)).toNat : Int) = (blen y : Int) by rw [UInt8.toNat_ofNat']; omega]
   conv=>whnf
   rw [wrap64 (n:=(blen y : Int)) (by omega) (by omega)]
   refine zA ?_;conv=>whnf
   refine fM ?_;(conv=>whnf);refine ⟨?_,rfl⟩;conv=>whnf
   refine ⟨rfl,?_⟩
   omega
  ·conv=>whnf
   refine aidxT (x:=z) (by decide +kernel) ?_ (by omega) ?_
   ·simp [IntKind.wrap,IntKind.bits,IntKind.signed]; omega
   have hb8:=blen_lt (x:=z) (n:=8) (by omega)
   rw [show ((UInt8.ofNat (blen z)).toNat : Int) = (blen z : Int) by rw [UInt8.toNat_ofNat']; omega]
   conv=>whnf
   rw [wrap64 (n:=(blen z : Int)) (by omega) (by omega)]
   refine zA ?_;conv=>whnf
   refine fM ?_;(conv=>whnf);refine ⟨?_,rfl⟩;conv=>whnf
   refine ⟨rfl,?_⟩
   omega
 ·conv=>whnf
  refine And.intro (fun n2=>?_) (fun n2=>?_)
  ·have k2:=blen_div (x:=x) (k:=8) (by omega)
   conv=>whnf
   refine ⟨by decide,?_⟩
   rw [show shrR .u32 (x : Int) 8 = ((x / 2 ^ 8 : Nat) : Int) from shr_u32 (n:=8) (by omega)]
   generalize hy : x / 2 ^ 8 = y at *
   have hy : y < 256:=by omega
   conv=>whnf
   refine zA ?_;conv=>whnf
   conv=>whnf
   refine aidxT (x:=y) (by decide +kernel) ?_ hy ?_
   ·simp [IntKind.wrap,IntKind.bits,IntKind.signed]; omega
   have hb8:=blen_lt (x:=y) (n:=8) (by omega)
   rw [show ((UInt8.ofNat (blen y)).toNat : Int) = (blen y : Int) by rw [UInt8.toNat_ofNat']; omega]
   conv=>whnf
   rw [wrap64 (n:=(blen y : Int)) (by omega) (by omega)]
   refine zA ?_;conv=>whnf
   refine fM ?_;(conv=>whnf);refine ⟨?_,rfl⟩;conv=>whnf
   refine ⟨rfl,?_⟩
   omega
  ·conv=>whnf
   refine aidxT (x:=x) (by decide +kernel) ?_ (by omega) ?_
   ·simp [IntKind.wrap,IntKind.bits,IntKind.signed]; omega
   have hb8:=blen_lt (x:=x) (n:=8) (by omega)
   rw [show ((UInt8.ofNat (blen x)).toNat : Int) = (blen x : Int) by rw [UInt8.toNat_ofNat']; omega]
   conv=>whnf
   rw [wrap64 (n:=(blen x : Int)) (by omega) (by omega)]
   refine zA ?_;conv=>whnf
   refine fM ?_;(conv=>whnf);refine ⟨?_,rfl⟩;conv=>whnf
   refine ⟨rfl,?_⟩
   omega

theorem c_lz32 (x : Nat) (hx : x < 4294967296) : FnH Tryz.prog 278 [.int .u32 x] [] (.int .i64 ((32 - blen x : Nat) : Int)) []:=by
 have hb:=blen_lt (x:=x) (n:=32) (by omega)
 refine FnH.intro lay mixed Tryz.func278 (by kernel_rfl) rfl (by kernel_rfl) rfl fun hok=>?_
 conv=>whnf
 refine .pure _ _ ?_ ⟨rfl,rfl⟩ (c_len32 x hx) fun _=>?_
 ·exact leL_refl _
 conv=>whnf
 refine zA ?_;conv=>whnf
 refine fM ?_;(conv=>whnf);refine ⟨?_,rfl⟩;conv=>whnf
 refine ⟨rfl,?_⟩
 omega

theorem c_leftP (a : List Int) (n : Nat) (hn : n < 32) (hsz : a.length ≤ 1000000) :
  FnH Tryz.prog 279 [wL a,.int .i64 n] [] (wL (wdN (a.length + 1) (val a * 2 ^ n))) []:=by
 have h:=(c_left a n hn hsz).cv (.freeze 0 0 0 (a.length + 1) (a.length + 1) (a.length + 1) 1 _ rfl rfl (by simp [wdN_len]) (.refl _ _)) rfl
 refine (h.heap (G:=[]) (.mk trivial trivial) (Nat.zero_le _) rfl).weak ?_
 refine ⟨rfl,leRL_of ?_⟩
 rw [List.drop_zero,List.take_of_length_le (by simp [wdN_len])]

theorem c_rightP (a : List Int) (n : Nat) (hn : n < 32) (hsz : a.length ≤ 1000000) :
  FnH Tryz.prog 282 [wL a,.int .i64 n] [] (wL (wdN a.length (val a / 2 ^ n))) []:=by
 have h:=(c_right a n hn hsz).cv (.freeze 0 0 0 a.length a.length a.length 1 _ rfl rfl (by simp [wdN_len]) (.refl _ _)) rfl
 refine (h.heap (G:=[]) (.mk trivial trivial) (Nat.zero_le _) rfl).weak ?_
 refine ⟨rfl,leRL_of ?_⟩
 rw [List.drop_zero,List.take_of_length_le (by simp [wdN_len])]

theorem wd_len_two {y : Nat} (h : 4294967296 ≤ y) : 2 ≤ (wd y).length:=by
 rw [wd_pos (by omega),wd_pos (n:=y / 4294967296) (by omega)]
 simp

theorem wdN_take : ∀ {k m x : Nat},k ≤ m → (wdN m x).take k = wdN k x
 | 0,_,_,_=>by simp [wdN]
 | k + 1,0,_,h=>by omega
 | k + 1,m + 1,x,h=>by simp only [wdN,List.take_succ_cons,wdN_take (k:=k) (m:=m) (by omega)]

theorem digit_arith {B p s V r3 r2 w2 w1 w0 top next : Nat} (t3 : r3 < p) (t2 : r2 < p) (hw0 : w0 < B) (hnext : next < B) (e3 : s = r3 + p * (w0 + B * (w1 + B * w2))) (e2 : V = r2 + p * (next + B * top)) (hV1 : p * B ≤ V) (hs2 : s < B * V) :
  1 ≤ top ∧ ((w2 * B + w1) * B + w0) * p ≤ s ∧ s < ((w2 * B + w1) * B + w0 + 1) * p ∧ (top * B + next) * p ≤ V ∧ V < (top * B + next + 1) * p ∧ w2 * B + w1 < (top + 1) * B ∧ s / V ≤ (w2 * B + w1) / top:=by
 have f1 : w0 + B * (w1 + B * w2) = (w2 * B + w1) * B + w0:=by rw [Nat.mul_comm B (w1 + B * w2),Nat.mul_comm B w2,Nat.add_comm w1,Nat.add_comm]
 have f2 : next + B * top = top * B + next:=by rw [Nat.mul_comm,Nat.add_comm]
 rw [f1] at e3
 rw [f2] at e2
 generalize hh : w2 * B + w1 = head at *
 have b3:=between (r:=r3) (p:=p) (x:=head * B + w0) t3
 have b2:=between (r:=r2) (p:=p) (x:=top * B + next) t2
 rw [← e3] at b3
 rw [← e2] at b2
 have htop1 : 1 ≤ top:=by
  apply Classical.byContradiction
  intro h0
  have h0 : top = 0:=by omega
  subst h0
  have h1 : (0 * B + next + 1) * p ≤ B * p:=Nat.mul_le_mul_right _ (by omega)
  rw [Nat.mul_comm p] at hV1
  omega
 have k0 : (top * B + next + 1) * p ≤ (top + 1) * B * p:=Nat.mul_le_mul_right _ (by rw [Nat.add_mul]; omega)
 have hhead : head < (top + 1) * B:=by
  have k1 : head * B * p ≤ (head * B + w0) * p:=Nat.mul_le_mul_right _ (by omega)
  have k2 : B * V ≤ B * ((top + 1) * B * p):=Nat.mul_le_mul_left _ (by omega)
  have h1 : head * B * p < B * ((top + 1) * B * p):=by omega
  have h2 : B * ((top + 1) * B * p) = (top + 1) * B * B * p:=by rw [Nat.mul_comm B,Nat.mul_assoc _ p B,Nat.mul_comm p B,← Nat.mul_assoc]
  rw [h2] at h1
  exact Nat.lt_of_mul_lt_mul_right (Nat.lt_of_mul_lt_mul_right h1)
 refine ⟨htop1,b3.1,b3.2,b2.1,b2.2,hhead,?_⟩
 refine guess_ge (p:=B * p) htop1 ?_ ?_
 ·have : top * (B * p) ≤ (top * B + next) * p:=by rw [← Nat.mul_assoc]; exact Nat.mul_le_mul_right _ (by omega)
  omega
 ·have : (head * B + w0 + 1) * p ≤ (head + 1) * (B * p):=by rw [← Nat.mul_assoc]; exact Nat.mul_le_mul_right _ (by rw [Nat.add_mul]; omega)
  omega

theorem digit_facts {U V n L k w2 w1 w0 top next : Nat} {M Q v : List Int} (hI : DivInv U V n L (k + 1) M Q) (hn2 : 2 ≤ n) (hnL : n + 1 ≤ L) (hk : k + 1 ≤ L - n) (hvl : v.length = n) (hvw : Ws v) (hvv : val v = V) (hV1 : 4294967296 ^ (n - 1) ≤ V)
  (ew2 : M.getD (k + n) 0 = (w2 : Int)) (ew1 : M.getD (k + n - 1) 0 = (w1 : Int)) (ew0 : M.getD (k + n - 2) 0 = (w0 : Int)) (htp : v.getD (n - 1) 0 = (top : Int)) (hnx : v.getD (n - 2) 0 = (next : Int)) :
  ∃ p,0 < p ∧ 1 ≤ top ∧ ((w2 * 4294967296 + w1) * 4294967296 + w0) * p ≤ val (M.drop k) ∧ val (M.drop k) < ((w2 * 4294967296 + w1) * 4294967296 + w0 + 1) * p ∧
    (top * 4294967296 + next) * p ≤ V ∧ V < (top * 4294967296 + next + 1) * p ∧ w2 * 4294967296 + w1 < (top + 1) * 4294967296 ∧ val (M.drop k) / V ≤ (w2 * 4294967296 + w1) / top:=by
 have hV2 : V < 4294967296 ^ n:=by rw [← hvv,← hvl]; exact val_lt hvw
 have hseg:=hI.seg (by omega) hV2
 have hML:=hI.lm
 have hwM:=hI.wm
 have htop:=hvw.getD (i:=n - 1)
 have hnext:=hvw.getD (i:=n - 2)
 have hw2:=hwM.getD (i:=k + n)
 have hw1:=hwM.getD (i:=k + n - 1)
 have hw0:=hwM.getD (i:=k + n - 2)
 rw [htp] at htop
 rw [hnx] at hnext
 rw [ew2] at hw2
 rw [ew1] at hw1
 rw [ew0] at hw0
 have e3:=val_three (l:=(M.drop k).take (n + 1)) (n:=n - 2) (by rw [List.length_take,List.length_drop,hML]; omega)
 have e2:=val_two (l:=v) (n:=n - 2) (by omega)
 have gt : ∀ i,i < n + 1 → ((M.drop k).take (n + 1)).getD i 0 = M.getD (k + i) 0:=by
  intro i hi
  rw [List.getD_eq_getElem?_getD,List.getElem?_take,if_pos hi,List.getElem?_drop,← List.getD_eq_getElem?_getD]
 rw [gt _ (by omega),gt _ (by omega),gt _ (by omega),show k + (n - 2) = k + n - 2 by omega,show k + (n - 2 + 1) = k + n - 1 by omega,show k + (n - 2 + 2) = k + n by omega,ew2,ew1,ew0,hseg.1] at e3
 rw [show n - 2 + 1 = n - 1 by omega,hnx,htp,hvv] at e2
 simp only [Int.toNat_natCast] at e3 e2
 have t3:=take_lt (l:=(M.drop k).take (n + 1)) ((hwM.drop _).take _) (n - 2)
 have t2:=take_lt hvw (n - 2)
 have hpp : 0 < 4294967296 ^ (n - 2):=Nat.pow_pos (by omega)
 have ep : 4294967296 ^ (n - 1) = 4294967296 ^ (n - 2) * 4294967296:=by rw [← Nat.pow_succ,show (n - 2).succ = n - 1 by omega]
 have hs2:=hseg.2.1
 rw [ep] at hV1
 generalize val (M.drop k) = s at *
 generalize val (((M.drop k).take (n + 1)).take (n - 2)) = r3 at *
 generalize val (v.take (n - 2)) = r2 at *
 generalize 4294967296 ^ (n - 2) = p at *
 exact ⟨p,hpp,digit_arith (B:=4294967296) t3 t2 (by omega) (by omega) e3 e2 hV1 hs2⟩

theorem mid_mid {us s t : List Int} {off : Nat} (h : off + s.length ≤ us.length) (hl : s.length = t.length) : mid (mid us off s) off t = mid us off t:=by
 have h1 : (mid us off s).take off = us.take off:=by
  simp only [mid]
  rw [List.take_append_of_le_length (by simp; omega),List.take_take,Nat.min_self]
 have h2 : (mid us off s).drop (off + t.length) = us.drop (off + t.length):=by
  rw [← List.drop_drop,mid_drop h,← hl,List.drop_left]
 have h3 : mid (mid us off s) off t = (mid us off s).take off ++ (t ++ (mid us off s).drop (off + t.length)):=rfl
 rw [h3,h1,h2]; rfl

theorem mid_part {us s : List Int} {off : Nat} (h : off + s.length ≤ us.length) : ((mid us off s).drop off).take s.length = s:=by
 rw [mid_drop h,List.take_left]

set_option maxHeartbeats 2000000 in
theorem div_large (x y : Nat) (hx : (wd x).length ≤ 999999) (hyl : (wd y).length ≤ 1000000) (hy : 4294967296 ≤ y) : DivC x y:=by
 unfold DivC
 have hyx : y ≤ x → (wd y).length ≤ (wd x).length:=wd_len_mono
 have hn2:=wd_len_two hy
 have c1:=c_trim (wd x) (by omega)
 rw [val_wd] at c1
 have c2:=c_trim (wd y) hyl
 rw [val_wd] at c2
 have c3:=c_Cmp (wd x) (wd y) (by omega) hyl
 rw [val_wd,val_wd] at c3
 have hwx:=wd_Ws x
 have hwy:=wd_Ws y
 have hvx:=val_wd x
 have hvy:=val_wd y
 have hpy:=wd_Pl y
 generalize ha : wd x = a at *
 generalize hb : wd y = b at *
 refine FnH.intro lay mixed Tryz.func248 (by kernel_rfl) rfl (by kernel_rfl) rfl fun hok=>?_
 conv=>whnf
 refine .pure _ _ ?_ ⟨rfl,rfl⟩ c1 fun _=>?_
 ·exact leL_refl _
 conv=>whnf
 refine .pure _ _ ?_ ⟨rfl,rfl⟩ c2 fun _=>?_
 ·exact leL_refl _
 conv=>whnf
 refine And.intro (fun h=>?_) (fun _=>?_)
 ·exfalso
  simp only [List.length_map] at h; omega
 conv=>whnf
 refine .pure _ _ ?_ ⟨rfl,rfl⟩ c3 fun _=>?_
 ·exact leL_refl _
 conv=>whnf
 refine And.intro (fun h=>?_) (fun h=>?_)
 ·have hlt : x < y:=by
   unfold cmpN at h
   split at h
   ·assumption
   ·split at h <;> omega
  conv=>whnf
  refine fM ?_;(conv=>whnf);refine ⟨?_,rfl⟩;conv=>whnf
  refine ⟨?_,?_,rfl,trivial⟩
  ·rw [Nat.div_eq_of_lt hlt,wd_zero]; rfl
  ·rw [Nat.mod_eq_of_lt hlt,ha]; exact le0_refl _
 have hxy : ¬ x < y:=by
  intro hlt
  unfold cmpN at h
  rw [if_pos hlt] at h
  omega
 have hle : y ≤ x:=by omega
 have hyx:=hyx hle
 conv=>whnf
 refine And.intro (fun h=>?_) (fun _=>?_)
 ·exfalso
  simp only [List.length_map] at h; omega
 conv=>whnf
 refine ⟨inr64 (by simp; omega) (by simp; omega),?_⟩
 conv=>whnf
 refine aidxN' 0 (i:=b.length - 1) (by simp; omega) (by omega) ?_
 have htb:=hwy.getD (i:=b.length - 1)
 have htn : b.getD (b.length - 1) 0 ≠ 0:=by
  rcases hpy with h | h
  ·rw [h] at hn2; simp at hn2
  ·rw [List.getLastD_eq_getLast?,List.getLast?_eq_getElem?] at h
   rw [List.getD_eq_getElem?_getD]; exact h
 generalize htt : b.getD (b.length - 1) 0 = tb0 at *
 obtain ⟨tb,rfl⟩ : ∃ tb : Nat,tb0 = tb:=⟨tb0.toNat,by omega⟩
 conv=>whnf
 refine .pure _ _ ?_ ⟨rfl,rfl⟩ (c_lz32 tb (by omega)) fun _=>?_
 ·exact leL_refl _
 obtain ⟨l,hl1,hl2,hl3⟩:=blen_spec (x:=tb) (by omega)
 have hl4:=blen_lt (x:=tb) (n:=32) (by omega)
 obtain ⟨sh,hsh⟩ : ∃ sh,32 - blen tb = sh:=⟨_,rfl⟩
 rw [hsh]
 conv=>whnf
 refine .pure _ _ ?_ ⟨rfl,rfl⟩ (c_leftP b sh (by omega) (by omega)) fun _=>?_
 ·exact leL_refl _
 rw [hvy]
 conv=>whnf
 refine ⟨⟨by omega,by simp,by simp [wdN_len]; omega⟩,?_⟩
 -- the divisor, shifted
 have hV1 : 4294967296 ^ (b.length - 1) * 2 ^ sh ≤ y * 2 ^ sh:=Nat.mul_le_mul_right _ (by rw [← hvy]; exact val_pos_of_len hpy (by intro e; rw [e] at hn2; simp at hn2) hwy)
 have hp2:=Nat.two_pow_pos sh
 have hV2 : y * 2 ^ sh < 4294967296 ^ b.length:=by
  have e1:=val_take_drop (l:=b) (b.length - 1) (by omega)
  rw [val_hd b (b.length - 1),List.drop_eq_nil_of_le (by omega : b.length ≤ b.length - 1 + 1),htt,hvy] at e1
  have e2:=take_lt hwy (b.length - 1)
  have e3 : y < 4294967296 ^ (b.length - 1) * (tb + 1):=by
   rw [Nat.mul_add]
   simp only [Int.toNat_natCast,val,Nat.mul_zero,Nat.add_zero] at e1
   omega
  have e4 : (tb + 1) * 2 ^ sh ≤ 4294967296:=by
   have : (tb + 1) * 2 ^ sh ≤ 2 ^ (l + 1) * 2 ^ sh:=Nat.mul_le_mul_right _ (by omega)
   rw [← Nat.pow_add,show l + 1 + sh = 32 by omega] at this
   exact this
  have e5 : y * 2 ^ sh < 4294967296 ^ (b.length - 1) * (tb + 1) * 2 ^ sh:=Nat.mul_lt_mul_of_pos_right e3 hp2
  have e6 : 4294967296 ^ (b.length - 1) * ((tb + 1) * 2 ^ sh) ≤ 4294967296 ^ (b.length - 1) * 4294967296:=Nat.mul_le_mul_left _ e4
  rw [← Nat.pow_succ,show (b.length - 1).succ = b.length by omega,← Nat.mul_assoc] at e6
  omega
 have hcut : ((List.map (AV.int .u32) (wdN (b.length + 1) (y * 2 ^ sh))).drop (0 : Int).toNat).take ((((b.map (AV.int .u32)).length : Nat) : Int).toNat - (0 : Int).toNat) = (wdN b.length (y * 2 ^ sh)).map (AV.int .u32):=by
  simp only [List.length_map,Int.toNat_natCast,Int.toNat_zero,List.drop_zero,Nat.sub_zero,← List.map_take]
  rw [wdN_take (by omega)]
 rw [hcut]
 have hvw:=wdN_Ws b.length (y * 2 ^ sh)
 have hvl:=wdN_len b.length (y * 2 ^ sh)
 have hvv:=val_wdN hV2
 generalize wdN b.length (y * 2 ^ sh) = v at *
 have hxl:=val_lt hwx
 rw [hvx] at hxl
 have hinit:=DivInv.init (x:=x * 2 ^ sh) (V:=y * 2 ^ sh) (n:=b.length) (L:=a.length + 1) (k:=sh) (Nat.mul_lt_mul_of_pos_right hxl hp2) (by omega) (by omega) (by omega) hV1
 have hVpos : 4294967296 ^ (b.length - 1) ≤ y * 2 ^ sh:=Nat.le_trans (Nat.le_mul_of_pos_right _ hp2) hV1
 have hres : x * 2 ^ sh / (y * 2 ^ sh) = x / y ∧ x * 2 ^ sh % (y * 2 ^ sh) / 2 ^ sh = x % y:=by
  refine ⟨Nat.mul_div_mul_right _ _ hp2,?_⟩
  rw [Nat.mul_mod_mul_right,Nat.mul_div_cancel _ hp2]
 conv=>whnf
 refine .gen _ _ (c_left a sh (by omega) (by omega)) fun _=>?_
 rw [hvx]
 generalize hU : x * 2 ^ sh = U at *
 generalize hV : y * 2 ^ sh = V at *
 conv=>whnf
 refine ADraw.auto (by kernel_rfl) ?_;conv=>whnf
 refine ⟨inr64 (by simp; omega) (by simp; omega),?_⟩
 conv=>whnf
 refine aidxN' 0 (i:=b.length - 1) (by simp; omega) (by omega) ?_
 conv=>whnf
 refine ⟨inr64 (by simp; omega) (by simp; omega),?_⟩
 conv=>whnf
 refine aidxN' 0 (i:=b.length - 2) (by simp; omega) (by omega) ?_
 have htop:=hvw.getD (i:=b.length - 1)
 have hnext:=hvw.getD (i:=b.length - 2)
 generalize htp : v.getD (b.length - 1) 0 = top0 at *
 generalize hnx : v.getD (b.length - 2) 0 = next0 at *
 obtain ⟨top,rfl⟩ : ∃ top : Nat,top0 = top:=⟨top0.toNat,by omega⟩
 obtain ⟨next,rfl⟩ : ∃ next : Nat,next0 = next:=⟨next0.toNat,by omega⟩
 conv=>whnf
 rw [wrap_u64 (n:=(top : Int)) (by omega) (by omega),wrap_u64 (n:=(next : Int)) (by omega) (by omega)]
 refine ⟨inr64 (by simp; omega) (by simp; omega),?_⟩
 obtain ⟨m,hm⟩ : ∃ m,a.length + 1 - b.length = m:=⟨_,rfl⟩
 rw [show (((a.length + 1 : Nat) : Int) - (((v.map (AV.int .u32)).length : Nat) : Int)) = (m : Int) by simp; omega]
 conv=>whnf
 refine ⟨⟨by omega,by omega,by simp; omega,by omega⟩,.wr ?_⟩
 conv=>whnf
 refine ⟨inr64 (by simp; omega) (by simp; omega),?_⟩
 rw [hm] at hinit
 conv=>whnf
 refine LoopE.of <| LoopSpec.inv (.refl _ _) (fun x : Nat × List Int × List Int=>DivInv U V b.length (a.length + 1) x.1 x.2.1 x.2.2)
  (fun | (j,_)=>[(14,.int .i64 ((j : Int) - 1))]) (fun | (_,M,Q)=>[(1,.arr 1 m (Q.map (.int .u32))),(0,.arr 1 (a.length + 1) (M.map (.int .u32)))])
  (fun x=>x.1) (m,wdN (a.length + 1) U,List.replicate m 0) hinit (fun _=>rfl) ?_ ?_
 ·refine ⟨?_,.mk ?_ ⟨by simp,by simp,trivial⟩⟩
  ·all_goals exact wk
  ·repeat' first|exact rfl|exact trivial|exact wR|exact lR _|apply aI
   all_goals first | (simp; done) | exact leRL_of (by simp)
 rintro ⟨j,M,Q⟩ hI _
 simp only at hI
 have hjl:=hI.jle
 conv=>whnf
 refine And.intro (fun h=>?_) (fun h=>?_)
 ·obtain ⟨k,rfl⟩ : ∃ k,j = k + 1:=⟨j - 1,by omega⟩
  have hseg:=hI.seg (by omega) hV2
  have hML:=hI.lm
  have hQL:=hI.lq
  have hwM:=hI.wm
  have e14 : (((k + 1 : Nat) : Int) - 1) = (k : Int):=by omega
  have elv : (((v.map (AV.int .u32)).length : Nat) : Int) = (b.length : Int):=by simp; omega
  rw [e14,elv]
  have hw2:=hwM.getD (i:=k + b.length)
  have hw1:=hwM.getD (i:=k + b.length - 1)
  have hw0:=hwM.getD (i:=k + b.length - 2)
  obtain ⟨w2,ew2⟩ : ∃ w : Nat,M.getD (k + b.length) 0 = w:=⟨(M.getD (k + b.length) 0).toNat,by omega⟩
  obtain ⟨w1,ew1⟩ : ∃ w : Nat,M.getD (k + b.length - 1) 0 = w:=⟨(M.getD (k + b.length - 1) 0).toNat,by omega⟩
  obtain ⟨w0,ew0⟩ : ∃ w : Nat,M.getD (k + b.length - 2) 0 = w:=⟨(M.getD (k + b.length - 2) 0).toNat,by omega⟩
  rw [ew2] at hw2
  rw [ew1] at hw1
  rw [ew0] at hw0
  obtain ⟨p,hp0,htop1,b3,b3',b2,b2',hhead,hge⟩:=digit_facts hI hn2 (by omega) (by omega) (by omega) hvw hvv hVpos ew2 ew1 ew0 htp hnx
  have hdst:=hI.step (by omega) (by omega) hV2
  obtain ⟨s,hs⟩ : ∃ s,val (M.drop k) = s:=⟨_,rfl⟩
  rw [hs] at b3 b3' hge hdst hseg
  have hVp : 0 < V:=by have:=Nat.pow_pos (n:=b.length - 1) (show 0 < 4294967296 by omega); omega
  have hqB : s / V < 4294967296:=by rw [Nat.div_lt_iff_lt_mul hVp]; exact hseg.2.1
  obtain ⟨q,hq⟩ : ∃ q,s / V = q:=⟨_,rfl⟩
  rw [hq] at hge hqB hdst
  have hrest : takeN s (q * V) (b.length + 1) = s % V:=take_rest hq.symm
  have hVB : V < 4294967296 ^ (b.length + 1):=by
   rw [Nat.pow_succ]
   have : 4294967296 ^ b.length * 1 ≤ 4294967296 ^ b.length * 4294967296:=Nat.mul_le_mul_left _ (by omega)
   omega
  have hsB : s < 4294967296 ^ (b.length + 1):=by
   rw [Nat.pow_succ,Nat.mul_comm]
   have : 4294967296 * V ≤ 4294967296 * 4294967296 ^ b.length:=Nat.mul_le_mul_left _ (by omega)
   omega
  have hmidL : ∀ z,(mid M k (wdN (b.length + 1) z)).length = a.length + 1:=fun z=>by rw [mid_len (by rw [wdN_len,hML]; omega),hML]
  have htl : takeN s ((q + 1) * V) (b.length + 1) < 4294967296 ^ (b.length + 1):=by
   have h1:=Nat.lt_div_mul_add (a:=s) hVp
   rw [hq] at h1
   unfold takeN
   rw [Nat.add_mul,Nat.one_mul,if_pos h1]
   have h2:=Nat.div_mul_le_self s V
   rw [hq] at h2
   omega
  have hgive : mid (mid M k (wdN (b.length + 1) (takeN s ((q + 1) * V) (b.length + 1)))) k (wdN (b.length + 1) ((val (((mid M k (wdN (b.length + 1) (takeN s ((q + 1) * V) (b.length + 1)))).drop k).take (b.length + 1)) + V) % 4294967296 ^ (b.length + 1))) = mid M k (wdN (b.length + 1) (s % V)):=by
   have e1:=mid_part (us:=M) (s:=wdN (b.length + 1) (takeN s ((q + 1) * V) (b.length + 1))) (off:=k) (by rw [wdN_len,hML]; omega)
   rw [wdN_len] at e1
   rw [e1,val_wdN htl,give_rest hVp hq.symm hVB,mid_mid (by rw [wdN_len,hML]; omega) (by rw [wdN_len,wdN_len])]
  conv=>whnf
  refine ADraw.auto (by kernel_rfl) ?_;conv=>whnf
  refine zA ?_;conv=>whnf
  refine ⟨⟨by omega,by simp; omega⟩,?_⟩
  conv=>whnf
  refine aidxN' 0 (i:=k + b.length) (by simp; omega) (by omega) ?_
  refine ⟨by simp,?_⟩
  rw [ew2]
  conv=>whnf
  refine ⟨by decide,?_⟩
  rw [wrap_u64 (n:=(w2 : Int)) (by omega) (by omega),shl_word (by omega)]
  refine zA ?_;conv=>whnf
  refine zA ?_;conv=>whnf
  refine ⟨⟨by omega,by simp; omega⟩,?_⟩
  conv=>whnf
  refine aidxN' 0 (i:=k + b.length - 1) (by simp; omega) (by omega) ?_
  refine ⟨by simp,?_⟩
  rw [ew1]
  conv=>whnf
  rw [wrap_u64 (n:=(w1 : Int)) (by omega) (by omega),or_word (by omega) (by omega)]
  obtain ⟨head,hhd⟩ : ∃ head,w2 * 4294967296 + w1 = head:=⟨_,rfl⟩
  rw [hhd]
  rw [hhd] at b3 b3' hhead hge
  have hhl : head < 18446744073709551616:=by omega
  clear hcut
  refine ADraw.auto (by kernel_rfl) ?_;conv=>whnf
  refine ⟨by omega,?_⟩
  rw [tdiv_nat]
  have hg0 : head / top * top + head % top = head:=by rw [Nat.mul_comm]; exact Nat.div_add_mod _ _
  have hr0 : head % top < top:=Nat.mod_lt _ (by omega)
  have hg1 : head / top ≤ head:=Nat.div_le_self _ _
  have hg2 : head / top * top ≤ head:=by omega
  generalize head / top = g0 at *
  conv=>whnf
  refine ⟨by omega,?_⟩
  rw [tmod_nat]
  generalize head % top = r0 at *
  rw [wrap_u64 (n:=(g0 : Int)) (by omega) (by omega)]
  conv=>whnf
  refine LoopE.of <| LoopSpec.inv (.refl _ _) (fun (x : Nat × Nat)=>x.1 * top + x.2 = head ∧ q ≤ x.1 ∧ x.2 < 4294967296 ∧ x.1 ≤ g0) (fun (x : Nat × Nat)=>[(16,.int .u64 (x.1 : Nat)),(17,.int .u64 (x.2 : Nat))]) (fun _=>_) (fun (x : Nat × Nat)=>x.1) (g0,r0) ?_ (fun _=>rfl) ?_ ?_
  ·exact ⟨hg0,hge,(by omega : r0 < 4294967296),Nat.le_refl _⟩
  ·refine ⟨?_,.refl rfl⟩
   all_goals exact wk
  rintro ⟨g,r⟩ ⟨hgr,hgq,hr,hgg⟩ _
  simp only at hgr hgq hr hgg
  dsimp only [awp]
  conv=>whnf
  refine And.intro (fun hc1=>?_) (fun hc1=>?_)
  ·have hgt : q < g:=by omega
   conv=>whnf
   conv=>whnf
   rw [show ((g : Int) - 1) = ((g - 1 : Nat) : Int) by omega,wrap_u64 (n:=((g - 1 : Nat) : Int)) (by omega) (by omega)]
   conv=>whnf
   rw [show ((r : Int) + (top : Int)) = ((r + top : Nat) : Int) from (Int.natCast_add r top).symm,wrap_u64 (n:=((r + top : Nat) : Int)) (by omega) (by omega)]
   have hgr' : (g - 1) * top + (r + top) = head:=by
    have h1 : (g - 1 + 1) * top = g * top:=by rw [show g - 1 + 1 = g by omega]
    rw [Nat.add_mul,Nat.one_mul] at h1
    omega
   conv=>whnf
   refine And.intro (fun hc3=>?_) (fun hc3=>?_)
   ·have hgB' : g - 1 < 4294967296:=guess_small hgr' hhead (by omega)
    have hG : g - 1 ≤ q + 1:=by
     rw [← hq]
     refine guess_le (B:=4294967296) (p:=p) (by omega) hp0 htop1 b2 b2' b3 hgr' ?_ hgB'
     have h1 : (g - 1) * next ≤ 4294967295 * 4294967295:=Nat.mul_le_mul (by omega) (by omega)
     have h2 : 4294967296 * 4294967296 ≤ (r + top) * 4294967296:=Nat.mul_le_mul_right _ (by omega)
     omega
    conv=>whnf
    rw [elv]
    refine zA ?_;conv=>whnf
    refine zA ?_;conv=>whnf
    refine ⟨⟨by omega,by omega,by omega⟩,by omega,?_⟩
    have ct:=c_take M v k (a.length + 1 - k) (g - 1) hwM (by omega) (by omega) (by omega) (by
     rw [hvv,hvl,Nat.pow_succ,Nat.mul_comm (4294967296 ^ b.length)]
     exact Nat.mul_lt_mul_of_le_of_lt (by omega) hV2 (by omega))
    rw [hML,hvv,hvl,hseg.1,take_fix hVp hq.symm (by omega) hG] at ct
    conv=>whnf
    refine .gen _ _ (FnH.frame [0] ct ⟨rfl,rfl,rfl,rfl⟩ ?_ ?_) fun _=>?_
    ·all_goals exact wk
    ·repeat' first|exact rfl|exact trivial|exact wR|exact lR _|apply aI
     all_goals (show AV.ms 0 _ _ _ 1 = AV.ms 0 _ _ _ 1; congr 1 <;> omega)
    conv=>whnf
    refine And.intro (fun hGq=>?_) (fun hGq=>?_)
    ·conv=>whnf
     rw [show (((g - 1 : Nat) : Int) - 1) = (q : Int) by omega,wrap_u64 (n:=(q : Int)) (by omega) (by omega)]
     conv=>whnf
     rw [elv]
     refine zA ?_;conv=>whnf
     refine zA ?_;conv=>whnf
     refine ⟨⟨by omega,by omega,by omega⟩,by omega,?_⟩
     have cg:=c_give (mid M k (wdN (b.length + 1) (takeN s ((g - 1) * V) (b.length + 1)))) v k (a.length + 1 - k) (mid_Ws hwM (wdN_Ws _ _)) (by rw [hmidL]; omega) (by rw [hmidL]; omega)
     rw [hmidL,hvv,hvl,hGq,hgive] at cg
     rw [hGq]
     conv=>whnf
     refine .gen _ _ (FnH.frame [0] cg ⟨rfl,rfl,rfl,rfl⟩ ?_ ?_) fun _=>?_
     ·all_goals exact wk
     ·repeat' first|exact rfl|exact trivial|exact wR|exact lR _|apply aI
      all_goals (show AV.ms 0 _ _ _ 1 = AV.ms 0 _ _ _ 1; congr 1 <;> omega)
     conv=>whnf
     rw [wrap_u32 (n:=(q : Int)) (by omega) (by omega)]
     refine ⟨⟨by omega,by omega⟩,?_⟩
     dsimp only [putE]
     rw [aops]
     dsimp only [guardC]
     dsimp only [aopW,aop]
     conv=>whnf
     refine ⟨by rw [List.length_map,hQL]; omega,rfl,?_⟩
     conv=>whnf
     refine zA ?_;conv=>whnf
     refine ⟨(k,mid M k (wdN (b.length + 1) (s % V)),Q.set k (q : Int)),?_,?_,?_⟩
     ·exact hdst
     ·refine ⟨?_,.mk ?_ ⟨by simp,by simp,trivial⟩⟩
      ·all_goals exact wk
      ·repeat' first|exact rfl|exact trivial|exact wR|exact lR _|apply aI
       all_goals first | exact leRL_refl _ | (refine leRL_of ?_; rw [List.map_set]; simp [strip])
     ·show k < k + 1
      omega
    ·have hGq' : g - 1 = q:=by omega
     rw [hGq',hrest]
     conv=>whnf
     rw [wrap_u32 (n:=(q : Int)) (by omega) (by omega)]
     refine ⟨⟨by omega,by omega⟩,?_⟩
     dsimp only [putE]
     rw [aops]
     dsimp only [guardC]
     dsimp only [aopW,aop]
     conv=>whnf
     refine ⟨by rw [List.length_map,hQL]; omega,rfl,?_⟩
     conv=>whnf
     refine zA ?_;conv=>whnf
     refine ⟨(k,mid M k (wdN (b.length + 1) (s % V)),Q.set k (q : Int)),?_,?_,?_⟩
     ·exact hdst
     ·refine ⟨?_,.mk ?_ ⟨by simp,by simp,trivial⟩⟩
      ·all_goals exact wk
      ·repeat' first|exact rfl|exact trivial|exact wR|exact lR _|apply aI
       all_goals first | exact leRL_refl _ | (refine leRL_of ?_; rw [List.map_set]; simp [strip])
     ·show k < k + 1
      omega
   ·conv=>whnf
    refine ⟨(g - 1,r + top),?_,?_,?_⟩
    ·exact ⟨hgr',(by omega : q ≤ g - 1),(by omega : r + top < 4294967296),(by omega : g - 1 ≤ g0)⟩
    ·refine ⟨?_,.refl rfl⟩
     all_goals exact wk
    ·show g - 1 < g
     omega
  ·have hgB : g < 4294967296:=by omega
   have hgn : g * next ≤ 4294967295 * 4294967295:=Nat.mul_le_mul (by omega) (by omega)
   conv=>whnf
   rw [show ((g : Int) * (next : Int)) = ((g * next : Nat) : Int) from (Int.natCast_mul g next).symm,wrap_u64 (n:=((g * next : Nat) : Int)) (by omega) (by omega)]
   refine ⟨by decide,?_⟩
   rw [shl_word (by omega)]
   conv=>whnf
   rw [elv]
   refine zA ?_;conv=>whnf
   refine zA ?_;conv=>whnf
   refine ⟨⟨by omega,by simp; omega⟩,?_⟩
   conv=>whnf
   refine aidxN' 0 (i:=k + b.length - 2) (by simp; omega) (by omega) ?_
   refine ⟨by simp,?_⟩
   rw [ew0]
   conv=>whnf
   rw [wrap_u64 (n:=(w0 : Int)) (by omega) (by omega),or_word (by omega) (by omega)]
   conv=>whnf
   refine And.intro (fun hc2=>?_) (fun hc2=>?_)
   ·have hgt : q < g:=hq ▸ guess_gt b2 b3' hgr (by omega)
    conv=>whnf
    rw [show ((g : Int) - 1) = ((g - 1 : Nat) : Int) by omega,wrap_u64 (n:=((g - 1 : Nat) : Int)) (by omega) (by omega)]
    conv=>whnf
    rw [show ((r : Int) + (top : Int)) = ((r + top : Nat) : Int) from (Int.natCast_add r top).symm,wrap_u64 (n:=((r + top : Nat) : Int)) (by omega) (by omega)]
    have hgr' : (g - 1) * top + (r + top) = head:=by
     have h1 : (g - 1 + 1) * top = g * top:=by rw [show g - 1 + 1 = g by omega]
     rw [Nat.add_mul,Nat.one_mul] at h1
     omega
    conv=>whnf
    refine And.intro (fun hc3=>?_) (fun hc3=>?_)
    ·have hgB' : g - 1 < 4294967296:=guess_small hgr' hhead (by omega)
     have hG : g - 1 ≤ q + 1:=by
      rw [← hq]
      refine guess_le (B:=4294967296) (p:=p) (by omega) hp0 htop1 b2 b2' b3 hgr' ?_ hgB'
      have h1 : (g - 1) * next ≤ 4294967295 * 4294967295:=Nat.mul_le_mul (by omega) (by omega)
      have h2 : 4294967296 * 4294967296 ≤ (r + top) * 4294967296:=Nat.mul_le_mul_right _ (by omega)
      omega
     conv=>whnf
     rw [elv]
     refine zA ?_;conv=>whnf
     refine zA ?_;conv=>whnf
     refine ⟨⟨by omega,by omega,by omega⟩,by omega,?_⟩
     have ct:=c_take M v k (a.length + 1 - k) (g - 1) hwM (by omega) (by omega) (by omega) (by
      rw [hvv,hvl,Nat.pow_succ,Nat.mul_comm (4294967296 ^ b.length)]
      exact Nat.mul_lt_mul_of_le_of_lt (by omega) hV2 (by omega))
     rw [hML,hvv,hvl,hseg.1,take_fix hVp hq.symm (by omega) hG] at ct
     conv=>whnf
     refine .gen _ _ (FnH.frame [0] ct ⟨rfl,rfl,rfl,rfl⟩ ?_ ?_) fun _=>?_
     ·all_goals exact wk
     ·repeat' first|exact rfl|exact trivial|exact wR|exact lR _|apply aI
      all_goals (show AV.ms 0 _ _ _ 1 = AV.ms 0 _ _ _ 1; congr 1 <;> omega)
     conv=>whnf
     refine And.intro (fun hGq=>?_) (fun hGq=>?_)
     ·conv=>whnf
      rw [show (((g - 1 : Nat) : Int) - 1) = (q : Int) by omega,wrap_u64 (n:=(q : Int)) (by omega) (by omega)]
      conv=>whnf
      rw [elv]
      refine zA ?_;conv=>whnf
      refine zA ?_;conv=>whnf
      refine ⟨⟨by omega,by omega,by omega⟩,by omega,?_⟩
      have cg:=c_give (mid M k (wdN (b.length + 1) (takeN s ((g - 1) * V) (b.length + 1)))) v k (a.length + 1 - k) (mid_Ws hwM (wdN_Ws _ _)) (by rw [hmidL]; omega) (by rw [hmidL]; omega)
      rw [hmidL,hvv,hvl,hGq,hgive] at cg
      rw [hGq]
      conv=>whnf
      refine .gen _ _ (FnH.frame [0] cg ⟨rfl,rfl,rfl,rfl⟩ ?_ ?_) fun _=>?_
      ·all_goals exact wk
      ·repeat' first|exact rfl|exact trivial|exact wR|exact lR _|apply aI
       all_goals (show AV.ms 0 _ _ _ 1 = AV.ms 0 _ _ _ 1; congr 1 <;> omega)
      conv=>whnf
      rw [wrap_u32 (n:=(q : Int)) (by omega) (by omega)]
      refine ⟨⟨by omega,by omega⟩,?_⟩
      dsimp only [putE]
      rw [aops]
      dsimp only [guardC]
      dsimp only [aopW,aop]
      conv=>whnf
      refine ⟨by rw [List.length_map,hQL]; omega,rfl,?_⟩
      conv=>whnf
      refine zA ?_;conv=>whnf
      refine ⟨(k,mid M k (wdN (b.length + 1) (s % V)),Q.set k (q : Int)),?_,?_,?_⟩
      ·exact hdst
      ·refine ⟨?_,.mk ?_ ⟨by simp,by simp,trivial⟩⟩
       ·all_goals exact wk
       ·repeat' first|exact rfl|exact trivial|exact wR|exact lR _|apply aI
        all_goals first | exact leRL_refl _ | (refine leRL_of ?_; rw [List.map_set]; simp [strip])
      ·show k < k + 1
       omega
     ·have hGq' : g - 1 = q:=by omega
      rw [hGq',hrest]
      conv=>whnf
      rw [wrap_u32 (n:=(q : Int)) (by omega) (by omega)]
      refine ⟨⟨by omega,by omega⟩,?_⟩
      dsimp only [putE]
      rw [aops]
      dsimp only [guardC]
      dsimp only [aopW,aop]
      conv=>whnf
      refine ⟨by rw [List.length_map,hQL]; omega,rfl,?_⟩
      conv=>whnf
      refine zA ?_;conv=>whnf
      refine ⟨(k,mid M k (wdN (b.length + 1) (s % V)),Q.set k (q : Int)),?_,?_,?_⟩
      ·exact hdst
      ·refine ⟨?_,.mk ?_ ⟨by simp,by simp,trivial⟩⟩
       ·all_goals exact wk
       ·repeat' first|exact rfl|exact trivial|exact wR|exact lR _|apply aI
        all_goals first | exact leRL_refl _ | (refine leRL_of ?_; rw [List.map_set]; simp [strip])
      ·show k < k + 1
       omega
    ·conv=>whnf
     refine ⟨(g - 1,r + top),?_,?_,?_⟩
     ·exact ⟨hgr',(by omega : q ≤ g - 1),(by omega : r + top < 4294967296),(by omega : g - 1 ≤ g0)⟩
     ·refine ⟨?_,.refl rfl⟩
      all_goals exact wk
     ·show g - 1 < g
      omega
   ·have hG : g ≤ q + 1:=hq ▸ guess_le (B:=4294967296) (p:=p) (by omega) hp0 htop1 b2 b2' b3 hgr (by omega) hgB
    conv=>whnf
    rw [elv]
    refine zA ?_;conv=>whnf
    refine zA ?_;conv=>whnf
    refine ⟨⟨by omega,by omega,by omega⟩,by omega,?_⟩
    have ct:=c_take M v k (a.length + 1 - k) (g) hwM (by omega) (by omega) (by omega) (by
     rw [hvv,hvl,Nat.pow_succ,Nat.mul_comm (4294967296 ^ b.length)]
     exact Nat.mul_lt_mul_of_le_of_lt (by omega) hV2 (by omega))
    rw [hML,hvv,hvl,hseg.1,take_fix hVp hq.symm (by omega) hG] at ct
    conv=>whnf
    refine .gen _ _ (FnH.frame [0] ct ⟨rfl,rfl,rfl,rfl⟩ ?_ ?_) fun _=>?_
    ·all_goals exact wk
    ·repeat' first|exact rfl|exact trivial|exact wR|exact lR _|apply aI
     all_goals (show AV.ms 0 _ _ _ 1 = AV.ms 0 _ _ _ 1; congr 1 <;> omega)
    conv=>whnf
    refine And.intro (fun hGq=>?_) (fun hGq=>?_)
    ·conv=>whnf
     rw [show (((g : Nat) : Int) - 1) = (q : Int) by omega,wrap_u64 (n:=(q : Int)) (by omega) (by omega)]
     conv=>whnf
     rw [elv]
     refine zA ?_;conv=>whnf
     refine zA ?_;conv=>whnf
     refine ⟨⟨by omega,by omega,by omega⟩,by omega,?_⟩
     have cg:=c_give (mid M k (wdN (b.length + 1) (takeN s ((g) * V) (b.length + 1)))) v k (a.length + 1 - k) (mid_Ws hwM (wdN_Ws _ _)) (by rw [hmidL]; omega) (by rw [hmidL]; omega)
     rw [hmidL,hvv,hvl,hGq,hgive] at cg
     rw [hGq]
     conv=>whnf
     refine .gen _ _ (FnH.frame [0] cg ⟨rfl,rfl,rfl,rfl⟩ ?_ ?_) fun _=>?_
     ·all_goals exact wk
     ·repeat' first|exact rfl|exact trivial|exact wR|exact lR _|apply aI
      all_goals (show AV.ms 0 _ _ _ 1 = AV.ms 0 _ _ _ 1; congr 1 <;> omega)
     conv=>whnf
     rw [wrap_u32 (n:=(q : Int)) (by omega) (by omega)]
     refine ⟨⟨by omega,by omega⟩,?_⟩
     dsimp only [putE]
     rw [aops]
     dsimp only [guardC]
     dsimp only [aopW,aop]
     conv=>whnf
     refine ⟨by rw [List.length_map,hQL]; omega,rfl,?_⟩
     conv=>whnf
     refine zA ?_;conv=>whnf
     refine ⟨(k,mid M k (wdN (b.length + 1) (s % V)),Q.set k (q : Int)),?_,?_,?_⟩
     ·exact hdst
     ·refine ⟨?_,.mk ?_ ⟨by simp,by simp,trivial⟩⟩
      ·all_goals exact wk
      ·repeat' first|exact rfl|exact trivial|exact wR|exact lR _|apply aI
       all_goals first | exact leRL_refl _ | (refine leRL_of ?_; rw [List.map_set]; simp [strip])
     ·show k < k + 1
      omega
    ·have hGq' : g = q:=by omega
     rw [hGq',hrest]
     conv=>whnf
     rw [wrap_u32 (n:=(q : Int)) (by omega) (by omega)]
     refine ⟨⟨by omega,by omega⟩,?_⟩
     dsimp only [putE]
     rw [aops]
     dsimp only [guardC]
     dsimp only [aopW,aop]
     conv=>whnf
     refine ⟨by rw [List.length_map,hQL]; omega,rfl,?_⟩
     conv=>whnf
     refine zA ?_;conv=>whnf
     refine ⟨(k,mid M k (wdN (b.length + 1) (s % V)),Q.set k (q : Int)),?_,?_,?_⟩
     ·exact hdst
     ·refine ⟨?_,.mk ?_ ⟨by simp,by simp,trivial⟩⟩
      ·all_goals exact wk
      ·repeat' first|exact rfl|exact trivial|exact wR|exact lR _|apply aI
       all_goals first | exact leRL_refl _ | (refine leRL_of ?_; rw [List.map_set]; simp [strip])
     ·show k < k + 1
      omega
 ·have hj0 : j = 0:=by omega
  subst hj0
  obtain ⟨f1,f2⟩:=hI.fin
  have hQL:=hI.lq
  have hML:=hI.lm
  have hcq:=c_trim Q (by omega)
  rw [f1,hres.1] at hcq
  have hcr:=c_rightP M sh (by omega) (by omega)
  rw [f2,hres.2] at hcr
  have hrl : x % y < 4294967296 ^ M.length:=by
   have h1:=Nat.mod_lt x (show 0 < y by omega)
   have h2 : 4294967296 ^ b.length ≤ 4294967296 ^ M.length:=Nat.pow_le_pow_right (by omega) (by omega)
   have h3:=val_lt hwy
   omega
  have hct:=c_trim (wdN M.length (x % y)) (by rw [wdN_len]; omega)
  rw [val_wdN hrl] at hct
  conv=>whnf
  refine .gen _ _ (FnH.frz 0 rfl rfl (by simp; omega) (FnH.ofPure hcq ?_ ⟨rfl,rfl⟩)) fun _=>?_
  ·repeat' first|exact rfl|exact trivial|exact wR|exact lR _|apply aI
   refine leRL_of ?_
   simp
   rw [List.take_of_length_le (by simp; omega)]
  conv=>whnf
  refine .gen _ _ (FnH.frz 0 rfl rfl (by simp; omega) (FnH.ofPure hcr ?_ ⟨rfl,rfl⟩)) fun _=>?_
  ·repeat' first|exact rfl|exact trivial|exact wR|exact lR _|apply aI
   refine leRL_of ?_
   simp
   rw [List.take_of_length_le (by simp; omega)]
  conv=>whnf
  refine .pure _ _ ?_ ⟨rfl,rfl⟩ hct fun _=>?_
  ·exact leL_refl _
  conv=>whnf
  refine fM ?_;(conv=>whnf);refine ⟨?_,rfl⟩;conv=>whnf
  all_goals exact wk

theorem divC (x y : Nat) (hx : (wd x).length ≤ 999999) (hy : (wd y).length ≤ 1000000) (h0 : y ≠ 0) : DivC x y:=by
 by_cases h : y < 4294967296
 ·exact div_small x y (by omega) h0 h
 ·exact div_large x y hx hy (by omega)

theorem wd_len_max {a b : List Int} (ha : Ws a) (hb : Ws b) (la : a.length ≤ 999999) (lb : b.length ≤ 999999) {x : Nat} (h : x ≤ max (val a) (val b)) : (wd x).length ≤ 999999:=by
 have h1:=wd_len_le ha
 have h2:=wd_len_le hb
 rcases Nat.le_total (val a) (val b) with hab | hab
 ·rw [Nat.max_eq_right hab] at h; have:=wd_len_mono h; omega
 ·rw [Nat.max_eq_left hab] at h; have:=wd_len_mono h; omega

theorem FnH.ok {P : Program} {f : Nat} {args : List AV} {H : Heap} {R : AV} {H' : Heap} (hf : ∃ fn,P.funcs[f]? = some fn ∧ (fn.name == "runtime.NumGoroutine") = false ∧ fn.body.isSome = true) (h : OkL args → FnH P f args H R H') : FnH P f args H R H' :=
 ⟨hf,fun c vs hr hv=>(h (EVL_ok hv)).2 c vs hr hv⟩

theorem ratAll (r : Rat) (h1 : r.num.length ≤ 999999) (h2 : r.den.length ≤ 999999) : RatC r:=by
 have key : OkL [r.av] → RatC r:=by
  intro hok
  have w1 : Ws r.num:=Ws.ok hok.1.2.1.2
  have w2 : Ws r.den:=Ws.ok hok.1.2.2.1.2
  refine ratC r (by omega) (by omega) fun _ x y hy hx hy'=>?_
  have l1:=wd_len_max w1 w2 h1 h2 hx
  have l2:=wd_len_max w1 w2 h1 h2 hy'
  exact divC x y l1 (by omega) hy
 exact ⟨FnH.ok ratC_zero.v.1 fun h=>(key h).v,FnH.ok ratC_zero.s.1 fun h=>(key h).s,FnH.ok ratC_zero.p.1 fun h=>(key h).p⟩

def shortR (r : Rat) : Bool:=decide (r.num.length ≤ 40) && decide (r.den.length ≤ 40)

theorem shortR_C {r : Rat} (h : shortR r = true) : RatC r:=by
 simp only [shortR,Bool.and_eq_true,decide_eq_true_eq] at h
 exact ratAll r (by omega) (by omega)

theorem c_Short (r : Rat) : FnH Tryz.prog 81 [r.av] [] (.bool (shortR r)) []:=by
 refine FnH.intro lay mixed Tryz.func81 (by kernel_rfl) rfl (by kernel_rfl) rfl fun hok=>?_
 conv=>whnf
 refine And.intro (fun h=>?_) (fun h=>?_)
 ·have h : r.num.length ≤ 40:=by simp only [List.length_map] at h; omega
  conv=>whnf
  refine fM ?_;(conv=>whnf);refine ⟨?_,rfl⟩;conv=>whnf
  simp [shortR,h]
  omega
 ·have h : ¬ r.num.length ≤ 40:=by simp only [List.length_map] at h; omega
  conv=>whnf
  refine fM ?_;(conv=>whnf);refine ⟨?_,rfl⟩;conv=>whnf
  simp [shortR,h]

theorem all_take {α : Type} {p : α → Bool} {l : List α} {i : Nat} (h : i < l.length) : (l.take (i + 1)).all p = ((l.take i).all p && p l[i]):=by
 rw [List.take_add_one,List.getElem?_eq_getElem h,List.all_append]; simp

theorem all_false {α : Type} {p : α → Bool} {l : List α} {x : α} (h : x ∈ l) (hp : p x = false) : l.all p = false:=by
 cases ha : l.all p with
 | false=>rfl
 | true=>have:=List.all_eq_true.1 ha x h; rw [hp] at this; cases this

theorem c_Is (e c : Int) : FnH Tryz.prog 121 [errAV e,.int .i64 c] [] (.bool (decide (e ≠ 0 ∧ e = c))) []:=by
 by_cases h0 : e = 0
 ·subst h0
  rw [errAV_zero]
  refine FnH.intro lay mixed Tryz.func121 (by kernel_rfl) rfl (by kernel_rfl) rfl fun hok=>?_
  conv=>whnf
  refine fM ?_;(conv=>whnf);refine ⟨?_,rfl⟩;conv=>whnf
  simp
 ·rw [errAV_ne h0]
  refine FnH.intro lay mixed Tryz.func121 (by kernel_rfl) rfl (by kernel_rfl) rfl fun hok=>?_
  conv=>whnf
  refine fM ?_;(conv=>whnf);refine ⟨?_,rfl⟩;conv=>whnf
  simp [h0]


theorem c_rTrim (a : List Int) (hsz : a.length ≤ 1000000) : FnH Tryz.prog 151 [wL a] [] (wL (wd (val a))) []:=by
 refine FnH.intro lay mixed Tryz.func151 (by kernel_rfl) rfl (by kernel_rfl) rfl fun hok=>?_
 have hl : a.length ≤ 9223372036854775807:=by simpa [OkL,Ok,maxL] using hok.1.1
 have hw : Ws a:=Ws.ok hok.1.2
 conv=>whnf
 refine LoopE.of <| LoopSpec.inv (.refl _ _) (fun (n : Nat)=>n ≤ a.length ∧ ∀ k,n ≤ k → a.getD k 0 = 0) (fun (n : Nat)=>[(3,.int .i64 n)]) (fun _=>_) (fun (n : Nat)=>n) a.length ?_ (fun _=>rfl) ?_ ?_
 ·exact ⟨Nat.le_refl _,fun k hk=>by rw [List.getD_eq_getElem?_getD,List.getElem?_eq_none hk]; rfl⟩
 ·repeat' first|exact rfl|exact trivial|exact wR|exact lR _|apply aI
  simp
 rintro n ⟨hn,hz⟩ _
 have fin : (n = 0 ∨ a.getD (n - 1) 0 ≠ 0) → a.take n = wd (val a):=trim_eq hw hn hz
 have cut : a.take n = wd (val a) → ((a.map (AV.int .u32)).drop (0 : Int).toNat).take ((n : Int).toNat - (0 : Int).toNat) = (wd (val a)).map (AV.int .u32):=by
  intro e
  rw [← e]; simp [List.map_take]
 have hll : a.take n = wd (val a) → (wd (val a)).length ≤ a.length:=by
  intro e
  rw [← e]; simp; omega
 conv=>whnf
 refine And.intro (fun h=>?_) (fun h=>?_)
 ·conv=>whnf
  refine zA ?_;conv=>whnf
  refine aidxN' 0 (i:=n - 1) (by omega) (by omega) ?_
  conv=>whnf
  refine And.intro (fun h0=>?_) (fun h0=>?_)
  ·conv=>whnf
   refine zA ?_;conv=>whnf
   refine ⟨n - 1,?_,?_,?_⟩
   ·refine ⟨by omega,fun k hk=>?_⟩
    by_cases hkn : k = n - 1
    ·subst hkn; exact h0
    ·exact hz k (by omega)
   ·repeat' first|exact rfl|exact trivial|exact wR|exact lR _|apply aI
    omega
   ·omega
  ·have e:=fin (.inr h0)
   have hlen:=hll e
   conv=>whnf
   refine ⟨⟨by omega,by omega,by simp; omega⟩,?_⟩
   rw [cut e]
   conv=>whnf
   refine .tok (by simp [maxL]; omega) (by simp; omega) ?_
   conv=>whnf
   refine fM ?_;(conv=>whnf);refine ⟨?_,rfl⟩;conv=>whnf
   exact ⟨rfl,leRL_of (by simp)⟩
 ·have e:=fin (.inl (by omega))
  have hlen:=hll e
  conv=>whnf
  refine ⟨⟨by omega,by omega,by simp; omega⟩,?_⟩
  rw [cut e]
  conv=>whnf
  refine .tok (by simp [maxL]; omega) (by simp; omega) ?_
  conv=>whnf
  refine fM ?_;(conv=>whnf);refine ⟨?_,rfl⟩;conv=>whnf
  exact ⟨rfl,leRL_of (by simp)⟩

theorem c_rWord (a : List Int) (i : Nat) : FnH Tryz.prog 150 [wL a,.int .i64 i] [] (.int .u64 (a.getD i 0)) []:=by
 refine FnH.intro lay mixed Tryz.func150 (by kernel_rfl) rfl (by kernel_rfl) rfl fun hok=>?_
 have hw : Ws a:=Ws.ok hok.1.2
 conv=>whnf
 refine And.intro (fun h=>?_) (fun h=>?_)
 ·have h : i < a.length:=by simp only [List.length_map] at h; omega
  conv=>whnf
  refine aidxN' 0 rfl h ?_
  conv=>whnf
  refine fM ?_;(conv=>whnf);refine ⟨?_,rfl⟩;conv=>whnf
  have:=hw.getD (i:=i)
  exact ⟨rfl,wrap_u64 (by omega) (by omega)⟩
 ·have h : a.length ≤ i:=by simp only [List.length_map] at h; omega
  conv=>whnf
  refine fM ?_;(conv=>whnf);refine ⟨?_,rfl⟩;conv=>whnf
  refine ⟨rfl,?_⟩
  rw [List.getD_eq_getElem?_getD,List.getElem?_eq_none h]; rfl

theorem r_size : FnH Tryz.prog 124 [.int .i64 1] [] (wL [1,0]) []:=by
 refine FnH.intro lay mixed Tryz.func124 (by kernel_rfl) rfl (by kernel_rfl) rfl fun hok=>?_
 conv=>whnf
 (repeat' ((first|refine LoopE.step 300 ?_|refine zY ?_|refine zN ?_|refine zI ?_|refine zD ?_|refine AIdx.mk ⟨_,⟨by decide +kernel,rfl⟩,?_⟩|refine zC ?_|refine zT ?_|refine zU ?_|refine AApp.mk (by decide +kernel) (by decide +kernel) ?_|refine AMake.wr ?_|refine ADraw.auto (by kernel_rfl) ?_);(conv=>whnf)))
 refine fM ?_;(conv=>whnf);refine ⟨?_,rfl⟩;conv=>whnf
 exact ⟨rfl,⟨rfl,by decide +kernel⟩,⟨rfl,by decide +kernel⟩,trivial⟩

theorem r_bits : FnH Tryz.prog 152 [wL [1,0]] [] (.int .i64 1) []:=by
 refine FnH.intro lay mixed Tryz.func152 (by kernel_rfl) rfl (by kernel_rfl) rfl fun hok=>?_
 conv=>whnf
 (repeat' ((first|refine LoopE.step 300 ?_|refine zY ?_|refine zN ?_|refine zI ?_|refine zD ?_|refine AIdx.mk ⟨_,⟨by decide +kernel,rfl⟩,?_⟩|refine zC ?_|refine zT ?_|refine zU ?_|refine AApp.mk (by decide +kernel) (by decide +kernel) ?_|refine AMake.wr ?_|refine ADraw.auto (by kernel_rfl) ?_);(conv=>whnf)))
 refine fM ?_;(conv=>whnf);refine ⟨?_,rfl⟩;conv=>whnf
 exact ⟨rfl,by decide +kernel⟩

theorem r_up1 : FnH Tryz.prog 242 [wL [1],.int .i64 31] [] (wL [2147483648]) []:=by
 have ct:=c_rTrim [2147483648,0] (by decide)
 rw [show wd (val [2147483648,0]) = [2147483648] from by decide +kernel] at ct
 refine FnH.intro lay mixed Tryz.func242 (by kernel_rfl) rfl (by kernel_rfl) rfl fun hok=>?_
 conv=>whnf
 (repeat' ((first|refine LoopE.step 300 ?_|refine zY ?_|refine zN ?_|refine zI ?_|refine zD ?_|refine AIdx.mk ⟨_,⟨by decide +kernel,rfl⟩,?_⟩|refine zC ?_|refine zT ?_|refine zU ?_|refine AApp.mk (by decide +kernel) (by decide +kernel) ?_|refine AMake.wr ?_|refine ADraw.auto (by kernel_rfl) ?_);(conv=>whnf)))
 refine .pure _ _ ?_ ⟨rfl,rfl⟩ (ct) fun _=>?_
 ·(repeat' (first|exact trivial|refine aI ?_ ?_|decide +kernel|exact rfl))
 conv=>whnf
 (repeat' ((first|refine LoopE.step 300 ?_|refine zY ?_|refine zN ?_|refine zI ?_|refine zD ?_|refine AIdx.mk ⟨_,⟨by decide +kernel,rfl⟩,?_⟩|refine zC ?_|refine zT ?_|refine zU ?_|refine AApp.mk (by decide +kernel) (by decide +kernel) ?_|refine AMake.wr ?_|refine ADraw.auto (by kernel_rfl) ?_);(conv=>whnf)))
 refine fM ?_;(conv=>whnf);refine ⟨?_,rfl⟩;conv=>whnf
 all_goals exact wk

theorem r_up2 : FnH Tryz.prog 242 [wL [1,0],.int .i64 31] [] (wL [2147483648]) []:=by
 have ct:=c_rTrim [2147483648,0,0] (by decide)
 rw [show wd (val [2147483648,0,0]) = [2147483648] from by decide +kernel] at ct
 refine FnH.intro lay mixed Tryz.func242 (by kernel_rfl) rfl (by kernel_rfl) rfl fun hok=>?_
 conv=>whnf
 (repeat' ((first|refine LoopE.step 300 ?_|refine zY ?_|refine zN ?_|refine zI ?_|refine zD ?_|refine AIdx.mk ⟨_,⟨by decide +kernel,rfl⟩,?_⟩|refine zC ?_|refine zT ?_|refine zU ?_|refine AApp.mk (by decide +kernel) (by decide +kernel) ?_|refine AMake.wr ?_|refine ADraw.auto (by kernel_rfl) ?_);(conv=>whnf)))
 refine .pure _ _ ?_ ⟨rfl,rfl⟩ (ct) fun _=>?_
 ·(repeat' (first|exact trivial|refine aI ?_ ?_|decide +kernel|exact rfl))
 conv=>whnf
 (repeat' ((first|refine LoopE.step 300 ?_|refine zY ?_|refine zN ?_|refine zI ?_|refine zD ?_|refine AIdx.mk ⟨_,⟨by decide +kernel,rfl⟩,?_⟩|refine zC ?_|refine zT ?_|refine zU ?_|refine AApp.mk (by decide +kernel) (by decide +kernel) ?_|refine AMake.wr ?_|refine ADraw.auto (by kernel_rfl) ?_);(conv=>whnf)))
 refine fM ?_;(conv=>whnf);refine ⟨?_,rfl⟩;conv=>whnf
 all_goals exact wk

theorem r_cmp : FnH Tryz.prog 72 [wL [2147483648],wL [2147483648]] [] (.int .i64 0) []:=by
 have cw:=c_rWord [2147483648] 0
 refine FnH.intro lay mixed Tryz.func72 (by kernel_rfl) rfl (by kernel_rfl) rfl fun hok=>?_
 conv=>whnf
 (repeat' ((first|refine LoopE.step 300 ?_|refine zY ?_|refine zN ?_|refine zI ?_|refine zD ?_|refine AIdx.mk ⟨_,⟨by decide +kernel,rfl⟩,?_⟩|refine zC ?_|refine zT ?_|refine zU ?_|refine AApp.mk (by decide +kernel) (by decide +kernel) ?_|refine AMake.wr ?_|refine ADraw.auto (by kernel_rfl) ?_);(conv=>whnf)))
 refine .pure _ _ ?_ ⟨rfl,rfl⟩ (cw) fun _=>?_
 ·(repeat' (first|exact trivial|refine aI ?_ ?_|decide +kernel|exact rfl))
 conv=>whnf
 (repeat' ((first|refine LoopE.step 300 ?_|refine zY ?_|refine zN ?_|refine zI ?_|refine zD ?_|refine AIdx.mk ⟨_,⟨by decide +kernel,rfl⟩,?_⟩|refine zC ?_|refine zT ?_|refine zU ?_|refine AApp.mk (by decide +kernel) (by decide +kernel) ?_|refine AMake.wr ?_|refine ADraw.auto (by kernel_rfl) ?_);(conv=>whnf)))
 refine .pure _ _ ?_ ⟨rfl,rfl⟩ (cw) fun _=>?_
 ·(repeat' (first|exact trivial|refine aI ?_ ?_|decide +kernel|exact rfl))
 conv=>whnf
 (repeat' ((first|refine LoopE.step 300 ?_|refine zY ?_|refine zN ?_|refine zI ?_|refine zD ?_|refine AIdx.mk ⟨_,⟨by decide +kernel,rfl⟩,?_⟩|refine zC ?_|refine zT ?_|refine zU ?_|refine AApp.mk (by decide +kernel) (by decide +kernel) ?_|refine AMake.wr ?_|refine ADraw.auto (by kernel_rfl) ?_);(conv=>whnf)))
 refine .pure _ _ ?_ ⟨rfl,rfl⟩ (cw) fun _=>?_
 ·(repeat' (first|exact trivial|refine aI ?_ ?_|decide +kernel|exact rfl))
 conv=>whnf
 (repeat' ((first|refine LoopE.step 300 ?_|refine zY ?_|refine zN ?_|refine zI ?_|refine zD ?_|refine AIdx.mk ⟨_,⟨by decide +kernel,rfl⟩,?_⟩|refine zC ?_|refine zT ?_|refine zU ?_|refine AApp.mk (by decide +kernel) (by decide +kernel) ?_|refine AMake.wr ?_|refine ADraw.auto (by kernel_rfl) ?_);(conv=>whnf)))
 refine .pure _ _ ?_ ⟨rfl,rfl⟩ (cw) fun _=>?_
 ·(repeat' (first|exact trivial|refine aI ?_ ?_|decide +kernel|exact rfl))
 conv=>whnf
 (repeat' ((first|refine LoopE.step 300 ?_|refine zY ?_|refine zN ?_|refine zI ?_|refine zD ?_|refine AIdx.mk ⟨_,⟨by decide +kernel,rfl⟩,?_⟩|refine zC ?_|refine zT ?_|refine zU ?_|refine AApp.mk (by decide +kernel) (by decide +kernel) ?_|refine AMake.wr ?_|refine ADraw.auto (by kernel_rfl) ?_);(conv=>whnf)))
 refine fM ?_;(conv=>whnf);refine ⟨?_,rfl⟩;conv=>whnf
 exact ⟨rfl,rfl⟩

theorem r_sub : FnH Tryz.prog 73 [wL [2147483648],wL [2147483648]] [] (.tup [wL [],.int .i64 0]) []:=by
 have cw:=c_rWord [2147483648] 0
 have ct:=c_rTrim [0] (by decide)
 rw [show wd (val [0]) = [] from by decide +kernel] at ct
 refine FnH.intro lay mixed Tryz.func73 (by kernel_rfl) rfl (by kernel_rfl) rfl fun hok=>?_
 conv=>whnf
 (repeat' ((first|refine LoopE.step 300 ?_|refine zY ?_|refine zN ?_|refine zI ?_|refine zD ?_|refine AIdx.mk ⟨_,⟨by decide +kernel,rfl⟩,?_⟩|refine zC ?_|refine zT ?_|refine zU ?_|refine AApp.mk (by decide +kernel) (by decide +kernel) ?_|refine AMake.wr ?_|refine ADraw.auto (by kernel_rfl) ?_);(conv=>whnf)))
 refine .pure _ _ ?_ ⟨rfl,rfl⟩ (r_cmp) fun _=>?_
 ·(repeat' (first|exact trivial|refine aI ?_ ?_|decide +kernel|exact rfl))
 conv=>whnf
 (repeat' ((first|refine LoopE.step 300 ?_|refine zY ?_|refine zN ?_|refine zI ?_|refine zD ?_|refine AIdx.mk ⟨_,⟨by decide +kernel,rfl⟩,?_⟩|refine zC ?_|refine zT ?_|refine zU ?_|refine AApp.mk (by decide +kernel) (by decide +kernel) ?_|refine AMake.wr ?_|refine ADraw.auto (by kernel_rfl) ?_);(conv=>whnf)))
 refine .pure _ _ ?_ ⟨rfl,rfl⟩ (cw) fun _=>?_
 ·(repeat' (first|exact trivial|refine aI ?_ ?_|decide +kernel|exact rfl))
 conv=>whnf
 (repeat' ((first|refine LoopE.step 300 ?_|refine zY ?_|refine zN ?_|refine zI ?_|refine zD ?_|refine AIdx.mk ⟨_,⟨by decide +kernel,rfl⟩,?_⟩|refine zC ?_|refine zT ?_|refine zU ?_|refine AApp.mk (by decide +kernel) (by decide +kernel) ?_|refine AMake.wr ?_|refine ADraw.auto (by kernel_rfl) ?_);(conv=>whnf)))
 refine .pure _ _ ?_ ⟨rfl,rfl⟩ (cw) fun _=>?_
 ·(repeat' (first|exact trivial|refine aI ?_ ?_|decide +kernel|exact rfl))
 conv=>whnf
 (repeat' ((first|refine LoopE.step 300 ?_|refine zY ?_|refine zN ?_|refine zI ?_|refine zD ?_|refine AIdx.mk ⟨_,⟨by decide +kernel,rfl⟩,?_⟩|refine zC ?_|refine zT ?_|refine zU ?_|refine AApp.mk (by decide +kernel) (by decide +kernel) ?_|refine AMake.wr ?_|refine ADraw.auto (by kernel_rfl) ?_);(conv=>whnf)))
 refine .pure _ _ ?_ ⟨rfl,rfl⟩ (ct) fun _=>?_
 ·(repeat' (first|exact trivial|refine aI ?_ ?_|decide +kernel|exact rfl))
 conv=>whnf
 (repeat' ((first|refine LoopE.step 300 ?_|refine zY ?_|refine zN ?_|refine zI ?_|refine zD ?_|refine AIdx.mk ⟨_,⟨by decide +kernel,rfl⟩,?_⟩|refine zC ?_|refine zT ?_|refine zU ?_|refine AApp.mk (by decide +kernel) (by decide +kernel) ?_|refine AMake.wr ?_|refine ADraw.auto (by kernel_rfl) ?_);(conv=>whnf)))
 refine fM ?_;(conv=>whnf);refine ⟨?_,rfl⟩;conv=>whnf
 all_goals exact wk

theorem r_down : FnH Tryz.prog 243 [wL [],.int .i64 31] [] (wL []) []:=by
 have ct:=c_rTrim [] (by decide)
 rw [show wd (val []) = [] from by decide +kernel] at ct
 refine FnH.intro lay mixed Tryz.func243 (by kernel_rfl) rfl (by kernel_rfl) rfl fun hok=>?_
 conv=>whnf
 (repeat' ((first|refine LoopE.step 300 ?_|refine zY ?_|refine zN ?_|refine zI ?_|refine zD ?_|refine AIdx.mk ⟨_,⟨by decide +kernel,rfl⟩,?_⟩|refine zC ?_|refine zT ?_|refine zU ?_|refine AApp.mk (by decide +kernel) (by decide +kernel) ?_|refine AMake.wr ?_|refine ADraw.auto (by kernel_rfl) ?_);(conv=>whnf)))
 refine .pure _ _ ?_ ⟨rfl,rfl⟩ (ct) fun _=>?_
 ·(repeat' (first|exact trivial|refine aI ?_ ?_|decide +kernel|exact rfl))
 conv=>whnf
 (repeat' ((first|refine LoopE.step 300 ?_|refine zY ?_|refine zN ?_|refine zI ?_|refine zD ?_|refine AIdx.mk ⟨_,⟨by decide +kernel,rfl⟩,?_⟩|refine zC ?_|refine zT ?_|refine zU ?_|refine AApp.mk (by decide +kernel) (by decide +kernel) ?_|refine AMake.wr ?_|refine ADraw.auto (by kernel_rfl) ?_);(conv=>whnf)))
 refine fM ?_;(conv=>whnf);refine ⟨?_,rfl⟩;conv=>whnf
 all_goals exact wk

theorem r_mul : FnH Tryz.prog 69 [wL [2147483648],wL [1]] [] (wL [2147483648]) []:=by
 have cw0:=c_rWord [1] 0
 have cw1:=c_rWord [1] 1
 have ct:=c_rTrim [2147483648,0,0] (by decide)
 rw [show wd (val [2147483648,0,0]) = [2147483648] from by decide +kernel] at ct
 refine FnH.intro lay mixed Tryz.func69 (by kernel_rfl) rfl (by kernel_rfl) rfl fun hok=>?_
 conv=>whnf
 (repeat' ((first|refine LoopE.step 300 ?_|refine zY ?_|refine zN ?_|refine zI ?_|refine zD ?_|refine AIdx.mk ⟨_,⟨by decide +kernel,rfl⟩,?_⟩|refine zC ?_|refine zT ?_|refine zU ?_|refine AApp.mk (by decide +kernel) (by decide +kernel) ?_|refine AMake.wr ?_|refine ADraw.auto (by kernel_rfl) ?_);(conv=>whnf)))
 refine ACallP.pure _ _ ?_ ⟨rfl,rfl⟩ (cw0) ?_
 ·(repeat' (first|exact trivial|refine aI ?_ ?_|decide +kernel|exact rfl))
 conv=>whnf
 (repeat' ((first|refine LoopE.step 300 ?_|refine zY ?_|refine zN ?_|refine zI ?_|refine zD ?_|refine AIdx.mk ⟨_,⟨by decide +kernel,rfl⟩,?_⟩|refine zC ?_|refine zT ?_|refine zU ?_|refine AApp.mk (by decide +kernel) (by decide +kernel) ?_|refine AMake.wr ?_|refine ADraw.auto (by kernel_rfl) ?_);(conv=>whnf)))
 refine ACallP.pure _ _ ?_ ⟨rfl,rfl⟩ (cw1) ?_
 ·(repeat' (first|exact trivial|refine aI ?_ ?_|decide +kernel|exact rfl))
 conv=>whnf
 (repeat' ((first|refine LoopE.step 300 ?_|refine zY ?_|refine zN ?_|refine zI ?_|refine zD ?_|refine AIdx.mk ⟨_,⟨by decide +kernel,rfl⟩,?_⟩|refine zC ?_|refine zT ?_|refine zU ?_|refine AApp.mk (by decide +kernel) (by decide +kernel) ?_|refine AMake.wr ?_|refine ADraw.auto (by kernel_rfl) ?_);(conv=>whnf)))
 refine .gen _ _ (FnH.frz 0 rfl rfl (by decide +kernel) (FnH.ofPure (ct) ?_ ⟨rfl,rfl⟩)) fun _=>?_
 ·(repeat' (first|exact trivial|refine aI ?_ ?_|decide +kernel|exact rfl))
 conv=>whnf
 (repeat' ((first|refine LoopE.step 300 ?_|refine zY ?_|refine zN ?_|refine zI ?_|refine zD ?_|refine AIdx.mk ⟨_,⟨by decide +kernel,rfl⟩,?_⟩|refine zC ?_|refine zT ?_|refine zU ?_|refine AApp.mk (by decide +kernel) (by decide +kernel) ?_|refine AMake.wr ?_|refine ADraw.auto (by kernel_rfl) ?_);(conv=>whnf)))
 refine fM ?_;(conv=>whnf);refine ⟨?_,rfl⟩;conv=>whnf
 all_goals exact wk

theorem r_div11 : FnH Tryz.prog 154 [wL [1],wL [1]] [] (.tup [wL [1],wL [],.int .i64 0]) []:=by
 have cw0:=c_rWord [2147483648] 0
 have cw1:=c_rWord [2147483648] 1
 have ct1:=c_rTrim [1] (by decide)
 rw [show wd (val [1]) = [1] from by decide +kernel] at ct1
 have ct2:=c_rTrim [2147483648] (by decide)
 rw [show wd (val [2147483648]) = [2147483648] from by decide +kernel] at ct2
 refine FnH.intro lay mixed Tryz.func154 (by kernel_rfl) rfl (by kernel_rfl) rfl fun hok=>?_
 conv=>whnf
 refine .pure _ _ ?_ ⟨rfl,rfl⟩ (ct1) fun _=>?_
 ·(repeat' (first|exact trivial|refine aI ?_ ?_|decide +kernel|exact rfl))
 conv=>whnf
 (repeat' ((first|refine LoopE.step 300 ?_|refine zY ?_|refine zN ?_|refine zI ?_|refine zD ?_|refine AIdx.mk ⟨_,⟨by decide +kernel,rfl⟩,?_⟩|refine zC ?_|refine zT ?_|refine zU ?_|refine AApp.mk (by decide +kernel) (by decide +kernel) ?_|refine AMake.wr ?_|refine ADraw.auto (by kernel_rfl) ?_);(conv=>whnf)))
 refine .pure _ _ ?_ ⟨rfl,rfl⟩ (r_up1) fun _=>?_
 ·(repeat' (first|exact trivial|refine aI ?_ ?_|decide +kernel|exact rfl))
 conv=>whnf
 refine .pure _ _ ?_ ⟨rfl,rfl⟩ (r_up1) fun _=>?_
 ·(repeat' (first|exact trivial|refine aI ?_ ?_|decide +kernel|exact rfl))
 conv=>whnf
 refine ADraw.mk ⟨[true,true,false,true,true,true,true,true,true,true,true,true,true,true,true],by kernel_rfl,?_⟩
 conv=>whnf
 refine And.intro (by decide +kernel) (.wr ?_)
 conv=>whnf
 refine And.intro (inr64 (by decide +kernel) (by decide +kernel)) ?_
 conv=>whnf
 refine And.intro (inr64 (by decide +kernel) (by decide +kernel)) ?_
 conv=>whnf
 refine ACut.mk ⟨by decide +kernel,?_⟩
 conv=>whnf
 refine AApp0.pure (by decide +kernel) (by decide +kernel) ⟨rfl,?_⟩
 conv=>whnf
 (repeat' ((first|refine LoopE.step 300 ?_|refine zY ?_|refine zN ?_|refine zI ?_|refine zD ?_|refine AIdx.mk ⟨_,⟨by decide +kernel,rfl⟩,?_⟩|refine zC ?_|refine zT ?_|refine zU ?_|refine AApp.mk (by decide +kernel) (by decide +kernel) ?_|refine AMake.wr ?_|refine ADraw.auto (by kernel_rfl) ?_);(conv=>whnf)))
 refine .pure _ _ ?_ ⟨rfl,rfl⟩ (ct2) fun _=>?_
 ·(repeat' (first|exact trivial|refine aI ?_ ?_|decide +kernel|exact rfl))
 conv=>whnf
 (repeat' ((first|refine LoopE.step 300 ?_|refine zY ?_|refine zN ?_|refine zI ?_|refine zD ?_|refine AIdx.mk ⟨_,⟨by decide +kernel,rfl⟩,?_⟩|refine zC ?_|refine zT ?_|refine zU ?_|refine AApp.mk (by decide +kernel) (by decide +kernel) ?_|refine AMake.wr ?_|refine ADraw.auto (by kernel_rfl) ?_);(conv=>whnf)))
 refine .pure _ _ ?_ ⟨rfl,rfl⟩ (cw1) fun _=>?_
 ·(repeat' (first|exact trivial|refine aI ?_ ?_|decide +kernel|exact rfl))
 conv=>whnf
 (repeat' ((first|refine LoopE.step 300 ?_|refine zY ?_|refine zN ?_|refine zI ?_|refine zD ?_|refine AIdx.mk ⟨_,⟨by decide +kernel,rfl⟩,?_⟩|refine zC ?_|refine zT ?_|refine zU ?_|refine AApp.mk (by decide +kernel) (by decide +kernel) ?_|refine AMake.wr ?_|refine ADraw.auto (by kernel_rfl) ?_);(conv=>whnf)))
 refine .pure _ _ ?_ ⟨rfl,rfl⟩ (cw0) fun _=>?_
 ·(repeat' (first|exact trivial|refine aI ?_ ?_|decide +kernel|exact rfl))
 conv=>whnf
 (repeat' ((first|refine LoopE.step 300 ?_|refine zY ?_|refine zN ?_|refine zI ?_|refine zD ?_|refine AIdx.mk ⟨_,⟨by decide +kernel,rfl⟩,?_⟩|refine zC ?_|refine zT ?_|refine zU ?_|refine AApp.mk (by decide +kernel) (by decide +kernel) ?_|refine AMake.wr ?_|refine ADraw.auto (by kernel_rfl) ?_);(conv=>whnf)))
 refine .pure _ _ ?_ ⟨rfl,rfl⟩ (cw0) fun _=>?_
 ·(repeat' (first|exact trivial|refine aI ?_ ?_|decide +kernel|exact rfl))
 conv=>whnf
 (repeat' ((first|refine LoopE.step 300 ?_|refine zY ?_|refine zN ?_|refine zI ?_|refine zD ?_|refine AIdx.mk ⟨_,⟨by decide +kernel,rfl⟩,?_⟩|refine zC ?_|refine zT ?_|refine zU ?_|refine AApp.mk (by decide +kernel) (by decide +kernel) ?_|refine AMake.wr ?_|refine ADraw.auto (by kernel_rfl) ?_);(conv=>whnf)))
 refine .pure _ _ ?_ ⟨rfl,rfl⟩ (r_mul) fun _=>?_
 ·(repeat' (first|exact trivial|refine aI ?_ ?_|decide +kernel|exact rfl))
 conv=>whnf
 (repeat' ((first|refine LoopE.step 300 ?_|refine zY ?_|refine zN ?_|refine zI ?_|refine zD ?_|refine AIdx.mk ⟨_,⟨by decide +kernel,rfl⟩,?_⟩|refine zC ?_|refine zT ?_|refine zU ?_|refine AApp.mk (by decide +kernel) (by decide +kernel) ?_|refine AMake.wr ?_|refine ADraw.auto (by kernel_rfl) ?_);(conv=>whnf)))
 refine .pure _ _ ?_ ⟨rfl,rfl⟩ (r_cmp) fun _=>?_
 ·(repeat' (first|exact trivial|refine aI ?_ ?_|decide +kernel|exact rfl))
 conv=>whnf
 (repeat' ((first|refine LoopE.step 300 ?_|refine zY ?_|refine zN ?_|refine zI ?_|refine zD ?_|refine AIdx.mk ⟨_,⟨by decide +kernel,rfl⟩,?_⟩|refine zC ?_|refine zT ?_|refine zU ?_|refine AApp.mk (by decide +kernel) (by decide +kernel) ?_|refine AMake.wr ?_|refine ADraw.auto (by kernel_rfl) ?_);(conv=>whnf)))
 refine .pure _ _ ?_ ⟨rfl,rfl⟩ (r_sub) fun _=>?_
 ·(repeat' (first|exact trivial|refine aI ?_ ?_|decide +kernel|exact rfl))
 conv=>whnf
 (repeat' ((first|refine LoopE.step 300 ?_|refine zY ?_|refine zN ?_|refine zI ?_|refine zD ?_|refine AIdx.mk ⟨_,⟨by decide +kernel,rfl⟩,?_⟩|refine zC ?_|refine zT ?_|refine zU ?_|refine AApp.mk (by decide +kernel) (by decide +kernel) ?_|refine AMake.wr ?_|refine ADraw.auto (by kernel_rfl) ?_);(conv=>whnf)))
 refine .gen _ _ (FnH.frz 0 rfl rfl (by decide +kernel) (FnH.ofPure (ct1) ?_ ⟨rfl,rfl⟩)) fun _=>?_
 ·(repeat' (first|exact trivial|refine aI ?_ ?_|decide +kernel|exact rfl))
 conv=>whnf
 (repeat' ((first|refine LoopE.step 300 ?_|refine zY ?_|refine zN ?_|refine zI ?_|refine zD ?_|refine AIdx.mk ⟨_,⟨by decide +kernel,rfl⟩,?_⟩|refine zC ?_|refine zT ?_|refine zU ?_|refine AApp.mk (by decide +kernel) (by decide +kernel) ?_|refine AMake.wr ?_|refine ADraw.auto (by kernel_rfl) ?_);(conv=>whnf)))
 refine .pure _ _ ?_ ⟨rfl,rfl⟩ (r_down) fun _=>?_
 ·(repeat' (first|exact trivial|refine aI ?_ ?_|decide +kernel|exact rfl))
 conv=>whnf
 (repeat' ((first|refine LoopE.step 300 ?_|refine zY ?_|refine zN ?_|refine zI ?_|refine zD ?_|refine AIdx.mk ⟨_,⟨by decide +kernel,rfl⟩,?_⟩|refine zC ?_|refine zT ?_|refine zU ?_|refine AApp.mk (by decide +kernel) (by decide +kernel) ?_|refine AMake.wr ?_|refine ADraw.auto (by kernel_rfl) ?_);(conv=>whnf)))
 refine fM ?_;(conv=>whnf);refine ⟨?_,rfl⟩;conv=>whnf
 (repeat' (first|exact trivial|refine aI ?_ ?_|decide +kernel|exact rfl))

theorem r_div101 : FnH Tryz.prog 154 [wL [1,0],wL [1]] [] (.tup [wL [1],wL [],.int .i64 0]) []:=by
 have cw0:=c_rWord [2147483648] 0
 have cw1:=c_rWord [2147483648] 1
 have ct1:=c_rTrim [1] (by decide)
 rw [show wd (val [1]) = [1] from by decide +kernel] at ct1
 have ct2:=c_rTrim [2147483648] (by decide)
 rw [show wd (val [2147483648]) = [2147483648] from by decide +kernel] at ct2
 refine FnH.intro lay mixed Tryz.func154 (by kernel_rfl) rfl (by kernel_rfl) rfl fun hok=>?_
 conv=>whnf
 refine .pure _ _ ?_ ⟨rfl,rfl⟩ (ct1) fun _=>?_
 ·(repeat' (first|exact trivial|refine aI ?_ ?_|decide +kernel|exact rfl))
 conv=>whnf
 (repeat' ((first|refine LoopE.step 300 ?_|refine zY ?_|refine zN ?_|refine zI ?_|refine zD ?_|refine AIdx.mk ⟨_,⟨by decide +kernel,rfl⟩,?_⟩|refine zC ?_|refine zT ?_|refine zU ?_|refine AApp.mk (by decide +kernel) (by decide +kernel) ?_|refine AMake.wr ?_|refine ADraw.auto (by kernel_rfl) ?_);(conv=>whnf)))
 refine .pure _ _ ?_ ⟨rfl,rfl⟩ (r_up2) fun _=>?_
 ·(repeat' (first|exact trivial|refine aI ?_ ?_|decide +kernel|exact rfl))
 conv=>whnf
 refine .pure _ _ ?_ ⟨rfl,rfl⟩ (r_up1) fun _=>?_
 ·(repeat' (first|exact trivial|refine aI ?_ ?_|decide +kernel|exact rfl))
 conv=>whnf
 refine ADraw.mk ⟨[true,true,false,true,true,true,true,true,true,true,true,true,true,true,true],by kernel_rfl,?_⟩
 conv=>whnf
 refine And.intro (by decide +kernel) (.wr ?_)
 conv=>whnf
 refine And.intro (inr64 (by decide +kernel) (by decide +kernel)) ?_
 conv=>whnf
 refine And.intro (inr64 (by decide +kernel) (by decide +kernel)) ?_
 conv=>whnf
 refine ACut.mk ⟨by decide +kernel,?_⟩
 conv=>whnf
 refine AApp0.pure (by decide +kernel) (by decide +kernel) ⟨rfl,?_⟩
 conv=>whnf
 (repeat' ((first|refine LoopE.step 300 ?_|refine zY ?_|refine zN ?_|refine zI ?_|refine zD ?_|refine AIdx.mk ⟨_,⟨by decide +kernel,rfl⟩,?_⟩|refine zC ?_|refine zT ?_|refine zU ?_|refine AApp.mk (by decide +kernel) (by decide +kernel) ?_|refine AMake.wr ?_|refine ADraw.auto (by kernel_rfl) ?_);(conv=>whnf)))
 refine .pure _ _ ?_ ⟨rfl,rfl⟩ (ct2) fun _=>?_
 ·(repeat' (first|exact trivial|refine aI ?_ ?_|decide +kernel|exact rfl))
 conv=>whnf
 (repeat' ((first|refine LoopE.step 300 ?_|refine zY ?_|refine zN ?_|refine zI ?_|refine zD ?_|refine AIdx.mk ⟨_,⟨by decide +kernel,rfl⟩,?_⟩|refine zC ?_|refine zT ?_|refine zU ?_|refine AApp.mk (by decide +kernel) (by decide +kernel) ?_|refine AMake.wr ?_|refine ADraw.auto (by kernel_rfl) ?_);(conv=>whnf)))
 refine .pure _ _ ?_ ⟨rfl,rfl⟩ (cw1) fun _=>?_
 ·(repeat' (first|exact trivial|refine aI ?_ ?_|decide +kernel|exact rfl))
 conv=>whnf
 (repeat' ((first|refine LoopE.step 300 ?_|refine zY ?_|refine zN ?_|refine zI ?_|refine zD ?_|refine AIdx.mk ⟨_,⟨by decide +kernel,rfl⟩,?_⟩|refine zC ?_|refine zT ?_|refine zU ?_|refine AApp.mk (by decide +kernel) (by decide +kernel) ?_|refine AMake.wr ?_|refine ADraw.auto (by kernel_rfl) ?_);(conv=>whnf)))
 refine .pure _ _ ?_ ⟨rfl,rfl⟩ (cw0) fun _=>?_
 ·(repeat' (first|exact trivial|refine aI ?_ ?_|decide +kernel|exact rfl))
 conv=>whnf
 (repeat' ((first|refine LoopE.step 300 ?_|refine zY ?_|refine zN ?_|refine zI ?_|refine zD ?_|refine AIdx.mk ⟨_,⟨by decide +kernel,rfl⟩,?_⟩|refine zC ?_|refine zT ?_|refine zU ?_|refine AApp.mk (by decide +kernel) (by decide +kernel) ?_|refine AMake.wr ?_|refine ADraw.auto (by kernel_rfl) ?_);(conv=>whnf)))
 refine .pure _ _ ?_ ⟨rfl,rfl⟩ (cw0) fun _=>?_
 ·(repeat' (first|exact trivial|refine aI ?_ ?_|decide +kernel|exact rfl))
 conv=>whnf
 (repeat' ((first|refine LoopE.step 300 ?_|refine zY ?_|refine zN ?_|refine zI ?_|refine zD ?_|refine AIdx.mk ⟨_,⟨by decide +kernel,rfl⟩,?_⟩|refine zC ?_|refine zT ?_|refine zU ?_|refine AApp.mk (by decide +kernel) (by decide +kernel) ?_|refine AMake.wr ?_|refine ADraw.auto (by kernel_rfl) ?_);(conv=>whnf)))
 refine .pure _ _ ?_ ⟨rfl,rfl⟩ (r_mul) fun _=>?_
 ·(repeat' (first|exact trivial|refine aI ?_ ?_|decide +kernel|exact rfl))
 conv=>whnf
 (repeat' ((first|refine LoopE.step 300 ?_|refine zY ?_|refine zN ?_|refine zI ?_|refine zD ?_|refine AIdx.mk ⟨_,⟨by decide +kernel,rfl⟩,?_⟩|refine zC ?_|refine zT ?_|refine zU ?_|refine AApp.mk (by decide +kernel) (by decide +kernel) ?_|refine AMake.wr ?_|refine ADraw.auto (by kernel_rfl) ?_);(conv=>whnf)))
 refine .pure _ _ ?_ ⟨rfl,rfl⟩ (r_cmp) fun _=>?_
 ·(repeat' (first|exact trivial|refine aI ?_ ?_|decide +kernel|exact rfl))
 conv=>whnf
 (repeat' ((first|refine LoopE.step 300 ?_|refine zY ?_|refine zN ?_|refine zI ?_|refine zD ?_|refine AIdx.mk ⟨_,⟨by decide +kernel,rfl⟩,?_⟩|refine zC ?_|refine zT ?_|refine zU ?_|refine AApp.mk (by decide +kernel) (by decide +kernel) ?_|refine AMake.wr ?_|refine ADraw.auto (by kernel_rfl) ?_);(conv=>whnf)))
 refine .pure _ _ ?_ ⟨rfl,rfl⟩ (r_sub) fun _=>?_
 ·(repeat' (first|exact trivial|refine aI ?_ ?_|decide +kernel|exact rfl))
 conv=>whnf
 (repeat' ((first|refine LoopE.step 300 ?_|refine zY ?_|refine zN ?_|refine zI ?_|refine zD ?_|refine AIdx.mk ⟨_,⟨by decide +kernel,rfl⟩,?_⟩|refine zC ?_|refine zT ?_|refine zU ?_|refine AApp.mk (by decide +kernel) (by decide +kernel) ?_|refine AMake.wr ?_|refine ADraw.auto (by kernel_rfl) ?_);(conv=>whnf)))
 refine .gen _ _ (FnH.frz 0 rfl rfl (by decide +kernel) (FnH.ofPure (ct1) ?_ ⟨rfl,rfl⟩)) fun _=>?_
 ·(repeat' (first|exact trivial|refine aI ?_ ?_|decide +kernel|exact rfl))
 conv=>whnf
 (repeat' ((first|refine LoopE.step 300 ?_|refine zY ?_|refine zN ?_|refine zI ?_|refine zD ?_|refine AIdx.mk ⟨_,⟨by decide +kernel,rfl⟩,?_⟩|refine zC ?_|refine zT ?_|refine zU ?_|refine AApp.mk (by decide +kernel) (by decide +kernel) ?_|refine AMake.wr ?_|refine ADraw.auto (by kernel_rfl) ?_);(conv=>whnf)))
 refine .pure _ _ ?_ ⟨rfl,rfl⟩ (r_down) fun _=>?_
 ·(repeat' (first|exact trivial|refine aI ?_ ?_|decide +kernel|exact rfl))
 conv=>whnf
 (repeat' ((first|refine LoopE.step 300 ?_|refine zY ?_|refine zN ?_|refine zI ?_|refine zD ?_|refine AIdx.mk ⟨_,⟨by decide +kernel,rfl⟩,?_⟩|refine zC ?_|refine zT ?_|refine zU ?_|refine AApp.mk (by decide +kernel) (by decide +kernel) ?_|refine AMake.wr ?_|refine ADraw.auto (by kernel_rfl) ?_);(conv=>whnf)))
 refine fM ?_;(conv=>whnf);refine ⟨?_,rfl⟩;conv=>whnf
 (repeat' (first|exact trivial|refine aI ?_ ?_|decide +kernel|exact rfl))

theorem r_gcd : FnH Tryz.prog 153 [wL [1,0],wL [1,0]] [] (wL [1]) []:=by
 have ct:=c_rTrim [1,0] (by decide)
 rw [show wd (val [1,0]) = [1] from by decide +kernel] at ct
 refine FnH.intro lay mixed Tryz.func153 (by kernel_rfl) rfl (by kernel_rfl) rfl fun hok=>?_
 conv=>whnf
 refine .pure _ _ ?_ ⟨rfl,rfl⟩ (ct) fun _=>?_
 ·(repeat' (first|exact trivial|refine aI ?_ ?_|decide +kernel|exact rfl))
 conv=>whnf
 (repeat' ((first|refine LoopE.step 300 ?_|refine zY ?_|refine zN ?_|refine zI ?_|refine zD ?_|refine AIdx.mk ⟨_,⟨by decide +kernel,rfl⟩,?_⟩|refine zC ?_|refine zT ?_|refine zU ?_|refine AApp.mk (by decide +kernel) (by decide +kernel) ?_|refine AMake.wr ?_|refine ADraw.auto (by kernel_rfl) ?_);(conv=>whnf)))
 refine .pure _ _ ?_ ⟨rfl,rfl⟩ (ct) fun _=>?_
 ·(repeat' (first|exact trivial|refine aI ?_ ?_|decide +kernel|exact rfl))
 conv=>whnf
 (repeat' ((first|refine LoopE.step 300 ?_|refine zY ?_|refine zN ?_|refine zI ?_|refine zD ?_|refine AIdx.mk ⟨_,⟨by decide +kernel,rfl⟩,?_⟩|refine zC ?_|refine zT ?_|refine zU ?_|refine AApp.mk (by decide +kernel) (by decide +kernel) ?_|refine AMake.wr ?_|refine ADraw.auto (by kernel_rfl) ?_);(conv=>whnf)))
 refine .pure _ _ ?_ ⟨rfl,rfl⟩ (r_div11) fun _=>?_
 ·(repeat' (first|exact trivial|refine aI ?_ ?_|decide +kernel|exact rfl))
 conv=>whnf
 (repeat' ((first|refine LoopE.step 300 ?_|refine zY ?_|refine zN ?_|refine zI ?_|refine zD ?_|refine AIdx.mk ⟨_,⟨by decide +kernel,rfl⟩,?_⟩|refine zC ?_|refine zT ?_|refine zU ?_|refine AApp.mk (by decide +kernel) (by decide +kernel) ?_|refine AMake.wr ?_|refine ADraw.auto (by kernel_rfl) ?_);(conv=>whnf)))
 refine fM ?_;(conv=>whnf);refine ⟨?_,rfl⟩;conv=>whnf
 (repeat' (first|exact trivial|refine aI ?_ ?_|decide +kernel|exact rfl))

theorem r_from : FnH Tryz.prog 70 [.bool false,wL [1,0],wL [1,0]] [] (.tup [Rat.av ⟨false,[1],[1]⟩,.int .i64 0]) []:=by
 refine FnH.intro lay mixed Tryz.func70 (by kernel_rfl) rfl (by kernel_rfl) rfl fun hok=>?_
 conv=>whnf
 refine .pure _ _ ?_ ⟨rfl,rfl⟩ (r_bits) fun _=>?_
 ·(repeat' (first|exact trivial|refine aI ?_ ?_|decide +kernel|exact rfl))
 conv=>whnf
 (repeat' ((first|refine LoopE.step 300 ?_|refine zY ?_|refine zN ?_|refine zI ?_|refine zD ?_|refine AIdx.mk ⟨_,⟨by decide +kernel,rfl⟩,?_⟩|refine zC ?_|refine zT ?_|refine zU ?_|refine AApp.mk (by decide +kernel) (by decide +kernel) ?_|refine AMake.wr ?_|refine ADraw.auto (by kernel_rfl) ?_);(conv=>whnf)))
 refine .pure _ _ ?_ ⟨rfl,rfl⟩ (r_bits) fun _=>?_
 ·(repeat' (first|exact trivial|refine aI ?_ ?_|decide +kernel|exact rfl))
 conv=>whnf
 (repeat' ((first|refine LoopE.step 300 ?_|refine zY ?_|refine zN ?_|refine zI ?_|refine zD ?_|refine AIdx.mk ⟨_,⟨by decide +kernel,rfl⟩,?_⟩|refine zC ?_|refine zT ?_|refine zU ?_|refine AApp.mk (by decide +kernel) (by decide +kernel) ?_|refine AMake.wr ?_|refine ADraw.auto (by kernel_rfl) ?_);(conv=>whnf)))
 refine .pure _ _ ?_ ⟨rfl,rfl⟩ (r_gcd) fun _=>?_
 ·(repeat' (first|exact trivial|refine aI ?_ ?_|decide +kernel|exact rfl))
 conv=>whnf
 (repeat' ((first|refine LoopE.step 300 ?_|refine zY ?_|refine zN ?_|refine zI ?_|refine zD ?_|refine AIdx.mk ⟨_,⟨by decide +kernel,rfl⟩,?_⟩|refine zC ?_|refine zT ?_|refine zU ?_|refine AApp.mk (by decide +kernel) (by decide +kernel) ?_|refine AMake.wr ?_|refine ADraw.auto (by kernel_rfl) ?_);(conv=>whnf)))
 refine .pure _ _ ?_ ⟨rfl,rfl⟩ (r_div101) fun _=>?_
 ·(repeat' (first|exact trivial|refine aI ?_ ?_|decide +kernel|exact rfl))
 conv=>whnf
 (repeat' ((first|refine LoopE.step 300 ?_|refine zY ?_|refine zN ?_|refine zI ?_|refine zD ?_|refine AIdx.mk ⟨_,⟨by decide +kernel,rfl⟩,?_⟩|refine zC ?_|refine zT ?_|refine zU ?_|refine AApp.mk (by decide +kernel) (by decide +kernel) ?_|refine AMake.wr ?_|refine ADraw.auto (by kernel_rfl) ?_);(conv=>whnf)))
 refine .pure _ _ ?_ ⟨rfl,rfl⟩ (r_div101) fun _=>?_
 ·(repeat' (first|exact trivial|refine aI ?_ ?_|decide +kernel|exact rfl))
 conv=>whnf
 (repeat' ((first|refine LoopE.step 300 ?_|refine zY ?_|refine zN ?_|refine zI ?_|refine zD ?_|refine AIdx.mk ⟨_,⟨by decide +kernel,rfl⟩,?_⟩|refine zC ?_|refine zT ?_|refine zU ?_|refine AApp.mk (by decide +kernel) (by decide +kernel) ?_|refine AMake.wr ?_|refine ADraw.auto (by kernel_rfl) ?_);(conv=>whnf)))
 refine fM ?_;(conv=>whnf);refine ⟨?_,rfl⟩;conv=>whnf
 (repeat' (first|exact trivial|refine aI ?_ ?_|decide +kernel|exact rfl))

theorem r_make : FnH Tryz.prog 46 [.int .i64 1,.int .i64 1] [] (.tup [Rat.av ⟨false,[1],[1]⟩,.int .i64 0]) []:=by
 refine FnH.intro lay mixed Tryz.func46 (by kernel_rfl) rfl (by kernel_rfl) rfl fun hok=>?_
 conv=>whnf
 refine .pure _ _ ?_ ⟨rfl,rfl⟩ (r_size) fun _=>?_
 ·(repeat' (first|exact trivial|refine aI ?_ ?_|decide +kernel|exact rfl))
 conv=>whnf
 (repeat' ((first|refine LoopE.step 300 ?_|refine zY ?_|refine zN ?_|refine zI ?_|refine zD ?_|refine AIdx.mk ⟨_,⟨by decide +kernel,rfl⟩,?_⟩|refine zC ?_|refine zT ?_|refine zU ?_|refine AApp.mk (by decide +kernel) (by decide +kernel) ?_|refine AMake.wr ?_|refine ADraw.auto (by kernel_rfl) ?_);(conv=>whnf)))
 refine .pure _ _ ?_ ⟨rfl,rfl⟩ (r_size) fun _=>?_
 ·(repeat' (first|exact trivial|refine aI ?_ ?_|decide +kernel|exact rfl))
 conv=>whnf
 (repeat' ((first|refine LoopE.step 300 ?_|refine zY ?_|refine zN ?_|refine zI ?_|refine zD ?_|refine AIdx.mk ⟨_,⟨by decide +kernel,rfl⟩,?_⟩|refine zC ?_|refine zT ?_|refine zU ?_|refine AApp.mk (by decide +kernel) (by decide +kernel) ?_|refine AMake.wr ?_|refine ADraw.auto (by kernel_rfl) ?_);(conv=>whnf)))
 refine .pure _ _ ?_ ⟨rfl,rfl⟩ r_from fun _=>?_
 ·refine ⟨?_,le0_refl _,le0_refl _,trivial⟩
  show _ ↔ _
  simp
 conv=>whnf
 refine fM ?_;(conv=>whnf);refine ⟨?_,rfl⟩;conv=>whnf
 (repeat' (first|exact trivial|refine aI ?_ ?_|decide +kernel|exact rfl))

theorem r_of : FnH Tryz.prog 149 [.int .i64 1] [] (Rat.av ⟨false,[1],[1]⟩) []:=by
 refine FnH.intro lay mixed Tryz.func149 (by kernel_rfl) rfl (by kernel_rfl) rfl fun hok=>?_
 conv=>whnf
 refine .pure _ _ ?_ ⟨rfl,rfl⟩ (r_make) fun _=>?_
 ·(repeat' (first|exact trivial|refine aI ?_ ?_|decide +kernel|exact rfl))
 conv=>whnf
 (repeat' ((first|refine LoopE.step 300 ?_|refine zY ?_|refine zN ?_|refine zI ?_|refine zD ?_|refine AIdx.mk ⟨_,⟨by decide +kernel,rfl⟩,?_⟩|refine zC ?_|refine zT ?_|refine zU ?_|refine AApp.mk (by decide +kernel) (by decide +kernel) ?_|refine AMake.wr ?_|refine ADraw.auto (by kernel_rfl) ?_);(conv=>whnf)))
 refine fM ?_;(conv=>whnf);refine ⟨?_,rfl⟩;conv=>whnf
 (repeat' (first|exact trivial|refine aI ?_ ?_|decide +kernel|exact rfl))





structure RInv (V L : Nat) (al : List Int) (j r : Nat) (Q : List Int) : Prop where
 jle : j ≤ L
 wq : Ws Q
 lq : Q.length = L
 lt : r < V
 eq : val (al.drop j) = r + V * val (Q.drop j)
 z : ∀ k,k < j → Q.getD k 0 = 0




def partsR (r : Rat) : Bool × Nat × Nat:=if valid r = true ∧ r.num ≠ [] then (r.neg,val r.num,val r.den) else (false,0,1)

structure PartsOk (r : Rat) : Prop where
 den : (partsR r).2.2 ≠ 0
 ln : (wd (partsR r).2.1).length ≤ 400000
 ld : (wd (partsR r).2.2).length ≤ 400000
 eq : (if valid r = true ∧ r.num ≠ [] then AV.tup [.bool r.neg,wL r.num,wL r.den] else .tup [.bool false,wL [],wL [1]]) = .tup [.bool (partsR r).1,wL (wd (partsR r).2.1),wL (wd (partsR r).2.2)]

theorem c_clone32 (l : List Int) (hl : l.length ≤ 1000000) : FnH Tryz.prog 156 [wL l] [] (wL l) []:=by
 refine FnH.intro lay mixed Tryz.func156 (by kernel_rfl) rfl (by kernel_rfl) rfl fun hok=>?_
 conv=>whnf
 intro b hb
 conv=>whnf
 refine And.intro (fun h=>?_) (fun h=>?_)
 ·have : l = []:=by simpa using hb h
  subst this
  conv=>whnf
  refine fM ?_;(conv=>whnf);refine ⟨?_,rfl⟩;conv=>whnf
  rfl
 ·conv=>whnf
  refine .pure (by simp [maxL]; omega) (by simp; omega) ?_
  conv=>whnf
  refine fM ?_;(conv=>whnf);refine ⟨?_,rfl⟩;conv=>whnf
  all_goals exact wk



abbrev Str:=List UInt8
abbrev sL (l : List Str) : AV:=.sl 1 (l.map .str) .no

structure Ev where
 name : Str
 p : Rat
 fail : Rat
 repair : Rat
 cost : Int
 deriving DecidableEq,Inhabited

abbrev Ev.av (x : Ev) : AV:=.ag [.str x.name,x.p.av,x.fail.av,x.repair.av,.int .i64 x.cost]

structure Hs where
 name : Str
 on : Bool
 deriving DecidableEq,Inhabited

abbrev Hs.av (x : Hs) : AV:=.ag [.str x.name,.bool x.on]

structure Mg where
 name : Str
 kind : Int
 k : Int
 ins : List Str
 dorm : Rat
 deriving DecidableEq,Inhabited

abbrev Mg.av (x : Mg) : AV:=.ag [.str x.name,.int .i64 x.kind,.int .i64 x.k,sL x.ins,x.dorm.av]
abbrev gL (l : List Mg) : AV:=.sl 7 (l.map Mg.av) .no

structure Pg where
 name : Str
 top : Str
 gates : List Mg
 deriving DecidableEq,Inhabited

abbrev Pg.av (x : Pg) : AV:=.ag [.str x.name,.str x.top,gL x.gates]

structure Gr where
 name : Str
 kind : Int
 mem : List Str
 fac : List Rat
 deriving DecidableEq,Inhabited

abbrev Gr.av (x : Gr) : AV:=.ag [.str x.name,.int .i64 x.kind,sL x.mem,.sl 3 (x.fac.map Rat.av) .no]

structure Pv where
 ev : Str
 p : Rat
 deriving DecidableEq,Inhabited

abbrev Pv.av (x : Pv) : AV:=.ag [.str x.ev,x.p.av]

structure Ph where
 name : Str
 top : Str
 vals : List Pv
 deriving DecidableEq,Inhabited

abbrev Ph.av (x : Ph) : AV:=.ag [.str x.name,.str x.top,.sl 4 (x.vals.map Pv.av) .no]

structure Md where
 name : Str
 top : Str
 evs : List Ev
 hs : List Hs
 gates : List Mg
 pages : List Pg
 grs : List Gr
 phs : List Ph
 deriving DecidableEq,Inhabited

abbrev Md.av (m : Md) : AV:=.ag [.str m.name,.str m.top,.sl 11 (m.evs.map Ev.av) .no,.sl 2 (m.hs.map Hs.av) .no,gL m.gates,.sl 3 (m.pages.map Pg.av) .no,.sl 4 (m.grs.map Gr.av) .no,.sl 3 (m.phs.map Ph.av) .no]

def letterN (n : Int) : Bool:=decide (65 ≤ n ∧ n ≤ 90) || decide (97 ≤ n ∧ n ≤ 122)
def digitN (n : Int) : Bool:=decide (48 ≤ n ∧ n ≤ 57)
def inN (n : Int) : Bool:=letterN n || digitN n || decide (n = 95) || decide (n = 46)

theorem c_letter (n : Int) : FnH Tryz.prog 198 [.int .u8 n] [] (.bool (letterN n)) []:=by
 refine FnH.intro lay mixed Tryz.func198 (by kernel_rfl) rfl (by kernel_rfl) rfl fun hok=>?_
 (try dsimp only[argC,succC]);(try dsimp only[awp]);conv=>whnf
 repeat' (first | (refine And.intro (fun _=>?_) (fun _=>?_) <;> ((try dsimp only[awp]);(conv=>whnf))))
 all_goals
  refine fM ?_;(conv=>whnf);refine ⟨?_,rfl⟩;conv=>whnf
  try simp_all [letterN]
 all_goals omega

theorem c_digit (n : Int) : FnH Tryz.prog 255 [.int .u8 n] [] (.bool (digitN n)) []:=by
 refine FnH.intro lay mixed Tryz.func255 (by kernel_rfl) rfl (by kernel_rfl) rfl fun hok=>?_
 (try dsimp only[argC,succC]);(try dsimp only[awp]);conv=>whnf
 repeat' (first | (refine And.intro (fun _=>?_) (fun _=>?_) <;> ((try dsimp only[awp]);(conv=>whnf))))
 all_goals
  refine fM ?_;(conv=>whnf);refine ⟨?_,rfl⟩;conv=>whnf
  try simp_all [digitN]
 all_goals omega

def wendR (s : Str) : Int:=if idxP (fun c=>!inN c.toNat) s < 0 then s.length else idxP (fun c=>!inN c.toNat) s

def nameR (s : Str) : Bool:=decide (0 < s.length) && decide (s.length ≤ 24) && letterN (s.getD 0 0).toNat && s.all fun c=>inN c.toNat

theorem wendR_all (s : Str) : wendR s = s.length ↔ (s.all fun c=>inN c.toNat) = true:=by
 unfold wendR
 rcases idxP_cases (fun c : UInt8=>!inN c.toNat) s with ⟨h1,h2⟩ | ⟨i,h,h1,h2,_⟩
 ·rw [h1,if_pos (by omega)]
  refine ⟨fun _=>List.all_eq_true.2 fun x hx=>by simpa using h2 x hx,fun _=>rfl⟩
 ·rw [h1,if_neg (by omega)]
  constructor
  ·intro h; omega
  ·intro ha
   have:=List.all_eq_true.1 ha _ (List.getElem_mem h)
   simp [this] at h2

theorem sidx {s : List UInt8} {i : Nat} {k : UInt8 → Prop} (h : i < s.length) (hk : k s[i]) : AIdx s (i : Int) k :=
 ⟨⟨_,⟨by omega,by rw [Int.toNat_natCast,List.getElem?_eq_getElem h]⟩,hk⟩⟩

theorem sidx0 {s : List UInt8} {k : UInt8 → Prop} (h : 0 < s.length) (hk : k (s.getD 0 0)) : AIdx s 0 k:=by
 rw [getD_lt h] at hk
 exact ⟨⟨_,⟨by omega,List.getElem?_eq_getElem h⟩,hk⟩⟩

theorem c_wordEnd (s : Str) : FnH Tryz.prog 199 [.str s,.int .i64 0] [] (.int .i64 (wendR s)) []:=by
 refine FnH.intro lay mixed Tryz.func199 (by kernel_rfl) rfl (by kernel_rfl) rfl fun hok=>?_
 have hl : s.length ≤ 9223372036854775807:=by have:=hok.1; simpa [maxL,Ok] using this
 (try dsimp only[argC,succC]);(try dsimp only[awp]);conv=>whnf
 refine LoopE.of <| LoopSpec.inv (.refl _ _) (fun (i : Nat)=>i ≤ s.length ∧ ∀ (j : Nat) (hj : j < s.length),j < i → inN s[j].toNat = true) (fun (i : Nat)=>[(1,.int .i64 i)]) (fun _=>_) (fun (i : Nat)=>s.length - i) 0 ?_ (fun _=>rfl) ?_ ?_
 ·exact ⟨Nat.zero_le _,by omega⟩
 ·all_goals exact wk
 rintro i ⟨hi,hn⟩ _
 have fin : i = s.length ∨ (∃ h : i < s.length,inN s[i].toNat = false) → wendR s = i:=by
  unfold wendR
  rintro (h | ⟨h,hf⟩)
  ·rw [idxP_none fun j hj=>by rw [hn j hj (by omega)]; rfl,if_pos (by omega),h]
  ·rw [idxP_some h (by rw [hf]; rfl) fun j hj=>by rw [hn j (by omega) hj]; rfl,if_neg (by omega)]
 (try dsimp only[awp]);conv=>whnf
 refine And.intro (fun h=>?_) (fun h=>?_)
 ·have hlt : i < s.length:=by omega
  have cl:=c_letter s[i].toNat
  have cd:=c_digit s[i].toNat
  have fin:=fun h=>fin (.inr ⟨hlt,h⟩)
  (try dsimp only[awp]);conv=>whnf
  refine sidx hlt ?_
  generalize hc : s[i].toNat = c at *
  (try dsimp only[awp]);conv=>whnf
  refine .pure _ _ ?_ ⟨rfl,rfl⟩ cl fun _=>?_
  ·exact leL_refl _
  (try dsimp only[awp]);conv=>whnf
  refine And.intro (fun h1=>?_) (fun h1=>?_)
  ·(try dsimp only[awp]);conv=>whnf
   refine zA ?_;conv=>whnf
   refine ⟨i + 1,?_,?_,?_⟩
   ·refine ⟨hlt,fun j hj hji=>?_⟩
    by_cases e : j = i
    ·subst e; show inN _ = true; unfold inN; rw [hc,h1]; rfl
    ·exact hn j hj (by omega)
   ·all_goals exact wk
   ·omega
  (try dsimp only[awp]);conv=>whnf
  refine sidx hlt ?_
  rw [hc]
  (try dsimp only[awp]);conv=>whnf
  refine .pure _ _ ?_ ⟨rfl,rfl⟩ cd fun _=>?_
  ·exact leL_refl _
  (try dsimp only[awp]);conv=>whnf
  refine And.intro (fun h2=>?_) (fun h2=>?_)
  ·(try dsimp only[awp]);conv=>whnf
   refine zA ?_;conv=>whnf
   refine ⟨i + 1,?_,?_,?_⟩
   ·refine ⟨hlt,fun j hj hji=>?_⟩
    by_cases e : j = i
    ·subst e; show inN _ = true; unfold inN; rw [hc,h1,h2]; rfl
    ·exact hn j hj (by omega)
   ·all_goals exact wk
   ·omega
  (try dsimp only[awp]);conv=>whnf
  refine sidx hlt ?_
  rw [hc]
  (try dsimp only[awp]);conv=>whnf
  refine And.intro (fun h3=>?_) (fun h3=>?_)
  ·(try dsimp only[awp]);conv=>whnf
   refine zA ?_;conv=>whnf
   refine ⟨i + 1,?_,?_,?_⟩
   ·refine ⟨hlt,fun j hj hji=>?_⟩
    by_cases e : j = i
    ·subst e; show inN _ = true; unfold inN; rw [hc,h1,h2,h3]; rfl
    ·exact hn j hj (by omega)
   ·all_goals exact wk
   ·omega
  (try dsimp only[awp]);conv=>whnf
  refine sidx hlt ?_
  rw [hc]
  (try dsimp only[awp]);conv=>whnf
  refine And.intro (fun h4=>?_) (fun h4=>?_)
  ·(try dsimp only[awp]);conv=>whnf
   refine zA ?_;conv=>whnf
   refine ⟨i + 1,?_,?_,?_⟩
   ·refine ⟨hlt,fun j hj hji=>?_⟩
    by_cases e : j = i
    ·subst e; show inN _ = true; unfold inN; rw [hc,h1,h2,h4]; rfl
    ·exact hn j hj (by omega)
   ·all_goals exact wk
   ·omega
  ·rw [fin (by unfold inN; rw [h1,h2,decide_eq_false h3,decide_eq_false h4]; rfl)]
   (try dsimp only[awp]);conv=>whnf
   refine fM ?_;(conv=>whnf);refine ⟨?_,rfl⟩;conv=>whnf
   all_goals exact wk
 ·have hil : i = s.length:=by omega
  rw [fin (.inl hil)]
  (try dsimp only[awp]);conv=>whnf
  refine fM ?_;(conv=>whnf);refine ⟨?_,rfl⟩;conv=>whnf
  all_goals exact wk

theorem c_tokenName (s : Str) : FnH Tryz.prog 108 [.str s] [] (.bool (nameR s)) []:=by
 have cl:=c_letter (s.getD 0 0).toNat
 have cw:=c_wordEnd s
 have hw:=wendR_all s
 refine FnH.intro lay mixed Tryz.func108 (by kernel_rfl) rfl (by kernel_rfl) rfl fun hok=>?_
 (try dsimp only[argC,succC]);(try dsimp only[awp]);conv=>whnf
 refine And.intro (fun h1=>?_) (fun h1=>?_)
 ·have h1 : 0 < s.length:=by omega
  (try dsimp only[awp]);conv=>whnf
  refine And.intro (fun h2=>?_) (fun h2=>?_)
  ·have h2 : s.length ≤ 24:=by omega
   (try dsimp only[awp]);conv=>whnf
   refine sidx0 h1 ?_
   (try dsimp only[awp]);conv=>whnf
   refine .pure _ _ ?_ ⟨rfl,rfl⟩ cl fun _=>?_
   ·exact leL_refl _
   (try dsimp only[awp]);conv=>whnf
   refine And.intro (fun h3=>?_) (fun h3=>?_)
   ·(try dsimp only[awp]);conv=>whnf
    refine .pure _ _ ?_ ⟨rfl,rfl⟩ cw fun _=>?_
    ·exact leL_refl _
    (try dsimp only[awp]);conv=>whnf
    refine fM ?_;(conv=>whnf);refine ⟨?_,rfl⟩;conv=>whnf
    rw [hw]
    simp only [nameR,h1,h2,h3,decide_true,Bool.true_and]
   ·(try dsimp only[awp]);conv=>whnf
    refine fM ?_;(conv=>whnf);refine ⟨?_,rfl⟩;conv=>whnf
    simp only [nameR,h3,Bool.and_false,Bool.false_and]
    all_goals exact wk
  ·have h2 : ¬ s.length ≤ 24:=by omega
   (try dsimp only[awp]);conv=>whnf
   refine fM ?_;(conv=>whnf);refine ⟨?_,rfl⟩;conv=>whnf
   simp [nameR,h2]
 ·have h1 : ¬ 0 < s.length:=by omega
  (try dsimp only[awp]);conv=>whnf
  refine fM ?_;(conv=>whnf);refine ⟨?_,rfl⟩;conv=>whnf
  simp [nameR,h1]

theorem c_idx_Ev (l : List Ev) (g : Nat) (cap : List AV) (p : Ev → Bool) (H : Heap) (hg : ∀ x ∈ l,FnH Tryz.prog g (x.av :: cap) H (.bool (p x)) H) :
  FnH Tryz.prog 160 [.sl 11 (l.map Ev.av) .no,.fn g cap] H (.int .i64 (idxP p l)) H:=by
 refine FnH.intro lay mixed Tryz.func160 (by kernel_rfl) rfl (by kernel_rfl) rfl fun hok=>?_
 have hl : l.length ≤ 9223372036854775807:=by have:=hok.1.1; simpa [maxL] using this
 (try dsimp only[argC,succC]);(try dsimp only[awp]);conv=>whnf
 refine LoopE.of <| LoopSpec.inv (.refl _ _) (fun (i : Nat)=>i ≤ l.length ∧ ∀ (j : Nat) (hj : j < l.length),j < i → p l[j] = false) (fun (i : Nat)=>[(8,.int .i64 i)]) (fun _=>_) (fun (i : Nat)=>l.length - i) 0 ?_ (fun _=>rfl) ?_ ?_
 ·exact ⟨Nat.zero_le _,by omega⟩
 ·all_goals exact wk
 rintro i ⟨hi,hn⟩ _
 (try dsimp only[awp]);conv=>whnf
 refine And.intro (fun h=>?_) (fun h=>?_)
 ·have hlt : i < l.length:=by simpa using h
  (try dsimp only[awp]);conv=>whnf
  refine aidx hlt ?_
  (try dsimp only[awp]);conv=>whnf
  refine .gen _ _ (hg _ (List.getElem_mem hlt)) fun _=>?_
  (try dsimp only[awp]);conv=>whnf
  refine And.intro (fun h=>?_) (fun h=>?_)
  ·(try dsimp only[awp]);conv=>whnf
   (refine FinSpec.same ?_;(conv=>whnf);refine ⟨?_,rfl⟩;(conv=>whnf))
   exact ⟨rfl,(idxP_some hlt h fun j hj=>hn j (by omega) hj).symm⟩
  ·(try dsimp only[awp]);conv=>whnf
   refine zA ?_;conv=>whnf
   refine ⟨i + 1,?_,?_,?_⟩
   ·refine ⟨hlt,fun j hj hji=>?_⟩
    by_cases hji' : j = i
    ·subst hji'; exact h
    ·exact hn j hj (by omega)
   ·all_goals exact wk
   ·omega
 ·have hlt : i = l.length:=by have : ¬ i < l.length:=by simpa using h
                              omega
  subst hlt
  (try dsimp only[awp]);conv=>whnf
  (refine FinSpec.same ?_;(conv=>whnf);refine ⟨?_,rfl⟩;(conv=>whnf))
  exact ⟨rfl,(idxP_none fun j hj=>hn j hj hj).symm⟩
theorem c_idx_Hs (l : List Hs) (g : Nat) (cap : List AV) (p : Hs → Bool) (H : Heap) (hg : ∀ x ∈ l,FnH Tryz.prog g (x.av :: cap) H (.bool (p x)) H) :
  FnH Tryz.prog 162 [.sl 2 (l.map Hs.av) .no,.fn g cap] H (.int .i64 (idxP p l)) H:=by
 refine FnH.intro lay mixed Tryz.func162 (by kernel_rfl) rfl (by kernel_rfl) rfl fun hok=>?_
 have hl : l.length ≤ 9223372036854775807:=by have:=hok.1.1; simpa [maxL] using this
 (try dsimp only[argC,succC]);(try dsimp only[awp]);conv=>whnf
 refine LoopE.of <| LoopSpec.inv (.refl _ _) (fun (i : Nat)=>i ≤ l.length ∧ ∀ (j : Nat) (hj : j < l.length),j < i → p l[j] = false) (fun (i : Nat)=>[(8,.int .i64 i)]) (fun _=>_) (fun (i : Nat)=>l.length - i) 0 ?_ (fun _=>rfl) ?_ ?_
 ·exact ⟨Nat.zero_le _,by omega⟩
 ·all_goals exact wk
 rintro i ⟨hi,hn⟩ _
 (try dsimp only[awp]);conv=>whnf
 refine And.intro (fun h=>?_) (fun h=>?_)
 ·have hlt : i < l.length:=by simpa using h
  (try dsimp only[awp]);conv=>whnf
  refine aidx hlt ?_
  (try dsimp only[awp]);conv=>whnf
  refine .gen _ _ (hg _ (List.getElem_mem hlt)) fun _=>?_
  (try dsimp only[awp]);conv=>whnf
  refine And.intro (fun h=>?_) (fun h=>?_)
  ·(try dsimp only[awp]);conv=>whnf
   (refine FinSpec.same ?_;(conv=>whnf);refine ⟨?_,rfl⟩;(conv=>whnf))
   exact ⟨rfl,(idxP_some hlt h fun j hj=>hn j (by omega) hj).symm⟩
  ·(try dsimp only[awp]);conv=>whnf
   refine zA ?_;conv=>whnf
   refine ⟨i + 1,?_,?_,?_⟩
   ·refine ⟨hlt,fun j hj hji=>?_⟩
    by_cases hji' : j = i
    ·subst hji'; exact h
    ·exact hn j hj (by omega)
   ·all_goals exact wk
   ·omega
 ·have hlt : i = l.length:=by have : ¬ i < l.length:=by simpa using h
                              omega
  subst hlt
  (try dsimp only[awp]);conv=>whnf
  (refine FinSpec.same ?_;(conv=>whnf);refine ⟨?_,rfl⟩;(conv=>whnf))
  exact ⟨rfl,(idxP_none fun j hj=>hn j hj hj).symm⟩
theorem c_idx_Mg (l : List Mg) (g : Nat) (cap : List AV) (p : Mg → Bool) (H : Heap) (hg : ∀ x ∈ l,FnH Tryz.prog g (x.av :: cap) H (.bool (p x)) H) :
  FnH Tryz.prog 164 [.sl 7 (l.map Mg.av) .no,.fn g cap] H (.int .i64 (idxP p l)) H:=by
 refine FnH.intro lay mixed Tryz.func164 (by kernel_rfl) rfl (by kernel_rfl) rfl fun hok=>?_
 have hl : l.length ≤ 9223372036854775807:=by have:=hok.1.1; simpa [maxL] using this
 (try dsimp only[argC,succC]);(try dsimp only[awp]);conv=>whnf
 refine LoopE.of <| LoopSpec.inv (.refl _ _) (fun (i : Nat)=>i ≤ l.length ∧ ∀ (j : Nat) (hj : j < l.length),j < i → p l[j] = false) (fun (i : Nat)=>[(8,.int .i64 i)]) (fun _=>_) (fun (i : Nat)=>l.length - i) 0 ?_ (fun _=>rfl) ?_ ?_
 ·exact ⟨Nat.zero_le _,by omega⟩
 ·all_goals exact wk
 rintro i ⟨hi,hn⟩ _
 (try dsimp only[awp]);conv=>whnf
 refine And.intro (fun h=>?_) (fun h=>?_)
 ·have hlt : i < l.length:=by simpa using h
  (try dsimp only[awp]);conv=>whnf
  refine aidx hlt ?_
  (try dsimp only[awp]);conv=>whnf
  refine .gen _ _ (hg _ (List.getElem_mem hlt)) fun _=>?_
  (try dsimp only[awp]);conv=>whnf
  refine And.intro (fun h=>?_) (fun h=>?_)
  ·(try dsimp only[awp]);conv=>whnf
   (refine FinSpec.same ?_;(conv=>whnf);refine ⟨?_,rfl⟩;(conv=>whnf))
   exact ⟨rfl,(idxP_some hlt h fun j hj=>hn j (by omega) hj).symm⟩
  ·(try dsimp only[awp]);conv=>whnf
   refine zA ?_;conv=>whnf
   refine ⟨i + 1,?_,?_,?_⟩
   ·refine ⟨hlt,fun j hj hji=>?_⟩
    by_cases hji' : j = i
    ·subst hji'; exact h
    ·exact hn j hj (by omega)
   ·all_goals exact wk
   ·omega
 ·have hlt : i = l.length:=by have : ¬ i < l.length:=by simpa using h
                              omega
  subst hlt
  (try dsimp only[awp]);conv=>whnf
  (refine FinSpec.same ?_;(conv=>whnf);refine ⟨?_,rfl⟩;(conv=>whnf))
  exact ⟨rfl,(idxP_none fun j hj=>hn j hj hj).symm⟩
theorem c_idx_Pg (l : List Pg) (g : Nat) (cap : List AV) (p : Pg → Bool) (H : Heap) (hg : ∀ x ∈ l,FnH Tryz.prog g (x.av :: cap) H (.bool (p x)) H) :
  FnH Tryz.prog 158 [.sl 3 (l.map Pg.av) .no,.fn g cap] H (.int .i64 (idxP p l)) H:=by
 refine FnH.intro lay mixed Tryz.func158 (by kernel_rfl) rfl (by kernel_rfl) rfl fun hok=>?_
 have hl : l.length ≤ 9223372036854775807:=by have:=hok.1.1; simpa [maxL] using this
 (try dsimp only[argC,succC]);(try dsimp only[awp]);conv=>whnf
 refine LoopE.of <| LoopSpec.inv (.refl _ _) (fun (i : Nat)=>i ≤ l.length ∧ ∀ (j : Nat) (hj : j < l.length),j < i → p l[j] = false) (fun (i : Nat)=>[(8,.int .i64 i)]) (fun _=>_) (fun (i : Nat)=>l.length - i) 0 ?_ (fun _=>rfl) ?_ ?_
 ·exact ⟨Nat.zero_le _,by omega⟩
 ·all_goals exact wk
 rintro i ⟨hi,hn⟩ _
 (try dsimp only[awp]);conv=>whnf
 refine And.intro (fun h=>?_) (fun h=>?_)
 ·have hlt : i < l.length:=by simpa using h
  (try dsimp only[awp]);conv=>whnf
  refine aidx hlt ?_
  (try dsimp only[awp]);conv=>whnf
  refine .gen _ _ (hg _ (List.getElem_mem hlt)) fun _=>?_
  (try dsimp only[awp]);conv=>whnf
  refine And.intro (fun h=>?_) (fun h=>?_)
  ·(try dsimp only[awp]);conv=>whnf
   (refine FinSpec.same ?_;(conv=>whnf);refine ⟨?_,rfl⟩;(conv=>whnf))
   exact ⟨rfl,(idxP_some hlt h fun j hj=>hn j (by omega) hj).symm⟩
  ·(try dsimp only[awp]);conv=>whnf
   refine zA ?_;conv=>whnf
   refine ⟨i + 1,?_,?_,?_⟩
   ·refine ⟨hlt,fun j hj hji=>?_⟩
    by_cases hji' : j = i
    ·subst hji'; exact h
    ·exact hn j hj (by omega)
   ·all_goals exact wk
   ·omega
 ·have hlt : i = l.length:=by have : ¬ i < l.length:=by simpa using h
                              omega
  subst hlt
  (try dsimp only[awp]);conv=>whnf
  (refine FinSpec.same ?_;(conv=>whnf);refine ⟨?_,rfl⟩;(conv=>whnf))
  exact ⟨rfl,(idxP_none fun j hj=>hn j hj hj).symm⟩
theorem c_idx_Gr (l : List Gr) (g : Nat) (cap : List AV) (p : Gr → Bool) (H : Heap) (hg : ∀ x ∈ l,FnH Tryz.prog g (x.av :: cap) H (.bool (p x)) H) :
  FnH Tryz.prog 209 [.sl 4 (l.map Gr.av) .no,.fn g cap] H (.int .i64 (idxP p l)) H:=by
 refine FnH.intro lay mixed Tryz.func209 (by kernel_rfl) rfl (by kernel_rfl) rfl fun hok=>?_
 have hl : l.length ≤ 9223372036854775807:=by have:=hok.1.1; simpa [maxL] using this
 (try dsimp only[argC,succC]);(try dsimp only[awp]);conv=>whnf
 refine LoopE.of <| LoopSpec.inv (.refl _ _) (fun (i : Nat)=>i ≤ l.length ∧ ∀ (j : Nat) (hj : j < l.length),j < i → p l[j] = false) (fun (i : Nat)=>[(8,.int .i64 i)]) (fun _=>_) (fun (i : Nat)=>l.length - i) 0 ?_ (fun _=>rfl) ?_ ?_
 ·exact ⟨Nat.zero_le _,by omega⟩
 ·all_goals exact wk
 rintro i ⟨hi,hn⟩ _
 (try dsimp only[awp]);conv=>whnf
 refine And.intro (fun h=>?_) (fun h=>?_)
 ·have hlt : i < l.length:=by simpa using h
  (try dsimp only[awp]);conv=>whnf
  refine aidx hlt ?_
  (try dsimp only[awp]);conv=>whnf
  refine .gen _ _ (hg _ (List.getElem_mem hlt)) fun _=>?_
  (try dsimp only[awp]);conv=>whnf
  refine And.intro (fun h=>?_) (fun h=>?_)
  ·(try dsimp only[awp]);conv=>whnf
   (refine FinSpec.same ?_;(conv=>whnf);refine ⟨?_,rfl⟩;(conv=>whnf))
   exact ⟨rfl,(idxP_some hlt h fun j hj=>hn j (by omega) hj).symm⟩
  ·(try dsimp only[awp]);conv=>whnf
   refine zA ?_;conv=>whnf
   refine ⟨i + 1,?_,?_,?_⟩
   ·refine ⟨hlt,fun j hj hji=>?_⟩
    by_cases hji' : j = i
    ·subst hji'; exact h
    ·exact hn j hj (by omega)
   ·all_goals exact wk
   ·omega
 ·have hlt : i = l.length:=by have : ¬ i < l.length:=by simpa using h
                              omega
  subst hlt
  (try dsimp only[awp]);conv=>whnf
  (refine FinSpec.same ?_;(conv=>whnf);refine ⟨?_,rfl⟩;(conv=>whnf))
  exact ⟨rfl,(idxP_none fun j hj=>hn j hj hj).symm⟩
theorem c_idx_Ph (l : List Ph) (g : Nat) (cap : List AV) (p : Ph → Bool) (H : Heap) (hg : ∀ x ∈ l,FnH Tryz.prog g (x.av :: cap) H (.bool (p x)) H) :
  FnH Tryz.prog 212 [.sl 3 (l.map Ph.av) .no,.fn g cap] H (.int .i64 (idxP p l)) H:=by
 refine FnH.intro lay mixed Tryz.func212 (by kernel_rfl) rfl (by kernel_rfl) rfl fun hok=>?_
 have hl : l.length ≤ 9223372036854775807:=by have:=hok.1.1; simpa [maxL] using this
 (try dsimp only[argC,succC]);(try dsimp only[awp]);conv=>whnf
 refine LoopE.of <| LoopSpec.inv (.refl _ _) (fun (i : Nat)=>i ≤ l.length ∧ ∀ (j : Nat) (hj : j < l.length),j < i → p l[j] = false) (fun (i : Nat)=>[(8,.int .i64 i)]) (fun _=>_) (fun (i : Nat)=>l.length - i) 0 ?_ (fun _=>rfl) ?_ ?_
 ·exact ⟨Nat.zero_le _,by omega⟩
 ·all_goals exact wk
 rintro i ⟨hi,hn⟩ _
 (try dsimp only[awp]);conv=>whnf
 refine And.intro (fun h=>?_) (fun h=>?_)
 ·have hlt : i < l.length:=by simpa using h
  (try dsimp only[awp]);conv=>whnf
  refine aidx hlt ?_
  (try dsimp only[awp]);conv=>whnf
  refine .gen _ _ (hg _ (List.getElem_mem hlt)) fun _=>?_
  (try dsimp only[awp]);conv=>whnf
  refine And.intro (fun h=>?_) (fun h=>?_)
  ·(try dsimp only[awp]);conv=>whnf
   (refine FinSpec.same ?_;(conv=>whnf);refine ⟨?_,rfl⟩;(conv=>whnf))
   exact ⟨rfl,(idxP_some hlt h fun j hj=>hn j (by omega) hj).symm⟩
  ·(try dsimp only[awp]);conv=>whnf
   refine zA ?_;conv=>whnf
   refine ⟨i + 1,?_,?_,?_⟩
   ·refine ⟨hlt,fun j hj hji=>?_⟩
    by_cases hji' : j = i
    ·subst hji'; exact h
    ·exact hn j hj (by omega)
   ·all_goals exact wk
   ·omega
 ·have hlt : i = l.length:=by have : ¬ i < l.length:=by simpa using h
                              omega
  subst hlt
  (try dsimp only[awp]);conv=>whnf
  (refine FinSpec.same ?_;(conv=>whnf);refine ⟨?_,rfl⟩;(conv=>whnf))
  exact ⟨rfl,(idxP_none fun j hj=>hn j hj hj).symm⟩
theorem c_idx_Pv (l : List Pv) (g : Nat) (cap : List AV) (p : Pv → Bool) (H : Heap) (hg : ∀ x ∈ l,FnH Tryz.prog g (x.av :: cap) H (.bool (p x)) H) :
  FnH Tryz.prog 214 [.sl 4 (l.map Pv.av) .no,.fn g cap] H (.int .i64 (idxP p l)) H:=by
 refine FnH.intro lay mixed Tryz.func214 (by kernel_rfl) rfl (by kernel_rfl) rfl fun hok=>?_
 have hl : l.length ≤ 9223372036854775807:=by have:=hok.1.1; simpa [maxL] using this
 (try dsimp only[argC,succC]);(try dsimp only[awp]);conv=>whnf
 refine LoopE.of <| LoopSpec.inv (.refl _ _) (fun (i : Nat)=>i ≤ l.length ∧ ∀ (j : Nat) (hj : j < l.length),j < i → p l[j] = false) (fun (i : Nat)=>[(8,.int .i64 i)]) (fun _=>_) (fun (i : Nat)=>l.length - i) 0 ?_ (fun _=>rfl) ?_ ?_
 ·exact ⟨Nat.zero_le _,by omega⟩
 ·all_goals exact wk
 rintro i ⟨hi,hn⟩ _
 (try dsimp only[awp]);conv=>whnf
 refine And.intro (fun h=>?_) (fun h=>?_)
 ·have hlt : i < l.length:=by simpa using h
  (try dsimp only[awp]);conv=>whnf
  refine aidx hlt ?_
  (try dsimp only[awp]);conv=>whnf
  refine .gen _ _ (hg _ (List.getElem_mem hlt)) fun _=>?_
  (try dsimp only[awp]);conv=>whnf
  refine And.intro (fun h=>?_) (fun h=>?_)
  ·(try dsimp only[awp]);conv=>whnf
   (refine FinSpec.same ?_;(conv=>whnf);refine ⟨?_,rfl⟩;(conv=>whnf))
   exact ⟨rfl,(idxP_some hlt h fun j hj=>hn j (by omega) hj).symm⟩
  ·(try dsimp only[awp]);conv=>whnf
   refine zA ?_;conv=>whnf
   refine ⟨i + 1,?_,?_,?_⟩
   ·refine ⟨hlt,fun j hj hji=>?_⟩
    by_cases hji' : j = i
    ·subst hji'; exact h
    ·exact hn j hj (by omega)
   ·all_goals exact wk
   ·omega
 ·have hlt : i = l.length:=by have : ¬ i < l.length:=by simpa using h
                              omega
  subst hlt
  (try dsimp only[awp]);conv=>whnf
  (refine FinSpec.same ?_;(conv=>whnf);refine ⟨?_,rfl⟩;(conv=>whnf))
  exact ⟨rfl,(idxP_none fun j hj=>hn j hj hj).symm⟩

def i_event (l : List Ev) (s : Str) : Int:=idxP (fun x=>decide (x.name = s)) l

theorem c1_event (x : Ev) (s : Str) (m : Md) : FnH Tryz.prog 256 [x.av,.ptr 1 [] 0] [(1,.box (.str s)),(0,.box m.av)] (.bool (decide (x.name = s))) [(1,.box (.str s)),(0,.box m.av)]:=by
 refine FnH.intro lay mixed Tryz.func256 (by kernel_rfl) rfl (by kernel_rfl) rfl fun hok=>?_
 (try dsimp only[argC,succC]);(try dsimp only[awp]);conv=>whnf
 refine ⟨⟨_,_,.refl _ _,?_⟩⟩
 conv=>whnf
 refine ⟨?_,rfl,by simp [nextId],.mk ?_ ⟨by simp,by simp,trivial⟩⟩
 ·show _ ↔ _
  simp
 ·all_goals exact wk

theorem c_event (m : Md) (s : Str) : FnH Tryz.prog 200 [m.av,.str s] [] (.int .i64 (i_event m.evs s)) []:=by
 refine FnH.intro lay mixed Tryz.func200 (by kernel_rfl) rfl (by kernel_rfl) rfl fun hok=>?_
 (try dsimp only[argC,succC]);(try dsimp only[awp]);conv=>whnf
 refine .gen _ _ (c_idx_Ev m.evs 256 [.ptr 1 [] 0] (fun x=>decide (x.name = s)) _ fun x _=>c1_event x s m) fun _=>?_
 (try dsimp only[awp]);conv=>whnf
 refine fM ?_;(conv=>whnf);refine ⟨?_,rfl⟩;conv=>whnf
 all_goals exact wk
def i_house (l : List Hs) (s : Str) : Int:=idxP (fun x=>decide (x.name = s)) l

theorem c1_house (x : Hs) (s : Str) (m : Md) : FnH Tryz.prog 257 [x.av,.ptr 1 [] 0] [(1,.box (.str s)),(0,.box m.av)] (.bool (decide (x.name = s))) [(1,.box (.str s)),(0,.box m.av)]:=by
 refine FnH.intro lay mixed Tryz.func257 (by kernel_rfl) rfl (by kernel_rfl) rfl fun hok=>?_
 (try dsimp only[argC,succC]);(try dsimp only[awp]);conv=>whnf
 refine ⟨⟨_,_,.refl _ _,?_⟩⟩
 conv=>whnf
 refine ⟨?_,rfl,by simp [nextId],.mk ?_ ⟨by simp,by simp,trivial⟩⟩
 ·show _ ↔ _
  simp
 ·all_goals exact wk

theorem c_house (m : Md) (s : Str) : FnH Tryz.prog 202 [m.av,.str s] [] (.int .i64 (i_house m.hs s)) []:=by
 refine FnH.intro lay mixed Tryz.func202 (by kernel_rfl) rfl (by kernel_rfl) rfl fun hok=>?_
 (try dsimp only[argC,succC]);(try dsimp only[awp]);conv=>whnf
 refine .gen _ _ (c_idx_Hs m.hs 257 [.ptr 1 [] 0] (fun x=>decide (x.name = s)) _ fun x _=>c1_house x s m) fun _=>?_
 (try dsimp only[awp]);conv=>whnf
 refine fM ?_;(conv=>whnf);refine ⟨?_,rfl⟩;conv=>whnf
 all_goals exact wk
def i_page (l : List Pg) (s : Str) : Int:=idxP (fun x=>decide (x.name = s)) l

theorem c1_page (x : Pg) (s : Str) (m : Md) : FnH Tryz.prog 258 [x.av,.ptr 1 [] 0] [(1,.box (.str s)),(0,.box m.av)] (.bool (decide (x.name = s))) [(1,.box (.str s)),(0,.box m.av)]:=by
 refine FnH.intro lay mixed Tryz.func258 (by kernel_rfl) rfl (by kernel_rfl) rfl fun hok=>?_
 (try dsimp only[argC,succC]);(try dsimp only[awp]);conv=>whnf
 refine ⟨⟨_,_,.refl _ _,?_⟩⟩
 conv=>whnf
 refine ⟨?_,rfl,by simp [nextId],.mk ?_ ⟨by simp,by simp,trivial⟩⟩
 ·show _ ↔ _
  simp
 ·all_goals exact wk

theorem c_page (m : Md) (s : Str) : FnH Tryz.prog 203 [m.av,.str s] [] (.int .i64 (i_page m.pages s)) []:=by
 refine FnH.intro lay mixed Tryz.func203 (by kernel_rfl) rfl (by kernel_rfl) rfl fun hok=>?_
 (try dsimp only[argC,succC]);(try dsimp only[awp]);conv=>whnf
 refine .gen _ _ (c_idx_Pg m.pages 258 [.ptr 1 [] 0] (fun x=>decide (x.name = s)) _ fun x _=>c1_page x s m) fun _=>?_
 (try dsimp only[awp]);conv=>whnf
 refine fM ?_;(conv=>whnf);refine ⟨?_,rfl⟩;conv=>whnf
 all_goals exact wk

def i_gate (l : List Mg) (s : Str) : Int:=idxP (fun x=>decide (x.name = s)) l

theorem c1_gate (x : Mg) (s : Str) : FnH Tryz.prog 259 [x.av,.ptr 0 [] 0] [(0,.box (.str s))] (.bool (decide (x.name = s))) [(0,.box (.str s))]:=by
 refine FnH.intro lay mixed Tryz.func259 (by kernel_rfl) rfl (by kernel_rfl) rfl fun hok=>?_
 (try dsimp only[argC,succC]);(try dsimp only[awp]);conv=>whnf
 refine ⟨⟨_,_,.refl _ _,?_⟩⟩
 conv=>whnf
 refine ⟨?_,rfl,by simp [nextId],.mk ?_ ⟨by simp,trivial⟩⟩
 ·show _ ↔ _
  simp
 ·all_goals exact wk

theorem c_gate (l : List Mg) (s : Str) : FnH Tryz.prog 205 [gL l,.str s] [] (.int .i64 (i_gate l s)) []:=by
 refine FnH.intro lay mixed Tryz.func205 (by kernel_rfl) rfl (by kernel_rfl) rfl fun hok=>?_
 (try dsimp only[argC,succC]);(try dsimp only[awp]);conv=>whnf
 refine .gen _ _ (c_idx_Mg l 259 [.ptr 0 [] 0] (fun x=>decide (x.name = s)) _ fun x _=>c1_gate x s) fun _=>?_
 (try dsimp only[awp]);conv=>whnf
 refine fM ?_;(conv=>whnf);refine ⟨?_,rfl⟩;conv=>whnf
 all_goals exact wk

def gatesM (m : Md) (at_ : Int) : List Mg:=if at_ = -1 then m.gates else (m.pages.getD at_.toNat default).gates

theorem c_gatesOf (m : Md) (a : Int) (h : a = -1 ∨ (0 ≤ a ∧ a < (m.pages.length : Int))) : FnH Tryz.prog 204 [m.av,.int .i64 a] [] (gL (gatesM m a)) []:=by
 refine FnH.intro lay mixed Tryz.func204 (by kernel_rfl) rfl (by kernel_rfl) rfl fun hok=>?_
 (try dsimp only[argC,succC]);(try dsimp only[awp]);conv=>whnf
 refine And.intro (fun h1=>?_) (fun h1=>?_)
 ·rw [show gatesM m a = m.gates from if_pos h1]
  (try dsimp only[awp]);conv=>whnf
  refine fM ?_;(conv=>whnf);refine ⟨?_,rfl⟩;conv=>whnf
  all_goals exact wk
 ·rw [show gatesM m a = (m.pages.getD a.toNat default).gates from if_neg h1]
  (try dsimp only[awp]);conv=>whnf
  refine aidxD default (by omega) ?_
  (try dsimp only[awp]);conv=>whnf
  refine fM ?_;(conv=>whnf);refine ⟨?_,rfl⟩;conv=>whnf
  all_goals exact wk

def rateB (x : Rat) : Bool:=valid x && decide (0 ≤ sign x)

theorem c_rate (x : Rat) (hx : RatC x) : FnH Tryz.prog 201 [x.av] [] (.bool (rateB x)) []:=by
 refine FnH.intro lay mixed Tryz.func201 (by kernel_rfl) rfl (by kernel_rfl) rfl fun hok=>?_
 (try dsimp only[argC,succC]);(try dsimp only[awp]);conv=>whnf
 refine .pure _ _ ?_ ⟨rfl,rfl⟩ hx.v fun _=>?_
 ·exact leL_refl _
 (try dsimp only[awp]);conv=>whnf
 refine And.intro (fun h1=>?_) (fun h1=>?_)
 ·(try dsimp only[awp]);conv=>whnf
  refine .pure _ _ ?_ ⟨rfl,rfl⟩ hx.s fun _=>?_
  ·exact leL_refl _
  (try dsimp only[awp]);conv=>whnf
  refine fM ?_;(conv=>whnf);refine ⟨?_,rfl⟩;conv=>whnf
  simp [rateB,h1]
 ·(try dsimp only[awp]);conv=>whnf
  refine fM ?_;(conv=>whnf);refine ⟨?_,rfl⟩;conv=>whnf
  simp [rateB,h1]

def atS (s : Str) : Bool:=decide (0 < s.length) && decide (((s.getD 0 0).toNat : Int) = 64)

def isInR (m : Md) (a : Int) (s : Str) : Bool:=if atS s = true then decide (0 ≤ i_page m.pages (s.drop 1)) else
 decide (0 ≤ i_event m.evs s) || decide (0 ≤ i_house m.hs s) || decide (0 ≤ i_gate (gatesM m a) s)

theorem cut1 {s : Str} : (s.drop (1 : Int).toNat).take ((s.length : Int).toNat - (1 : Int).toNat) = s.drop 1:=by
 rw [List.take_of_length_le (by simp)]; rfl

theorem c_isInput (m : Md) (a : Int) (s : Str) (h : a = -1 ∨ (0 ≤ a ∧ a < (m.pages.length : Int))) : FnH Tryz.prog 113 [m.av,.int .i64 a,.str s] [] (.bool (isInR m a s)) []:=by
 have cp:=c_page m (s.drop 1)
 have ce:=c_event m s
 have ch:=c_house m s
 have cg:=c_gate (gatesM m a) s
 have cG:=c_gatesOf m a h
 refine FnH.intro lay mixed Tryz.func113 (by kernel_rfl) rfl (by kernel_rfl) rfl fun hok=>?_
 (try dsimp only[argC,succC]);(try dsimp only[awp]);conv=>whnf
 refine And.intro (fun h1=>?_) (fun h1=>?_)
 ·have h1 : 0 < s.length:=by omega
  (try dsimp only[awp]);conv=>whnf
  refine sidx0 h1 ?_
  (try dsimp only[awp]);conv=>whnf
  refine And.intro (fun h2=>?_) (fun h2=>?_)
  ·have e : isInR m a s = decide (0 ≤ i_page m.pages (s.drop 1)):=if_pos (by simp only [atS,h1,h2,decide_true,Bool.true_and])
   rw [e]
   (try dsimp only[awp]);conv=>whnf
   refine ADraw.auto (by kernel_rfl) ?_;conv=>whnf
   refine ⟨⟨by omega,by omega,by omega⟩,?_⟩
   rw [cut1]
   (try dsimp only[awp]);conv=>whnf
   refine ACallP.pure _ _ ?_ ⟨rfl,rfl⟩ cp ?_
   ·exact leL_refl _
   (try dsimp only[awp]);conv=>whnf
   refine fM ?_;(conv=>whnf);refine ⟨?_,rfl⟩;conv=>whnf
   show _ ↔ _
   simp
  ·have e : atS s = false:=by simp only [atS,decide_eq_false h2,Bool.and_false]
   have e : isInR m a s = (decide (0 ≤ i_event m.evs s) || decide (0 ≤ i_house m.hs s) || decide (0 ≤ i_gate (gatesM m a) s)):=if_neg (by rw [e]; simp)
   rw [e]
   (try dsimp only[awp]);conv=>whnf
   refine .pure _ _ ?_ ⟨rfl,rfl⟩ ce fun _=>?_
   ·exact leL_refl _
   (try dsimp only[awp]);conv=>whnf
   refine And.intro (fun h3=>?_) (fun h3=>?_)
   ·(try dsimp only[awp]);conv=>whnf
    refine fM ?_;(conv=>whnf);refine ⟨?_,rfl⟩;conv=>whnf
    simp [h3]
   (try dsimp only[awp]);conv=>whnf
   refine .pure _ _ ?_ ⟨rfl,rfl⟩ ch fun _=>?_
   ·exact leL_refl _
   (try dsimp only[awp]);conv=>whnf
   refine And.intro (fun h4=>?_) (fun h4=>?_)
   ·(try dsimp only[awp]);conv=>whnf
    refine fM ?_;(conv=>whnf);refine ⟨?_,rfl⟩;conv=>whnf
    simp [h4]
   (try dsimp only[awp]);conv=>whnf
   refine .pure _ _ ?_ ⟨rfl,rfl⟩ cG fun _=>?_
   ·exact leL_refl _
   (try dsimp only[awp]);conv=>whnf
   refine .pure _ _ ?_ ⟨rfl,rfl⟩ cg fun _=>?_
   ·exact leL_refl _
   (try dsimp only[awp]);conv=>whnf
   refine fM ?_;(conv=>whnf);refine ⟨?_,rfl⟩;conv=>whnf
   simp [h3,h4]
 ·have e : atS s = false:=by simp only [atS]; rw [decide_eq_false (by omega)]; rfl
  have e : isInR m a s = (decide (0 ≤ i_event m.evs s) || decide (0 ≤ i_house m.hs s) || decide (0 ≤ i_gate (gatesM m a) s)):=if_neg (by rw [e]; simp)
  rw [e]
  (try dsimp only[awp]);conv=>whnf
  refine .pure _ _ ?_ ⟨rfl,rfl⟩ ce fun _=>?_
  ·exact leL_refl _
  (try dsimp only[awp]);conv=>whnf
  refine And.intro (fun h3=>?_) (fun h3=>?_)
  ·(try dsimp only[awp]);conv=>whnf
   refine fM ?_;(conv=>whnf);refine ⟨?_,rfl⟩;conv=>whnf
   simp [h3]
  (try dsimp only[awp]);conv=>whnf
  refine .pure _ _ ?_ ⟨rfl,rfl⟩ ch fun _=>?_
  ·exact leL_refl _
  (try dsimp only[awp]);conv=>whnf
  refine And.intro (fun h4=>?_) (fun h4=>?_)
  ·(try dsimp only[awp]);conv=>whnf
   refine fM ?_;(conv=>whnf);refine ⟨?_,rfl⟩;conv=>whnf
   simp [h4]
  (try dsimp only[awp]);conv=>whnf
  refine .pure _ _ ?_ ⟨rfl,rfl⟩ cG fun _=>?_
  ·exact leL_refl _
  (try dsimp only[awp]);conv=>whnf
  refine .pure _ _ ?_ ⟨rfl,rfl⟩ cg fun _=>?_
  ·exact leL_refl _
  (try dsimp only[awp]);conv=>whnf
  refine fM ?_;(conv=>whnf);refine ⟨?_,rfl⟩;conv=>whnf
  simp [h3,h4]
end S
