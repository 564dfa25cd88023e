/-
  Contracts of functions of the program, over the logic of the texts before. Nothing is assumed.
-/
import Derived.Test.YtkbjecdpgbnkdaaGreatT6

open Go Go.AL Go.Proofs
namespace S
set_option maxRecDepth 100000

def jh (l0 : List Bool) (nodes : List Nd) : List Bool:=nodes.foldl OX l0

theorem Ip (l0 : List Bool) : ∀ (nodes : List Nd),(jh l0 nodes).length = l0.length + nodes.length:=by
 intro nodes
 unfold jh
 induction nodes generalizing l0 with
 | nil=>simp
 | cons x l ih=>rw [List.foldl_cons,ih]; simp [OX]; omega

theorem Td (l0 : List Bool) (l r : List Nd) : ∃ t,jh l0 (l ++ r) = jh l0 l ++ t:=by
 unfold jh
 rw [List.foldl_append]
 generalize l.foldl OX l0 = u
 induction r generalizing u with
 | nil=>exact ⟨[],by simp⟩
 | cons x r ih =>
   obtain ⟨t,ht⟩:=ih (OX u x)
   exact ⟨[qA x (Ih u x.args)] ++ t,by rw [List.foldl_cons,ht]; simp [OX]⟩

theorem jT (l0 : List Bool) (l r : List Nd) {j : Nat} (h : j < l0.length + l.length) : (jh l0 (l ++ r)).getD j false = (jh l0 l).getD j false:=by
 obtain ⟨t,ht⟩:=Td l0 l r
 rw [ht,List.getD_eq_getElem?_getD,List.getElem?_append_left (by rw [Ip]; exact h),<- List.getD_eq_getElem?_getD]

theorem Ed (l0 : List Bool) (l : List Nd) {k : Nat} (h : k < l.length) : (jh l0 l).getD (l0.length + k) false = qA l[k] (Ih (jh l0 (l.take k)) l[k].args):=by
 have e : l = (l.take k ++ [l[k]]) ++ l.drop (k + 1):=by rw [<- List.take_succ_eq_append_getElem h,List.take_append_drop]
 have hl : (l.take k).length = k:=by rw [List.length_take]; omega
 have:=jT l0 (l.take k ++ [l[k]]) (l.drop (k + 1)) (j:=l0.length + k) (by simp; omega)
 rw [<- e] at this
 rw [this]
 unfold jh
 rw [List.foldl_append]
 show ((OX (jh l0 (l.take k)) l[k]).getD _ false) = _
 have hv:=Ip l0 (l.take k)
 rw [hl] at hv
 unfold OX
 rw [List.getD_eq_getElem?_getD,List.getElem?_append_right (by omega),hv,Nat.sub_self]; rfl

theorem Ec (l0 : List Bool) (l : List Nd) {j k : Nat} (h : j < l0.length + k) (hk : k <= l.length) : (jh l0 (l.take k)).getD j false = (jh l0 l).getD j false:=by
 have:=jT l0 (l.take k) (l.drop k) (j:=j) (by rw [List.length_take]; omega)
 rw [List.take_append_drop] at this
 exact this.symm

theorem P8 {u w : List Bool} {f : Int -> Int} : ∀ {args : List Int},(∀ a ∈ args,u.getD (f a).toNat false = w.getD a.toNat false) -> Ih u (args.map f) = Ih w args:=by
 have key : ∀ (args : List Int) (n : Nat),(∀ a ∈ args,u.getD (f a).toNat false = w.getD a.toNat false) -> (args.map f).foldl (fun n a=>if u.getD a.toNat false = true then n + 1 else n) n = args.foldl (fun n a=>if w.getD a.toNat false = true then n + 1 else n) n:=by
  intro args
  induction args with
  | nil=>intro n _; rfl
  | cons a l ih =>
    intro n h
    rw [List.map_cons,List.foldl_cons,List.foldl_cons,h a (by simp)]
    exact ih _ fun b hb=>h b (by simp [hb])
 intro args h
 exact key args 0 h

theorem TN {k n : Int} {a b : List Int} (h : a.length = b.length) (c : Nat) : qA ⟨k,n,a⟩ c = qA ⟨k,n,b⟩ c:=by
 unfold qA; simp only [h]

def BZ (to : List Int) (a : Int) : Int:=to.getD a.toNat 0
def Tn (to : List Int) (x : Nd) : Nd:=⟨x.kind,x.k,x.args.map (BZ to)⟩

def Vw (v : Nat) (l : List Nd) (d : List Bool) : Nat -> List Int × List Nd
 | 0=>((List.range v).map (fun i : Nat=>(i : Int)) ++ List.replicate l.length 0,[])
 | k + 1=>if d.getD (v + k) false = true then ((Vw v l d k).1.set (v + k) ((v : Int) + (Vw v l d k).2.length),(Vw v l d k).2 ++ [Tn (Vw v l d k).1 (l.getD k default)]) else Vw v l d k

structure TrI (v : Nat) (l : List Nd) (d : List Bool) (k : Nat) (s : List Int × List Nd) : Prop where
 len : s.1.length = v + l.length
 out : s.2.length <= k
 ref : ∀ j : Nat,j < v + k -> (j < v \/ d.getD j false = true) -> 0 <= s.1.getD j 0 /\ s.1.getD j 0 < (v : Int) + s.2.length
 nd : ∀ (i : Nat) (h : i < s.2.length),Hl v i s.2[i]
 val : ∀ l0 : List Bool,l0.length = v -> ∀ j : Nat,j < v + k -> (j < v \/ d.getD j false = true) -> (jh l0 s.2).getD (s.1.getD j 0).toNat false = (jh l0 l).getD j false

theorem QT {v : Nat} {l : List Nd} {d : List Bool} (hn : ∀ (i : Nat) (h : i < l.length),Hl v i l[i]) (hd : ∀ i < l.length,d.getD (v + i) false = true -> ∀ a ∈ argsAt l i,a < (v : Int) \/ d.getD a.toNat false = true) :
  ∀ k,k <= l.length -> TrI v l d k (Vw v l d k)
 | 0,_=>by
   have h0 : ∀ j : Nat,j < v -> ((List.range v).map (fun i : Nat=>(i : Int)) ++ List.replicate l.length 0).getD j 0 = (j : Int):=fun j hj=>by
    rw [List.getD_eq_getElem?_getD,List.getElem?_append_left (by simpa using hj),List.getElem?_map,List.getElem?_range hj]; rfl
   refine ⟨by simp [Vw],Nat.le_refl _,fun j hj _=>?_,fun i h=>absurd h (Nat.not_lt_zero _),fun l0 hl j hj _=>?_⟩
   ·show 0 <= (_ ++ _ : List Int).getD j 0 /\ (_ ++ _ : List Int).getD j 0 < _
    rw [h0 j hj]; simp [Vw]; omega
   ·show (jh l0 []).getD ((_ ++ _ : List Int).getD j 0).toNat false = _
    rw [h0 j hj,Int.toNat_natCast]
    have:=jT l0 [] l (j:=j) (by simp; omega)
    exact this.symm
 | k + 1,hk=>by
   have ih:=QT hn hd k (by omega)
   have hkl : k < l.length:=by omega
   have ex : l.getD k default = l[k]:=by rw [List.getD_eq_getElem?_getD,List.getElem?_eq_getElem hkl]; rfl
   have ea : argsAt l k = l[k].args:=by unfold argsAt; rw [ex]
   unfold Vw
   generalize Vw v l d k = s at *
   obtain ⟨i1,i2,i3,i4,i5⟩:=ih
   split
   ·rename_i hm
    have nk:=hn k hkl
    have hda:=hd k hkl hm
    rw [ea] at hda
    rw [ex]
    have aok : ∀ a ∈ l[k].args,0 <= a /\ a.toNat < v + k /\ (a.toNat < v \/ d.getD a.toNat false = true):=fun a ha=>by
     have h1:=nk.args a ha
     exact ⟨h1.1,by omega,(hda a ha).imp (fun h=>by omega) id⟩
    have hg : ∀ j,(s.1.set (v + k) ((v : Int) + s.2.length)).getD j 0 = if j = v + k then (v : Int) + s.2.length else s.1.getD j 0:=fun j=>jv (by omega)
    refine ⟨by simp [i1],by simp; omega,fun j hj hjd=>?_,fun i hi=>?_,fun l0 hl j hj hjd=>?_⟩
    ·dsimp only
     rw [hg]
     split
     ·simp; omega
     ·rename_i hne
      have h5:=i3 j (by omega) hjd
      refine ⟨h5.1,?_⟩
      rw [List.length_append,List.length_singleton]
      omega
    ·dsimp only at hi ⊢
     by_cases hlt : i < s.2.length
     ·rw [List.getElem_append_left hlt]; exact i4 i hlt
     ·obtain rfl : i = s.2.length:=by simp at hi; omega
      rw [List.getElem_append_right (Nat.le_refl _)]
      simp only [Nat.sub_self,List.getElem_cons_zero]
      refine ⟨nk.kind,?_,fun a ha=>?_,?_⟩
      ·simp only [Tn,List.length_map]; exact nk.num
      ·obtain ⟨b,hb,rfl⟩:=List.mem_map.1 ha
       have h1:=aok b hb
       exact i3 b.toNat h1.2.1 h1.2.2
      ·simp only [Tn,List.length_map]; exact nk.k
    ·dsimp only
     rw [hg]
     split
     ·rename_i e
      subst e
      rw [show ((v : Int) + (s.2.length : Int)).toNat = l0.length + s.2.length by omega]
      have h1:=Ed l0 (s.2 ++ [Tn s.1 l[k]]) (k:=s.2.length) (by simp)
      have h2:=Ed l0 l hkl
      rw [h1,<- hl,h2,List.take_left']
      ·simp only [List.getElem_append_right (Nat.le_refl _),Nat.sub_self,List.getElem_cons_zero]
       have hc : Ih (jh l0 s.2) (Tn s.1 l[k]).args = Ih (jh l0 (l.take k)) l[k].args:=by
        refine P8 fun a ha=>?_
        have h3:=aok a ha
        rw [Ec l0 l (by omega) (by omega)]
        exact i5 l0 hl a.toNat h3.2.1 h3.2.2
       rw [hc]
       exact TN (by simp) _
      ·rfl
     ·rename_i hne
      have h3:=i3 j (by omega) hjd
      rw [jT l0 s.2 _ (by omega)]
      exact i5 l0 hl j (by omega) hjd
   ·rename_i hm
    refine ⟨i1,by omega,fun j hj hjd=>?_,i4,fun l0 hl j hj hjd=>?_⟩
    ·rcases Nat.lt_or_ge j (v + k) with h | h
     ·exact i3 j h hjd
     ·obtain rfl : j = v + k:=by omega
      rcases hjd with h' | h'
      ·omega
      ·exact absurd h' hm
    ·rcases Nat.lt_or_ge j (v + k) with h | h
     ·exact i5 l0 hl j h hjd
     ·obtain rfl : j = v + k:=by omega
      rcases hjd with h' | h'
      ·omega
      ·exact absurd h' hm

def Ai (f : Fo) : List Bool:=belF f.vars.toNat f.nodes f.top.toNat
def Tj (f : Fo) (k : Nat) : List Int × List Nd:=Vw f.vars.toNat f.nodes (Ai f) k
def trimF (f : Fo) : Fo:=⟨f.vars,(Tj f f.nodes.length).2,BZ (Tj f f.nodes.length).1 f.top⟩

theorem QS (f : Fo) (h : xY f) (k : Nat) (hk : k <= f.nodes.length) : TrI f.vars.toNat f.nodes (Ai f) k (Tj f k):=by
 have h1:=h.vars
 have h4:=h.top
 have ha:=h.args
 have hb:=fun j=>Gt (v:=f.vars.toNat) (l:=f.nodes) (top:=f.top.toNat) (by omega) ha j
 refine QT (fun i hi=>?_) (fun i hi hd a haa=>?_) k hk
 ·have:=h.nodes i hi
  rw [show (f.vars.toNat : Int) = f.vars by omega]; exact this
 ·refine .inr ?_
  have h2:=(hb _).1 hd
  exact (hb _).2 (.step h2 hi haa)

theorem QO (f : Fo) (h : xY f) : xY (trimF f) /\ ∀ l0 : List Bool,l0.length = f.vars.toNat -> (jh l0 (trimF f).nodes).getD (trimF f).top.toNat false = (jh l0 f.nodes).getD f.top.toNat false:=by
 have h1:=h.vars
 have h3:=h.len
 have h4:=h.top
 have ti:=QS f h f.nodes.length (Nat.le_refl _)
 have hb:=fun j=>Gt (v:=f.vars.toNat) (l:=f.nodes) (top:=f.top.toNat) (by omega) h.args j
 have ht : f.top.toNat < f.vars.toNat \/ (Ai f).getD f.top.toNat false = true:=.inr ((hb _).2 .root)
 have rf:=ti.ref f.top.toNat (by omega) ht
 have out:=ti.out
 refine ⟨⟨h1,by show (Tj f f.nodes.length).2.length <= 128; omega,fun i hi=>?_,?_⟩,fun l0 hl=>?_⟩
 ·have:=ti.nd i hi
  rw [show (f.vars.toNat : Int) = f.vars by omega] at this; exact this
 ·show 0 <= BZ _ f.top /\ BZ _ f.top < f.vars + _
  unfold BZ trimF
  dsimp only
  omega
 ·exact ti.val l0 hl f.top.toNat (by omega) ht

def zQ (n k : Nat) : List Int:=(List.range k).map (fun i : Nat=>(i : Int)) ++ List.replicate (n - k) 0

theorem PV {n k : Nat} (h : k < n) : (zQ n k).set k (k : Int) = zQ n (k + 1):=by
 unfold zQ
 obtain ⟨m,hm⟩ : ∃ m,n - k = m + 1:=⟨n - k - 1,by omega⟩
 rw [hm,show n - (k + 1) = m by omega,List.set_append_right _ _ (by simp),List.range_succ,List.map_append,List.append_assoc]
 simp [List.replicate_succ]

theorem Uf {n k : Nat} (h : k <= n) : (zQ n k).length = n:=by simp [zQ]; omega

theorem Z7 (f : Fo) (h : xY f) : aA Tryz.prog 128 [f.av] [] (.eG [(trimF f).av,.eP]) []:=by
 have cc:=vM f h
 have cb:=Oh f h
 have hbl : (belF f.vars.toNat f.nodes f.top.toNat).length = f.vars.toNat + f.nodes.length:=ng _ _ _ _
 have hinv:=QS f h
 obtain ⟨h1,h2,h3,h4⟩:=h
 refine aA.intro lay mixed Tryz.func128 (by kernel_rfl) rfl (by kernel_rfl) rfl fun hok=>?_
 (try dsimp only[aZ,aN]);(try dsimp only[aj]);conv=>whnf
 refine .pure _ _ ?_ ⟨rfl,rfl⟩ cc fun _=>?_
 ·exact ak _
 (try dsimp only[aj]);conv=>whnf
 refine ⟨bC (by simp; omega) (by simp; omega),?_⟩
 (try dsimp only[aj]);conv=>whnf
 rw [List.length_map,show f.vars + (f.nodes.length : Int) = ((f.vars.toNat + f.nodes.length : Nat) : Int) by omega]
 refine ⟨⟨by omega,Int.le_refl _,by show ((f.vars.toNat + f.nodes.length : Nat) : Int) * ((8 : Nat) : Int) <= 281474976710656; omega,by omega⟩,.wr ?_⟩
 rw [Int.toNat_natCast]
 (try dsimp only[aj]);conv=>whnf
 refine aK.of <| (aC.inv (.refl _ _) (fun k : Nat=>k <= f.vars.toNat) (fun k=>[(32,.int .i64 k)]) (fun k=>[(3,.arr 1 (f.vars.toNat + f.nodes.length) ((zQ (f.vars.toNat + f.nodes.length) k).map (.int .i64))),(2,.box (.ag [.int .i64 f.vars,.aG,.int .i64 0])),(1,.box (.ag [.int .i64 0,.aG,.int .i64 0])),(0,.box f.av)]) (fun k=>f.vars.toNat - k) 0 (Nat.zero_le _) ?_ ?_ ?_)
 ·exact fun _=>rfl
 ·refine ⟨?_,.mk ?_ (by simp [ay])⟩
  ·all_goals exact wk
  ·repeat' first|exact rfl|exact trivial|exact wR|exact lR _|apply aI
   all_goals first | (show dK (List.replicate _ _) (List.map _ ([] ++ List.replicate _ 0)); rw [List.nil_append,List.map_replicate]; exact aB _) | skip
 intro k hk _
 have hfl:=Uf (n:=f.vars.toNat + f.nodes.length) (k:=k) (by omega)
 (try dsimp only[aj]);conv=>whnf
 refine And.intro (fun g=>?_) (fun g=>?_)
 ·have hlt : k < f.vars.toNat:=by omega
  have hfs:=PV (n:=f.vars.toNat + f.nodes.length) (k:=k) (by omega)
  generalize zQ (f.vars.toNat + f.nodes.length) k = d at *
  (try dsimp only[aj]);conv=>whnf
  refine ⟨⟨by omega,by omega⟩,?_⟩
  (try dsimp only[aj]);conv=>whnf
  refine ⟨by rw [List.length_map]; omega,rfl,?_⟩
  (try dsimp only[aj]);conv=>whnf
  refine zA ?_;conv=>whnf
  refine ⟨k + 1,?_,?_,?_⟩
  ·exact hlt
  ·rw [<- hfs]
   refine ⟨?_,.mk ?_ (by simp [ay])⟩
   ·all_goals exact wk
   ·repeat' first|exact rfl|exact trivial|exact wR|exact lR _|apply aI
    all_goals (rw [Nat.zero_add,Int.toNat_natCast,List.map_set]; exact aB _)
  ·omega
 have hk : k = f.vars.toNat:=by omega
 subst hk
 clear g
 have e0 : zQ (f.vars.toNat + f.nodes.length) f.vars.toNat = (Tj f 0).1:=by
  show _ = _ ++ List.replicate f.nodes.length 0
  unfold zQ
  rw [Nat.add_sub_cancel_left]
 rw [e0]
 have cb' : aA Tryz.prog 225 [f.av] [] (.sl 1 ((Ai f).map .bool) .no) []:=cb
 have hbl' : (Ai f).length = f.vars.toNat + f.nodes.length:=hbl
 unfold trimF
 have htr : ∀ k,Tj f (k + 1) = if (Ai f).getD (f.vars.toNat + k) false = true then ((Tj f k).1.set (f.vars.toNat + k) ((f.vars.toNat : Int) + (Tj f k).2.length),(Tj f k).2 ++ [Tn (Tj f k).1 (f.nodes.getD k default)]) else Tj f k:=fun k=>rfl
 have htr0 : (Tj f 0).2 = []:=rfl
 generalize Tj f = tr at *
 generalize Ai f = d at *
 (try dsimp only[aj]);conv=>whnf
 refine aS.auto (by kernel_rfl) ?_;conv=>whnf
 refine fO.pure _ _ ?_ ⟨rfl,rfl⟩ cb' ?_
 ·exact ak _
 conv=>whnf
 have hle : ((d.map AV.bool).drop f.vars.toNat).take (((d.map AV.bool).length : Int).toNat - f.vars.toNat) = (d.drop f.vars.toNat).map AV.bool:=by
  rw [<- List.map_drop,<- List.map_take,List.take_of_length_le (by simp)]
 refine OJ.mk ⟨by simp; omega,?_⟩
 rw [hle]
 conv=>whnf
 have hdl : (d.drop f.vars.toNat).length = f.nodes.length:=by rw [List.length_drop]; omega
 refine aK.of <| (aC.inv (.I9 2 [1] 3 [] (.ag [.int .i64 f.vars,.aG,.int .i64 0]) .aG _ rfl rfl (.inl ⟨rfl,rfl⟩) rfl (.refl _ _)) (fun k : Nat=>k <= f.nodes.length) (fun k=>[(46,.int .i64 k)]) (fun k=>[(4,.tok 3 (tr k).2.length),(3,.arr 1 (f.vars.toNat + f.nodes.length) ((tr k).1.map (.int .i64))),(2,.box (.ag [.int .i64 f.vars,.sl 3 ((tr k).2.map Nd.av) (.own 4),.int .i64 0])),(1,.box (.ag [.int .i64 0,.aG,.int .i64 0])),(0,.box f.av)]) (fun k=>f.nodes.length - k) 0 (Nat.zero_le _) ?_ ?_ ?_)
 ·exact fun _=>rfl
 ·refine ⟨?_,.mk ?_ (by simp [ay])⟩
  ·all_goals exact wk
  ·repeat' first|exact rfl|exact trivial|exact wR|exact lR _|apply aI
   all_goals first | (rw [htr0]; trivial) | (rw [htr0]; rfl) | skip
 intro k hk _
 have ik:=hinv k hk
 (try dsimp only[aj]);conv=>whnf
 refine And.intro (fun g=>?_) (fun g=>?_)
 ·have hlt : k < f.nodes.length:=by simp at g; omega
  have hs1:=htr k
  have hnl : (f.nodes[k]).args.length <= 16:=by
   have hal:=(h3 _ hlt).num
   split at hal
   ·omega
   ·split at hal <;> omega
  have hna:=(h3 _ hlt).args
  have ex : f.nodes.getD k default = f.nodes[k]:=by rw [List.getD_eq_getElem?_getD,List.getElem?_eq_getElem hlt]; rfl
  rw [ex] at hs1
  (try dsimp only[aj]);conv=>whnf
  refine dQ false (by omega) ?_
  rw [show (d.drop f.vars.toNat).getD ((k : Nat) : Int).toNat false = d.getD (f.vars.toNat + k) false by rw [Int.toNat_natCast,List.getD_eq_getElem?_getD,List.getD_eq_getElem?_getD,List.getElem?_drop]]
  (try dsimp only[aj]);conv=>whnf
  refine And.intro (fun g2=>?_) (fun g2=>?_)
  ·have g2' : ¬ d.getD (f.vars.toNat + k) false = true:=by
    intro h; rw [h] at g2; cases g2
   rw [if_neg g2'] at hs1
   (try dsimp only[aj]);conv=>whnf
   refine zA ?_;conv=>whnf
   refine ⟨k + 1,?_,?_,?_⟩
   ·exact hlt
   ·rw [hs1]
    refine ⟨?_,.mk ?_ (by simp [ay])⟩
    ·all_goals exact wk
    ·all_goals exact wk
   ·omega
  have g2' : d.getD (f.vars.toNat + k) false = true:=by
   cases h : d.getD (f.vars.toNat + k) false with
   | true=>rfl
   | false=>rw [h] at g2; cases g2
  rw [if_pos g2'] at hs1
  (try dsimp only[aj]);conv=>whnf
  refine jq hlt ?_
  generalize f.nodes[k] = x at *
  obtain ⟨il,io,ir,ind,iv⟩:=ik
  generalize tr k = st at *
  obtain ⟨to,out⟩:=st
  dsimp only at *
  (try dsimp only[aj]);conv=>whnf
  refine aK.of <| (aC.inv (.I9 6 [2] 1 [] (.ag [.int .i64 x.kind,.int .i64 x.k,.aG]) .aG _ rfl rfl (.inl ⟨rfl,rfl⟩) rfl (.refl _ _)) (fun j : Nat=>j <= x.args.length) (fun j=>[(66,.int .i64 j)]) (fun j=>[(7,.tok 1 j),(6,.box (.ag [.int .i64 x.kind,.int .i64 x.k,.sl 1 (((x.args.take j).map (BZ to)).map (.int .i64)) (.own 7)])),(5,.box x.av),(4,.tok 3 out.length),(3,.arr 1 (f.vars.toNat + f.nodes.length) (to.map (.int .i64))),(2,.box (.ag [.int .i64 f.vars,.sl 3 (out.map Nd.av) (.own 4),.int .i64 0])),(1,.box (.ag [.int .i64 0,.aG,.int .i64 0])),(0,.box f.av)]) (fun j=>x.args.length - j) 0 (Nat.zero_le _) ?_ ?_ ?_)
  ·exact fun _=>rfl
  ·refine ⟨?_,.mk ?_ (by simp [ay])⟩
   ·all_goals exact wk
   ·all_goals exact wk
  intro j hj _
  have htl : ((x.args.take j).map (BZ to)).length = j:=by rw [List.length_map,List.length_take]; omega
  (try dsimp only[aj]);conv=>whnf
  refine And.intro (fun g3=>?_) (fun g3=>?_)
  ·have hjl : j < x.args.length:=by simpa using g3
   have ha:=hna _ (List.getElem_mem hjl)
   have ht1 : (x.args.take (j + 1)).map (BZ to) = (x.args.take j).map (BZ to) ++ [BZ to x.args[j]]:=by rw [List.take_succ_eq_append_getElem hjl,List.map_append]; rfl
   (try dsimp only[aj]);conv=>whnf
   refine jq hjl ?_
   generalize x.args[j] = a at *
   (try dsimp only[aj]);conv=>whnf
   refine aS.auto (by kernel_rfl) ?_;conv=>whnf
   refine ⟨⟨by omega,by omega⟩,?_⟩
   conv=>whnf
   rw [Nat.zero_add]
   refine dQ 0 ⟨by omega,by omega⟩ ?_
   conv=>whnf
   refine ⟨rfl,?_⟩
   conv=>whnf
   refine ⟨by rw [List.length_map,htl],.mk (by simp [maxL]; omega) (by simp; omega) ?_⟩
   (try dsimp only[aj]);conv=>whnf
   refine zA ?_;conv=>whnf
   refine ⟨j + 1,?_,?_,?_⟩
   ·exact hjl
   ·rw [ht1]
    refine ⟨?_,.mk ?_ (by simp [ay])⟩
    ·all_goals exact wk
    ·repeat' first|exact rfl|exact trivial|exact wR|exact lR _|apply aI
     all_goals first | (simp; omega) | (show dK _ (List.map _ (_ ++ [_])); rw [List.map_append]; exact aB _)
   ·omega
  have hjl : j = x.args.length:=by (have : ¬ j < x.args.length:=by simpa using g3); omega
  subst hjl
  rw [List.take_length]
  (try dsimp only[aj]);conv=>whnf
  refine ⟨bC (by omega) (by omega),?_⟩
  (try dsimp only[aj]);conv=>whnf
  refine ⟨bC (by simp; omega) (by simp; omega),?_⟩
  (try dsimp only[aj]);conv=>whnf
  refine ⟨⟨by omega,by omega⟩,?_⟩
  (try dsimp only[aj]);conv=>whnf
  refine ⟨by rw [List.length_map]; omega,rfl,?_⟩
  (try dsimp only[aj]);conv=>whnf
  refine ⟨by rw [List.length_map],.mk (by simp [maxL]; omega) (by simp; omega) ?_⟩
  (try dsimp only[aj]);conv=>whnf
  refine zA ?_;conv=>whnf
  refine ⟨k + 1,?_,?_,?_⟩
  ·exact hlt
  ·rw [hs1]
   refine ⟨?_,.mk ?_ (by simp [ay])⟩
   ·all_goals exact wk
   ·repeat' first|exact rfl|exact trivial|exact wR|exact lR _|apply aI
    all_goals first | (simp; done) | (show dK _ (List.map _ (_ ++ [_])); rw [List.map_append]; exact aB _) | (rw [List.map_set,Nat.zero_add,List.length_map,show (f.vars + (k : Int)).toNat = f.vars.toNat + k by omega,show f.vars + (out.length : Int) = (f.vars.toNat : Int) + out.length by omega]; exact aB _) | skip
  ·omega
 have hk : k = f.nodes.length:=by simp at g; omega
 subst hk
 obtain ⟨il,io,ir,ind,iv⟩:=ik
 generalize tr f.nodes.length = st at *
 obtain ⟨to,out⟩:=st
 dsimp only at *
 (try dsimp only[aj]);conv=>whnf
 refine ⟨⟨h4.1,by omega⟩,?_⟩
 (try dsimp only[aj]);conv=>whnf
 rw [Nat.zero_add]
 refine dQ 0 ⟨by omega,by omega⟩ ?_
 (try dsimp only[aj]);conv=>whnf
 refine ⟨rfl,?_⟩
 (try dsimp only[aj]);conv=>whnf
 refine ⟨⟨_,_,.refl _ _,?_⟩⟩
 conv=>whnf
 refine ⟨?_,rfl,by simp [nextId],.mk ?_ (by simp [ay])⟩
 ·all_goals exact wk
 ·all_goals exact wk

theorem fnLe {f : Nat} {As Bs : List AV} {R : AV} {H H' : Heap} (h : aA Tryz.prog f As H R H') (hle : H9 Bs As) : aA Tryz.prog f Bs H R H' :=
 ⟨h.1,fun c vs hr hv=>h.2 c vs hr (wP hle hv)⟩

theorem ix_hi2 {i : Nat} (h : 7 <= i) : ix [5,2,6,3,4] i = none:=by
 match i,h with
 | k + 7,_=>rfl

theorem LU {n : Nat} {G Y : Heap} : ∀ {X : Heap},(∀ x ∈ X,7 <= x.1) -> lG [5,2,6,3,4] n G (X ++ Y) = X ++ lG [5,2,6,3,4] n G Y
 | [],_=>rfl
 | (i,o) :: X,h=>by
   have hi:=h (i,o) (by simp)
   simp only [List.cons_append,lG,ix_hi2 hi]
   rw [LU fun x hx=>h x (by simp [hx])]

abbrev tb2 (T : Tb) (Y : Heap) : Heap:=(6,.tok 3 T.nodes.length) :: (5,.box (.ag [.sl 1 (T.order.map (.int .i64)) .no,.ms 2 0 T.place.length T.place.length 1,.sl 3 (T.nodes.map Rj) (.own 6),.mp 3,.mp 4])) ::
 (4,.dU IE (jQ T.memo)) :: (3,.dU IE (jQ T.uq)) :: (2,.arr 1 T.place.length (T.place.map (.int .i64))) :: Y

theorem Ns {f : Nat} {args As : List AV} {R R' : AV} {T T' : Tb} (X : Heap) {o1 o0 : HO} (hX : ∀ x ∈ X,7 <= x.1) (h : aA Tryz.prog f args (iH T) R (iH T'))
  (ha : ∀ n,Dx (sg [5,2,6,3,4] n) args = As) (hR : ∀ n,iP (sg [5,2,6,3,4] n) R = R') (hb : iM 5 args = true) :
  aA Tryz.prog f As (X ++ tb2 T [(1,o1),(0,o0)]) R' (X ++ tb2 T' [(1,o1),(0,o0)]):=by
 have hn : 7 <= nextId (X ++ tb2 T [(1,o1),(0,o0)]):=by
  cases X with
  | nil=>exact Nat.le_refl _
  | cons x X=>have:=hX x (by simp); obtain ⟨i,o⟩:=x; simp [nextId] at this ⊢; omega
 have h1 : ∀ (k : Nat),k < 7 -> ∀ (q : HO -> Prop),iJ (X ++ tb2 T [(1,o1),(0,o0)]) k q ↔ iJ (tb2 T [(1,o1),(0,o0)]) k q:=fun k hk q=>wS hk hX
 have:=aA.frame (H:=X ++ tb2 T [(1,o1),(0,o0)]) (args:=As) [5,2,6,3,4] h ⟨?_,rfl,rfl,hb⟩ ?_ (by rw [ha]; exact ak _)
 ·rw [hR] at this
  have e : Ic [5,2,6,3,4] (iH T') (X ++ tb2 T [(1,o1),(0,o0)]) = X ++ tb2 T' [(1,o1),(0,o0)]:=by
   unfold Ic
   rw [LU hX]
   show X ++ lG _ _ _ _ = _
   congr 1
   show (6,_) :: (5,_) :: (4,HO.dU IE (MC _ (jQ T'.memo))) :: (3,HO.dU IE (MC _ (jQ T'.uq))) :: _ = _
   rw [qG,qG]
   rfl
  rwa [e] at this
 ·have : ∀ k,k < 7 -> Nat.blt k (nextId (X ++ tb2 T [(1,o1),(0,o0)])) = true:=fun k hk=>by
   exact Nat.ble_eq_true_of_le (by omega)
  simp only [vT,this 2 (by decide),this 3 (by decide),this 4 (by decide),this 5 (by decide),this 6 (by decide)]
 ·refine ⟨(h1 4 (by decide) _).2 ⟨⟨rfl,Bf _ _⟩,aF _ _⟩,(h1 3 (by decide) _).2 ⟨⟨rfl,Bf _ _⟩,aF _ _⟩,(h1 6 (by decide) _).2 ⟨⟨rfl,rfl⟩,rfl⟩,(h1 2 (by decide) _).2 ⟨⟨rfl,rfl,aB _⟩,rfl⟩,(h1 5 (by decide) _).2 ⟨?_,rfl⟩,trivial⟩
  exact fG _

theorem ix_hi3 {i : Nat} (h : 8 <= i) : ix [6,3,7,4,5] i = none:=by
 match i,h with
 | k + 8,_=>rfl

theorem LQ {n : Nat} {G Y : Heap} : ∀ {X : Heap},(∀ x ∈ X,8 <= x.1) -> lG [6,3,7,4,5] n G (X ++ Y) = X ++ lG [6,3,7,4,5] n G Y
 | [],_=>rfl
 | (i,o) :: X,h=>by
   have hi:=h (i,o) (by simp)
   simp only [List.cons_append,lG,ix_hi3 hi]
   rw [LQ fun x hx=>h x (by simp [hx])]

abbrev Vy (T : Tb) (Y : Heap) : Heap:=(7,.tok 3 T.nodes.length) :: (6,.box (.ag [.sl 1 (T.order.map (.int .i64)) .no,.ms 3 0 T.place.length T.place.length 1,.sl 3 (T.nodes.map Rj) (.own 7),.mp 4,.mp 5])) ::
 (5,.dU IE (jQ T.memo)) :: (4,.dU IE (jQ T.uq)) :: (3,.arr 1 T.place.length (T.place.map (.int .i64))) :: Y

theorem Ie {f : Nat} {args As : List AV} {R R' : AV} {T T' : Tb} (X : Heap) {o2 o1 o0 : HO} (hX : ∀ x ∈ X,8 <= x.1) (h : aA Tryz.prog f args (iH T) R (iH T'))
  (ha : ∀ n,Dx (sg [6,3,7,4,5] n) args = As) (hR : ∀ n,iP (sg [6,3,7,4,5] n) R = R') (hb : iM 5 args = true) :
  aA Tryz.prog f As (X ++ Vy T [(2,o2),(1,o1),(0,o0)]) R' (X ++ Vy T' [(2,o2),(1,o1),(0,o0)]):=by
 have hn : 8 <= nextId (X ++ Vy T [(2,o2),(1,o1),(0,o0)]):=by
  cases X with
  | nil=>exact Nat.le_refl _
  | cons x X=>have:=hX x (by simp); obtain ⟨i,o⟩:=x; simp [nextId] at this ⊢; omega
 have h1 : ∀ (k : Nat),k < 8 -> ∀ (q : HO -> Prop),iJ (X ++ Vy T [(2,o2),(1,o1),(0,o0)]) k q ↔ iJ (Vy T [(2,o2),(1,o1),(0,o0)]) k q:=fun k hk q=>wS hk hX
 have:=aA.frame (H:=X ++ Vy T [(2,o2),(1,o1),(0,o0)]) (args:=As) [6,3,7,4,5] h ⟨?_,rfl,rfl,hb⟩ ?_ (by rw [ha]; exact ak _)
 ·rw [hR] at this
  have e : Ic [6,3,7,4,5] (iH T') (X ++ Vy T [(2,o2),(1,o1),(0,o0)]) = X ++ Vy T' [(2,o2),(1,o1),(0,o0)]:=by
   unfold Ic
   rw [LQ hX]
   show X ++ lG _ _ _ _ = _
   congr 1
   show (7,_) :: (6,_) :: (5,HO.dU IE (MC _ (jQ T'.memo))) :: (4,HO.dU IE (MC _ (jQ T'.uq))) :: _ = _
   rw [qG,qG]
   rfl
  rwa [e] at this
 ·have : ∀ k,k < 8 -> Nat.blt k (nextId (X ++ Vy T [(2,o2),(1,o1),(0,o0)])) = true:=fun k hk=>by
   exact Nat.ble_eq_true_of_le (by omega)
  simp only [vT,this 3 (by decide),this 4 (by decide),this 5 (by decide),this 6 (by decide),this 7 (by decide)]
 ·refine ⟨(h1 5 (by decide) _).2 ⟨⟨rfl,Bf _ _⟩,aF _ _⟩,(h1 4 (by decide) _).2 ⟨⟨rfl,Bf _ _⟩,aF _ _⟩,(h1 7 (by decide) _).2 ⟨⟨rfl,rfl⟩,rfl⟩,(h1 3 (by decide) _).2 ⟨⟨rfl,rfl,aB _⟩,rfl⟩,(h1 6 (by decide) _).2 ⟨?_,rfl⟩,trivial⟩
  exact fG _


def l0 (v : Nat) (t : Int -> Bool) : List Bool:=(List.range v).map fun i : Nat=>t (i : Int)

theorem Kq (v : Nat) (t : Int -> Bool) : (l0 v t).length = v:=by simp [l0]
theorem l0_get (v : Nat) (t : Int -> Bool) {j : Nat} (h : j < v) : (l0 v t).getD j false = t (j : Int):=by
 unfold l0
 rw [List.getD_eq_getElem?_getD,List.getElem?_map,List.getElem?_range h]; rfl

theorem NR (v : List Bool) : ∀ (args : List Int),Ih v args = args.countP fun a=>v.getD a.toNat false:=by
 have k1 : ∀ (args : List Int) (n : Nat),args.foldl (fun n a=>if v.getD a.toNat false = true then n + 1 else n) n = n + args.countP fun a=>v.getD a.toNat false:=by
  intro args
  induction args with
  | nil=>intro n; simp
  | cons a l ih =>
    intro n
    rw [List.foldl_cons,ih,List.countP_cons]
    by_cases hf : v.getD a.toNat false = true
    ·rw [if_pos hf,if_pos hf]; omega
    ·rw [if_neg hf,if_neg hf]; omega
 intro args
 unfold Ih
 rw [k1,Nat.zero_add]

theorem cB_cntT {T : Tb} {t : Int -> Bool} {to : List Int} {u : List Bool} : ∀ {args : List Int},(∀ a ∈ args,ev T.nodes t (to.getD a.toNat 0) = u.getD a.toNat false) -> cB T t (args.map (BZ to)) = Ih u args:=by
 intro args h
 rw [NR]
 unfold cB
 rw [List.countP_map]
 induction args with
 | nil=>rfl
 | cons a l ih =>
   rw [List.countP_cons,List.countP_cons,ih fun b hb=>h b (by simp [hb])]
   have e : ((fun r=>ev T.nodes t r) ∘ BZ to) a = u.getD a.toNat false:=h a (by simp)
   rw [e]

structure BdI (g : Fo) (T0 : Tb) (Z : Nat) (k : Nat) (s : ImS) : Prop where
 good : bJ s.T
 ext : Xt T0 s.T
 len : s.refs.length = g.vars.toNat + g.nodes.length
 all : ∀ j : Nat,j < k -> s.T.Rf (s.refs.getD j 0) /\ ∀ t,ev s.T.nodes t (s.refs.getD j 0) = (jh (l0 g.vars.toNat t) g.nodes).getD j false
 size : s.T.nodes.length <= Z

def BdR1 (k : Nat) (s s' : ImS) : Prop:=∃ x,aA Tryz.prog 129 [.ptr 0 [] 0,.int .i64 (k : Int)] (iH s.T) (.int .i64 x) (iH s'.T) /\ s'.refs = s.refs.set k x

theorem Ye {g : Fo} {T0 : Tb} {Z k : Nat} {s : ImS} (hZ : Z <= 100000000) (hk : k < g.vars.toNat) (hn : T0.n = g.vars.toNat) (h : BdI g T0 Z k s) : ∃ s',BdI g T0 (Z + 1) (k + 1) s' /\ BdR1 k s s':=by
 obtain ⟨hg,hx,hl,ha,hz⟩:=h
 have hnn : s.T.n = g.vars.toNat:=by rw [hx.n,hn]
 have hp:=hg.YJ (k : Int) (by omega) (by omega)
 have hl0 : s.T.lvl 0 = s.T.n:=if_pos (by omega)
 have hl1 : s.T.lvl 1 = s.T.n:=if_pos (by omega)
 obtain ⟨m1,m2,m3,m4,m5,m6,m7⟩:=wM hg (v:=(k : Int)) (lo:=0) (hi:=1) ⟨by omega,by omega⟩ (.zero _) (.one _) (by omega) (by omega)
 have c:=Oa s.T (k : Int) (by omega)
 generalize s.T.make (k : Int) 0 1 = q at *
 refine ⟨⟨q.1,s.refs.set k q.2⟩,⟨m1,hx.trans m2,by simp [hl],fun j hj=>?_,by show q.1.nodes.length <= _; omega⟩,q.2,c,rfl⟩
 dsimp only
 rw [jv (by omega)]
 split
 ·rename_i e
  subst e
  refine ⟨m3,fun t=>?_⟩
  have:=jT (l0 g.vars.toNat t) [] g.nodes (j:=j) (by rw [Kq]; simpa using hk)
  rw [m7,nZ,yD]
  rw [List.nil_append] at this
  rw [this]
  show _ = (l0 g.vars.toNat t).getD j false
  rw [l0_get _ _ hk]
  cases t (j : Int) <;> rfl
 ·have:=ha j (by omega)
  exact ⟨m2.rf this.1,fun t=>by rw [m2.ev this.1]; exact this.2 t⟩

def BdR2 (g : Fo) (i : Nat) (s s' : ImS) : Prop :=
 ∃ x,aA Tryz.prog 130 [.ptr 0 [] 0,(g.nodes.getD i default).av,iL ((g.nodes.getD i default).args.map (BZ s.refs))] (iH s.T) (.int .i64 x) (iH s'.T) /\ s'.refs = s.refs.set (g.vars.toNat + i) x /\
   aA Tryz.prog 54 [.ptr 0 [] 0,.int .i64 x,.int .i64 4096] (iH s'.T) .tt (iH s'.T)

theorem Yd {g : Fo} (hok : xY g) {N : Nat} (hN : N <= 12) (hv : g.vars <= N) {T0 : Tb} {Z i : Nat} {s : ImS} (hZ : Z + 600 * 2 ^ N <= 1000000000) (hi : i < g.nodes.length) (hn : T0.n = g.vars.toNat) (h : BdI g T0 Z (g.vars.toNat + i) s) :
  ∃ s',BdI g T0 (Z + 600 * 2 ^ N) (g.vars.toNat + i + 1) s' /\ BdR2 g i s s':=by
 obtain ⟨hg,hx,hl,ha,hz⟩:=h
 have hvs:=hok.vars
 have hnn : s.T.n = g.vars.toNat:=by rw [hx.n,hn]
 have nk:=hok.nodes i hi
 have ex : g.nodes.getD i default = g.nodes[i]:=by rw [List.getD_eq_getElem?_getD,List.getElem?_eq_getElem hi]; rfl
 have hrf : ∀ a ∈ g.nodes[i].args,a.toNat < g.vars.toNat + i:=fun a haa=>by have:=nk.args a haa; omega
 obtain ⟨T',r,c,p⟩:=Z9 N s.T hg (by omega) g.vars i g.nodes[i] nk (g.nodes[i].args.map (BZ s.refs)) (by simp) (fun r hr=>by
  obtain ⟨a,haa,rfl⟩:=List.mem_map.1 hr
  exact (ha a.toNat (hrf a haa)).1) (by omega)
 have p5:=p.size
 have csm:=NY N hN T' p.good (by omega) (by rw [p.ext.n]; omega) r p.rf
 refine ⟨⟨T',s.refs.set (g.vars.toNat + i) r⟩,⟨p.good,hx.trans p.ext,by simp [hl],fun j hj=>?_,by show T'.nodes.length <= _; omega⟩,r,by rw [ex]; exact c,rfl,csm⟩
 dsimp only
 rw [jv (by omega)]
 split
 ·rename_i e
  subst e
  refine ⟨p.rf,fun t=>?_⟩
  have h1:=Ed (l0 g.vars.toNat t) g.nodes hi
  rw [Kq] at h1
  rw [p.val t,h1]
  congr 1
  refine cB_cntT fun a haa=>?_
  rw [(ha a.toNat (hrf a haa)).2 t]
  exact (Ec (l0 g.vars.toNat t) g.nodes (by rw [Kq]; exact hrf a haa) (by omega)).symm
 ·have:=ha j (by omega)
  exact ⟨p.ext.rf this.1,fun t=>by rw [p.ext.ev this.1]; exact this.2 t⟩

theorem lD.tr {T T' : Tb} (h : Xt T T') {ns : List Node} {k : Nat} {x : Node} (g : lD T' ns k x) : lD T ns k x:=by
 have e : ∀ r,lV T' ns r = lV T ns r:=fun r=>by unfold lV; rw [h.n,h.pl]
 obtain ⟨a,b,c,d,f⟩:=g
 rw [h.n] at a
 rw [h.pl,e] at d f
 exact ⟨a,b,c,d,f⟩

structure NrF (f g : Fo) : Prop where
 ok : xY g
 vars : g.vars = f.vars
 val : ∀ l0 : List Bool,l0.length = f.vars.toNat -> (jh l0 g.nodes).getD g.top.toNat false = (jh l0 f.nodes).getD f.top.toNat false

theorem IB (v : Nat) (l : List Nd) (d : List Bool) : ∀ n,(lQ v l d n).1 = 0 -> ∀ i < n,d.getD (v + i) false = false
 | 0,_,i,hi=>absurd hi (Nat.not_lt_zero _)
 | n + 1,h,i,hi=>by
   rw [Ep] at h
   split at h
   ·simp at h
   ·rename_i hm
    by_cases e : i = n
    ·subst e; simpa using hm
    ·exact IB v l d n h i (by omega)

theorem Y9 (f : Fo) (h : xY f) : NrF f (trimF f):=⟨(QO f h).1,rfl,(QO f h).2⟩
theorem nr_nil (f : Fo) (h : xY f) (hz : (lQ f.vars.toNat f.nodes (Ai f) f.nodes.length).1 = 0) : NrF f ⟨f.vars,[],f.top⟩:=by
 have h1:=h.vars
 have h4:=h.top
 have hb:=fun j=>Gt (v:=f.vars.toNat) (l:=f.nodes) (top:=f.top.toNat) (by omega) h.args j
 have ht : f.top.toNat < f.vars.toNat:=by
  apply Classical.byContradiction
  intro hn
  have:=IB _ _ _ _ hz (f.top.toNat - f.vars.toNat) (by omega)
  rw [show f.vars.toNat + (f.top.toNat - f.vars.toNat) = f.top.toNat by omega] at this
  have h2:=(hb f.top.toNat).2 .root
  unfold Ai at this
  rw [h2] at this
  cases this
 refine ⟨⟨h1,by simp,fun i hi=>absurd hi (Nat.not_lt_zero _),h4.1,by show f.top < f.vars + 0; omega⟩,rfl,fun l0 hl=>?_⟩
 have:=jT l0 [] f.nodes (j:=f.top.toNat) (by rw [hl,List.length_nil]; omega)
 exact this.symm

abbrev bdX (v : Nat) (refs : List Int) : Nat × HO:=(7,.arr 1 v (refs.map (.int .i64)))

theorem Gi {N : Nat} (hN : N <= 7) (f : Fo) (h : xY f) (hv : f.vars <= N) {o : List Int} (ho : uJ o f.vars.toNat) :
  ∃ ns x,aA Tryz.prog 51 [f.av,iL o] [] (.eG [xP o ns x,.eP]) [] /\ (∀ (k : Nat) (h : k < ns.length),lD (Tb.new o) ns k ns[k]) /\ 0 <= x /\ x < 2 + (ns.length : Int) /\ (∀ t,ev ns t x = (jh (l0 f.vars.toNat t) f.nodes).getD f.top.toNat false) /\ ns.length <= 128:=by
 have hvs:=h.vars
 have hol:=ho.len
 have key : ∃ (g : Fo) (b : Bool),NrF f g /\ (if b = true then g = trimF f /\ 0 < (lQ f.vars.toNat f.nodes (Ai f) f.nodes.length).1 else g = ⟨f.vars,[],f.top⟩ /\ (lQ f.vars.toNat f.nodes (Ai f) f.nodes.length).1 = 0):=by
  by_cases hz : (lQ f.vars.toNat f.nodes (Ai f) f.nodes.length).1 = 0
  ·exact ⟨_,false,nr_nil f h hz,by simp [hz]⟩
  ·exact ⟨_,true,Y9 f h,by simp; omega⟩
 obtain ⟨g,b,nr,hb⟩:=key
 have hgv:=nr.vars
 have hgl:=nr.ok.len
 have hpow : 2 ^ N <= 2 ^ 7:=Nat.pow_le_pow_right (by decide) hN
 have hT0 : bJ (Tb.new o):=EM ho (by omega)
 have hn0 : (Tb.new o).n = g.vars.toNat:=by show (o.length : Int) = _; omega
 obtain ⟨F,F0,F1,F2⟩:=o9 (fun k s=>BdI g (Tb.new o) k k s) BdR1 g.vars.toNat ⟨Tb.new o,List.replicate (g.vars.toNat + g.nodes.length) 0⟩
  ⟨hT0,.refl _,by simp,fun j hj=>absurd hj (Nat.not_lt_zero _),Nat.le_refl _⟩ (fun k s hk hs=>Ye (by omega) hk hn0 hs)
 obtain ⟨G,G0,G1,G2⟩:=o9 (fun k s=>BdI g (Tb.new o) (g.vars.toNat + k * (600 * 2 ^ N)) (g.vars.toNat + k) s) (BdR2 g) g.nodes.length (F g.vars.toNat)
  (by have:=F1 g.vars.toNat (Nat.le_refl _); simpa using this) (fun k s hk hs=>by
   have h1 : k * (600 * 2 ^ N) <= 128 * (600 * 2 ^ 7):=Nat.mul_le_mul (by omega) (by omega)
   have:=Yd (N:=N) nr.ok (by omega) (by omega) (by omega) hk hn0 hs
   rw [show g.vars.toNat + (k + 1) * (600 * 2 ^ N) = g.vars.toNat + k * (600 * 2 ^ N) + 600 * 2 ^ N by rw [Nat.add_mul]; omega]
   exact this)
 have last:=G1 g.nodes.length (Nat.le_refl _)
 have hsz:=last.size
 have h1 : g.nodes.length * (600 * 2 ^ N) <= 128 * (600 * 2 ^ 7):=Nat.mul_le_mul (by omega) (by omega)
 have gtop:=nr.ok.top
 have gvars:=nr.ok.vars
 have lt:=last.all g.top.toNat (by omega)
 have hnG : (G g.nodes.length).T.n = g.vars.toNat:=by rw [last.ext.n,hn0]
 obtain ⟨ns,x,c,c1,c2,c3,c4,c5⟩:=UE (G g.nodes.length).T last.good (by omega) (by
  rw [hnG,Int.toNat_natCast]
  have : 2 ^ g.vars.toNat <= 2 ^ 7:=Nat.pow_le_pow_right (by decide) (by omega)
  omega) _ lt.1
 have hord : (G g.nodes.length).T.order = o:=last.ext.order
 rw [hord] at c
 refine ⟨ns,x,?_,fun k hk=>(c1 k hk).tr last.ext,c2,c3,fun t=>?_,?_⟩
 ·have cs:=Z8 f h
  have ct:=Z7 f h
  have co:=XZ ho (by omega)
  have cn:=XI ho (by omega)
  have hFG:=G0.symm
  have hbelO : belF f.vars.toNat f.nodes f.top.toNat = Ai f:=rfl
  rw [hbelO] at cs
  generalize lQ f.vars.toNat f.nodes (Ai f) f.nodes.length = sz at *
  rw [show (f.vars.toNat : Int) = f.vars by omega] at co
  refine aA.intro lay mixed Tryz.func51 (by kernel_rfl) rfl (by kernel_rfl) rfl fun hok=>?_
  (try dsimp only[aZ,aN]);(try dsimp only[aj]);conv=>whnf
  refine .pure _ _ ?_ ⟨rfl,rfl⟩ cs fun _=>?_
  ·exact ak _
  (try dsimp only[aj]);conv=>whnf
  refine .pure _ _ ?_ ⟨rfl,rfl⟩ co fun _=>?_
  ·exact ak _
  (try dsimp only[aj]);conv=>whnf
  refine And.intro (fun g1=>?_) (fun g1=>?_)
  ·cases b with
   | false=>exfalso; simp at hb; omega
   | true =>
     obtain ⟨rfl,hb⟩:=hb
     generalize trimF f = g at *
     (try dsimp only[aj]);conv=>whnf
     refine .pure _ _ ?_ ⟨rfl,rfl⟩ ct fun _=>?_
     ·exact ak _
     (try dsimp only[aj]);conv=>whnf
     refine .gen _ _ (aA.frame [] cn ⟨rfl,rfl,rfl,rfl⟩ trivial (ak _)) fun _=>?_
     (try dsimp only[aj]);conv=>whnf
     rw [List.length_map]
     refine ⟨bC (by omega) (by omega),?_⟩
     (try dsimp only[aj]);conv=>whnf
     rw [show g.vars + (g.nodes.length : Int) = ((g.vars.toNat + g.nodes.length : Nat) : Int) by omega]
     refine ⟨⟨by omega,Int.le_refl _,by show ((g.vars.toNat + g.nodes.length : Nat) : Int) * ((8 : Nat) : Int) <= 281474976710656; omega,by omega⟩,.wr ?_⟩
     rw [Int.toNat_natCast]
     (try dsimp only[aj]);conv=>whnf
     refine aK.of <| (aC.inv (.refl _ _) (fun k : Nat=>k <= g.vars.toNat) (fun k=>[(59,.int .i64 k)]) (fun k=>bdX (g.vars.toNat + g.nodes.length) (F k).refs :: tb2 (F k).T [(1,.box OQ),(0,.box g.av)]) (fun k=>g.vars.toNat - k) 0 (Nat.zero_le _) ?_ ?_ ?_)
     ·exact fun _=>rfl
     ·rw [F0]
      refine ⟨?_,.mk ?_ (by simp [ay])⟩
      ·all_goals exact wk
      ·repeat' first|exact rfl|exact trivial|exact wR|exact lR _|apply aI
       all_goals first | (rw [List.eq_nil_of_length_eq_zero hgn]; rfl) | (show dK (List.replicate _ _) (List.map _ (List.replicate _ 0)); rw [List.map_replicate]; exact aB _) | (show le0 _ (AV.ms 2 0 (nV o o.length).length (nV o o.length).length 1); rw [jK]; rfl) | exact jK _ _ | exact (jK _ _).symm | skip
     intro k hk _
     have fk:=F1 k hk
     have fkl:=fk.len
     (try dsimp only[aj]);conv=>whnf
     refine And.intro (fun h=>?_) (fun h=>?_)
     ·have hlt : k < g.vars.toNat:=by omega
      obtain ⟨x,q,e⟩:=F2 k hlt
      (try dsimp only[aj]);conv=>whnf
      refine .gen _ _ (Ns [(7,_)] (by simp) q (fun _=>rfl) (fun _=>rfl) rfl) fun _=>?_
      (try dsimp only[aj]);conv=>whnf
      refine ⟨⟨by omega,by omega⟩,?_⟩
      (try dsimp only[aj]);conv=>whnf
      refine ⟨by rw [List.length_map]; omega,rfl,?_⟩
      (try dsimp only[aj]);conv=>whnf
      refine zA ?_;conv=>whnf
      refine ⟨k + 1,?_,?_,?_⟩
      ·exact hlt
      ·rw [e]
       refine ⟨?_,.mk ?_ (by simp [ay])⟩
       ·all_goals exact wk
       ·repeat' first|exact rfl|exact trivial|exact wR|exact lR _|apply aI
        all_goals first | exact aJ _ | exact aF _ _ | (rw [Nat.zero_add,Int.toNat_natCast,List.map_set]; exact aB _) | skip
      ·omega
     have hk : k = g.vars.toNat:=by omega
     subst hk
     clear h fkl fk
     rw [hFG]
     (try dsimp only[aj]);conv=>whnf
     refine aK.of <| (aC.inv (.refl _ _) (fun k : Nat=>k <= g.nodes.length) (fun k=>[(72,.int .i64 k)]) (fun k=>bdX (g.vars.toNat + g.nodes.length) (G k).refs :: tb2 (G k).T [(1,.box OQ),(0,.box g.av)]) (fun k=>g.nodes.length - k) 0 (Nat.zero_le _) ?_ ?_ ?_)
     ·exact fun _=>rfl
     ·refine ⟨?_,.mk ?_ (by simp [ay])⟩
      ·all_goals exact wk
      ·repeat' first|exact rfl|exact trivial|exact wR|exact lR _|apply aI
       all_goals first | exact aJ _ | exact aF _ _ | skip
     intro k hk _
     have fk:=G1 k hk
     have fkl:=fk.len
     refine And.intro (fun h=>?_) (fun h=>?_)
     ·have hlt : k < g.nodes.length:=by simp at h; omega
      obtain ⟨x,q,e,qs⟩:=G2 k hlt
      have ex : g.nodes.getD k default = g.nodes[k]:=by rw [List.getD_eq_getElem?_getD,List.getElem?_eq_getElem hlt]; rfl
      have nk:=nr.ok.nodes k hlt
      have hnl : (g.nodes[k]).args.length <= 16:=by
       have hal:=nk.num
       split at hal
       ·omega
       ·split at hal <;> omega
      have hna:=nk.args
      rw [ex] at q
      (try dsimp only[aj]);conv=>whnf
      refine jq hlt ?_
      generalize g.nodes[k] = nd at *
      generalize G k = s at *
      (try dsimp only[aj]);conv=>whnf
      refine aK.of <| (aC.inv (.grow 15 1 [] .aG rfl (.inl ⟨rfl,rfl⟩) (.refl _ _)) (fun j : Nat=>j <= nd.args.length) (fun j=>[(80,.int .i64 j),(15,.sl 1 (((nd.args.take j).map (BZ s.refs)).map (.int .i64)) (.own 9))]) (fun j=>(9,.tok 1 j) :: (8,.box nd.av) :: bdX (g.vars.toNat + g.nodes.length) s.refs :: tb2 s.T [(1,.box OQ),(0,.box g.av)]) (fun j=>nd.args.length - j) 0 (Nat.zero_le _) ?_ ?_ ?_)
      ·exact fun _=>rfl
      ·refine ⟨?_,.mk ?_ (by simp [ay])⟩
       ·all_goals exact wk
       ·repeat' first|exact rfl|exact trivial|exact wR|exact lR _|apply aI
        all_goals first | exact aJ _ | exact aF _ _ | skip
      intro j hj _
      have htl : ((nd.args.take j).map (BZ s.refs)).length = j:=by rw [List.length_map,List.length_take]; omega
      (try dsimp only[aj]);conv=>whnf
      refine And.intro (fun g3=>?_) (fun g3=>?_)
      ·have hjl : j < nd.args.length:=by simpa using g3
       have ha:=hna _ (List.getElem_mem hjl)
       have ht1 : (nd.args.take (j + 1)).map (BZ s.refs) = (nd.args.take j).map (BZ s.refs) ++ [BZ s.refs nd.args[j]]:=by rw [List.take_succ_eq_append_getElem hjl,List.map_append]; rfl
       (try dsimp only[aj]);conv=>whnf
       refine jq hjl ?_
       generalize nd.args[j] = a at *
       (try dsimp only[aj]);conv=>whnf
       refine ⟨⟨by omega,by omega⟩,?_⟩
       (try dsimp only[aj]);conv=>whnf
       rw [Nat.zero_add]
       refine dQ 0 ⟨by omega,by omega⟩ ?_
       (try dsimp only[aj]);conv=>whnf
       refine ⟨rfl,?_⟩
       (try dsimp only[aj]);conv=>whnf
       refine ⟨by rw [List.length_map,htl],.mk (by simp [maxL]; omega) (by simp; omega) ?_⟩
       (try dsimp only[aj]);conv=>whnf
       refine zA ?_;conv=>whnf
       refine ⟨j + 1,?_,?_,?_⟩
       ·exact hjl
       ·rw [ht1]
        refine ⟨?_,.mk ?_ (by simp [ay])⟩
        ·repeat' first|exact rfl|exact trivial|exact wR|exact lR _|apply aI
         all_goals first | (show dK _ (List.map _ (_ ++ [_])); rw [List.map_append]; exact aB _) | skip
        ·repeat' first|exact rfl|exact trivial|exact wR|exact lR _|apply aI
         all_goals first | exact aJ _ | exact aF _ _ | (simp; omega) | skip
       ·omega
      have hjl : j = nd.args.length:=by (have : ¬ j < nd.args.length:=by simpa using g3); omega
      subst hjl
      rw [List.take_length]
      (try dsimp only[aj]);conv=>whnf
      refine aS.late [2] ⟨[true,true,false,true,true,true,false,true,false,true,false],by kernel_rfl,?_⟩
      conv=>whnf
      refine ⟨bC (by omega) (by omega),?_⟩
      conv=>whnf
      refine .gen _ _ (fnLe (Ns (As:=[.ptr 5 [] 0,nd.av,iL (nd.args.map (BZ s.refs))]) [(9,_),(8,_),(7,_)] (by simp) q (fun _=>rfl) (fun _=>rfl) rfl) ?_) fun _=>?_
      ·all_goals exact wk
      conv=>whnf
      (refine aI (by (conv=>whnf)<;>exact rfl) ?_;(conv=>whnf))
      refine ⟨⟨by omega,by omega⟩,?_⟩
      conv=>whnf
      refine ⟨by rw [List.length_map]; omega,rfl,?_⟩
      conv=>whnf
      (refine aI (by (conv=>whnf)<;>exact rfl) ?_;(conv=>whnf))
      refine ⟨bC (by omega) (by omega),?_⟩
      (try dsimp only[aj]);conv=>whnf
      refine ⟨⟨by omega,by omega⟩,?_⟩
      rw [show (List.map (AV.int .i64) s.refs).set (0 + (g.vars + (k : Int)).toNat) (strip (.int .i64 x)) = (s.refs.set (g.vars.toNat + k) x).map (.int .i64) from by rw [List.map_set,Nat.zero_add,show (g.vars + (k : Int)).toNat = g.vars.toNat + k by omega]; rfl]
      rw [<- e]
      (try dsimp only[aj]);conv=>whnf
      have fk1:=(G1 (k + 1) hlt).len
      have ev1 : (G (k + 1)).refs.getD (g.vars.toNat + k) 0 = x:=by rw [e,jv (by omega),if_pos rfl]
      rw [show 0 + (g.vars + (k : Int)).toNat = g.vars.toNat + k by omega]
      refine dQ 0 ⟨by omega,by omega⟩ ?_
      rw [Int.toNat_natCast,ev1]
      (try dsimp only[aj]);conv=>whnf
      refine ⟨rfl,?_⟩
      (try dsimp only[aj]);conv=>whnf
      refine .gen _ _ (Ns (As:=[.ptr 5 [] 0,.int .i64 x,.int .i64 4096]) [(9,_),(8,_),(7,_)] (by simp) qs (fun _=>rfl) (fun _=>rfl) rfl) fun _=>?_
      (try dsimp only[aj]);conv=>whnf
      refine zA ?_;conv=>whnf
      refine ⟨k + 1,?_,?_,?_⟩
      ·exact hlt
      ·refine ⟨?_,.mk ?_ (by simp [ay])⟩
       ·all_goals exact wk
       ·repeat' first|exact rfl|exact trivial|exact wR|exact lR _|apply aI
        all_goals first | exact aJ _ | exact aF _ _ | skip
      ·omega
     have hk : k = g.nodes.length:=by simp at h; omega
     subst hk
     generalize G g.nodes.length = s at *
     (try dsimp only[aj]);conv=>whnf
     refine ⟨⟨by omega,by omega⟩,?_⟩
     (try dsimp only[aj]);conv=>whnf
     rw [Nat.zero_add]
     refine dQ 0 ⟨by omega,by omega⟩ ?_
     rw [Int.toNat_natCast]
     (try dsimp only[aj]);conv=>whnf
     refine ⟨rfl,?_⟩
     (try dsimp only[aj]);conv=>whnf
     refine .gen _ _ (Ns (As:=[.ptr 5 [] 0,.int .i64 (s.refs.getD g.top.toNat 0)]) (R':=xP o ns x) [(7,_)] (by simp) c (fun _=>rfl) (fun _=>rfl) rfl) fun _=>?_
     (try dsimp only[aj]);conv=>whnf
     refine ⟨⟨_,_,.refl _ _,?_⟩⟩
     conv=>whnf
     refine ⟨?_,rfl,by simp [nextId],.mk ?_ (by simp [ay])⟩
     ·all_goals exact wk
     ·all_goals exact wk
  ·cases b with
   | true=>exfalso; simp at hb; omega
   | false =>
     obtain ⟨hge,hb⟩:=hb
     have hgn : g.nodes.length = 0:=by rw [hge]; rfl
     have hnil : AV.ag [.int .i64 f.vars,.aG,.int .i64 f.top] = AV.ag [.int .i64 g.vars,.aG,.int .i64 g.top]:=by rw [hge]
     (try dsimp only[aj]);conv=>whnf
     refine .gen _ _ (aA.frame [] cn ⟨rfl,rfl,rfl,rfl⟩ trivial (ak _)) fun _=>?_
     (try dsimp only[aj]);conv=>whnf
     refine ⟨bC (by omega) (by omega),?_⟩
     (try dsimp only[aj]);conv=>whnf
     rw [show f.vars + (0 : Int) = ((g.vars.toNat + g.nodes.length : Nat) : Int) by omega]
     refine ⟨⟨by omega,Int.le_refl _,by show ((g.vars.toNat + g.nodes.length : Nat) : Int) * ((8 : Nat) : Int) <= 281474976710656; omega,by omega⟩,.wr ?_⟩
     rw [Int.toNat_natCast]
     rw [hnil]
     (try dsimp only[aj]);conv=>whnf
     refine aK.of <| (aC.inv (.refl _ _) (fun k : Nat=>k <= g.vars.toNat) (fun k=>[(59,.int .i64 k)]) (fun k=>bdX (g.vars.toNat + g.nodes.length) (F k).refs :: tb2 (F k).T [(1,.box OQ),(0,.box g.av)]) (fun k=>g.vars.toNat - k) 0 (Nat.zero_le _) ?_ ?_ ?_)
     ·exact fun _=>rfl
     ·rw [F0]
      refine ⟨?_,.mk ?_ (by simp [ay])⟩
      ·all_goals exact wk
      ·repeat' first|exact rfl|exact trivial|exact wR|exact lR _|apply aI
       all_goals first | (rw [List.eq_nil_of_length_eq_zero hgn]; rfl) | (show dK (List.replicate _ _) (List.map _ (List.replicate _ 0)); rw [List.map_replicate]; exact aB _) | (show le0 _ (AV.ms 2 0 (nV o o.length).length (nV o o.length).length 1); rw [jK]; rfl) | exact jK _ _ | exact (jK _ _).symm | skip
     intro k hk _
     have fk:=F1 k hk
     have fkl:=fk.len
     (try dsimp only[aj]);conv=>whnf
     refine And.intro (fun h=>?_) (fun h=>?_)
     ·have hlt : k < g.vars.toNat:=by omega
      obtain ⟨x,q,e⟩:=F2 k hlt
      (try dsimp only[aj]);conv=>whnf
      refine .gen _ _ (Ns [(7,_)] (by simp) q (fun _=>rfl) (fun _=>rfl) rfl) fun _=>?_
      (try dsimp only[aj]);conv=>whnf
      refine ⟨⟨by omega,by omega⟩,?_⟩
      (try dsimp only[aj]);conv=>whnf
      refine ⟨by rw [List.length_map]; omega,rfl,?_⟩
      (try dsimp only[aj]);conv=>whnf
      refine zA ?_;conv=>whnf
      refine ⟨k + 1,?_,?_,?_⟩
      ·exact hlt
      ·rw [e]
       refine ⟨?_,.mk ?_ (by simp [ay])⟩
       ·all_goals exact wk
       ·repeat' first|exact rfl|exact trivial|exact wR|exact lR _|apply aI
        all_goals first | exact aJ _ | exact aF _ _ | (rw [Nat.zero_add,Int.toNat_natCast,List.map_set]; exact aB _) | skip
      ·omega
     have hk : k = g.vars.toNat:=by omega
     subst hk
     clear h fkl fk
     rw [hFG]
     (try dsimp only[aj]);conv=>whnf
     refine aK.of <| (aC.inv (.refl _ _) (fun k : Nat=>k <= g.nodes.length) (fun k=>[(72,.int .i64 k)]) (fun k=>bdX (g.vars.toNat + g.nodes.length) (G k).refs :: tb2 (G k).T [(1,.box OQ),(0,.box g.av)]) (fun k=>g.nodes.length - k) 0 (Nat.zero_le _) ?_ ?_ ?_)
     ·exact fun _=>rfl
     ·refine ⟨?_,.mk ?_ (by simp [ay])⟩
      ·all_goals exact wk
      ·repeat' first|exact rfl|exact trivial|exact wR|exact lR _|apply aI
       all_goals first | exact aJ _ | exact aF _ _ | skip
     intro k hk _
     have fk:=G1 k hk
     have fkl:=fk.len
     refine And.intro (fun h=>?_) (fun h=>?_)
     ·have hlt : k < g.nodes.length:=by simp at h; omega
      obtain ⟨x,q,e,qs⟩:=G2 k hlt
      have ex : g.nodes.getD k default = g.nodes[k]:=by rw [List.getD_eq_getElem?_getD,List.getElem?_eq_getElem hlt]; rfl
      have nk:=nr.ok.nodes k hlt
      have hnl : (g.nodes[k]).args.length <= 16:=by
       have hal:=nk.num
       split at hal
       ·omega
       ·split at hal <;> omega
      have hna:=nk.args
      rw [ex] at q
      (try dsimp only[aj]);conv=>whnf
      refine jq hlt ?_
      generalize g.nodes[k] = nd at *
      generalize G k = s at *
      (try dsimp only[aj]);conv=>whnf
      refine aK.of <| (aC.inv (.grow 15 1 [] .aG rfl (.inl ⟨rfl,rfl⟩) (.refl _ _)) (fun j : Nat=>j <= nd.args.length) (fun j=>[(80,.int .i64 j),(15,.sl 1 (((nd.args.take j).map (BZ s.refs)).map (.int .i64)) (.own 9))]) (fun j=>(9,.tok 1 j) :: (8,.box nd.av) :: bdX (g.vars.toNat + g.nodes.length) s.refs :: tb2 s.T [(1,.box OQ),(0,.box g.av)]) (fun j=>nd.args.length - j) 0 (Nat.zero_le _) ?_ ?_ ?_)
      ·exact fun _=>rfl
      ·refine ⟨?_,.mk ?_ (by simp [ay])⟩
       ·all_goals exact wk
       ·repeat' first|exact rfl|exact trivial|exact wR|exact lR _|apply aI
        all_goals first | exact aJ _ | exact aF _ _ | skip
      intro j hj _
      have htl : ((nd.args.take j).map (BZ s.refs)).length = j:=by rw [List.length_map,List.length_take]; omega
      (try dsimp only[aj]);conv=>whnf
      refine And.intro (fun g3=>?_) (fun g3=>?_)
      ·have hjl : j < nd.args.length:=by simpa using g3
       have ha:=hna _ (List.getElem_mem hjl)
       have ht1 : (nd.args.take (j + 1)).map (BZ s.refs) = (nd.args.take j).map (BZ s.refs) ++ [BZ s.refs nd.args[j]]:=by rw [List.take_succ_eq_append_getElem hjl,List.map_append]; rfl
       (try dsimp only[aj]);conv=>whnf
       refine jq hjl ?_
       generalize nd.args[j] = a at *
       (try dsimp only[aj]);conv=>whnf
       refine ⟨⟨by omega,by omega⟩,?_⟩
       (try dsimp only[aj]);conv=>whnf
       rw [Nat.zero_add]
       refine dQ 0 ⟨by omega,by omega⟩ ?_
       (try dsimp only[aj]);conv=>whnf
       refine ⟨rfl,?_⟩
       (try dsimp only[aj]);conv=>whnf
       refine ⟨by rw [List.length_map,htl],.mk (by simp [maxL]; omega) (by simp; omega) ?_⟩
       (try dsimp only[aj]);conv=>whnf
       refine zA ?_;conv=>whnf
       refine ⟨j + 1,?_,?_,?_⟩
       ·exact hjl
       ·rw [ht1]
        refine ⟨?_,.mk ?_ (by simp [ay])⟩
        ·repeat' first|exact rfl|exact trivial|exact wR|exact lR _|apply aI
         all_goals first | (show dK _ (List.map _ (_ ++ [_])); rw [List.map_append]; exact aB _) | skip
        ·repeat' first|exact rfl|exact trivial|exact wR|exact lR _|apply aI
         all_goals first | exact aJ _ | exact aF _ _ | (simp; omega) | skip
       ·omega
      have hjl : j = nd.args.length:=by (have : ¬ j < nd.args.length:=by simpa using g3); omega
      subst hjl
      rw [List.take_length]
      (try dsimp only[aj]);conv=>whnf
      refine aS.late [2] ⟨[true,true,false,true,true,true,false,true,false,true,false],by kernel_rfl,?_⟩
      conv=>whnf
      refine ⟨bC (by omega) (by omega),?_⟩
      conv=>whnf
      refine .gen _ _ (fnLe (Ns (As:=[.ptr 5 [] 0,nd.av,iL (nd.args.map (BZ s.refs))]) [(9,_),(8,_),(7,_)] (by simp) q (fun _=>rfl) (fun _=>rfl) rfl) ?_) fun _=>?_
      ·all_goals exact wk
      conv=>whnf
      (refine aI (by (conv=>whnf)<;>exact rfl) ?_;(conv=>whnf))
      refine ⟨⟨by omega,by omega⟩,?_⟩
      conv=>whnf
      refine ⟨by rw [List.length_map]; omega,rfl,?_⟩
      conv=>whnf
      (refine aI (by (conv=>whnf)<;>exact rfl) ?_;(conv=>whnf))
      refine ⟨bC (by omega) (by omega),?_⟩
      (try dsimp only[aj]);conv=>whnf
      refine ⟨⟨by omega,by omega⟩,?_⟩
      rw [show (List.map (AV.int .i64) s.refs).set (0 + (g.vars + (k : Int)).toNat) (strip (.int .i64 x)) = (s.refs.set (g.vars.toNat + k) x).map (.int .i64) from by rw [List.map_set,Nat.zero_add,show (g.vars + (k : Int)).toNat = g.vars.toNat + k by omega]; rfl]
      rw [<- e]
      (try dsimp only[aj]);conv=>whnf
      have fk1:=(G1 (k + 1) hlt).len
      have ev1 : (G (k + 1)).refs.getD (g.vars.toNat + k) 0 = x:=by rw [e,jv (by omega),if_pos rfl]
      rw [show 0 + (g.vars + (k : Int)).toNat = g.vars.toNat + k by omega]
      refine dQ 0 ⟨by omega,by omega⟩ ?_
      rw [Int.toNat_natCast,ev1]
      (try dsimp only[aj]);conv=>whnf
      refine ⟨rfl,?_⟩
      (try dsimp only[aj]);conv=>whnf
      refine .gen _ _ (Ns (As:=[.ptr 5 [] 0,.int .i64 x,.int .i64 4096]) [(9,_),(8,_),(7,_)] (by simp) qs (fun _=>rfl) (fun _=>rfl) rfl) fun _=>?_
      (try dsimp only[aj]);conv=>whnf
      refine zA ?_;conv=>whnf
      refine ⟨k + 1,?_,?_,?_⟩
      ·exact hlt
      ·refine ⟨?_,.mk ?_ (by simp [ay])⟩
       ·all_goals exact wk
       ·repeat' first|exact rfl|exact trivial|exact wR|exact lR _|apply aI
        all_goals first | exact aJ _ | exact aF _ _ | skip
      ·omega
     have hk : k = g.nodes.length:=by simp at h; omega
     subst hk
     generalize G g.nodes.length = s at *
     (try dsimp only[aj]);conv=>whnf
     refine ⟨⟨by omega,by omega⟩,?_⟩
     (try dsimp only[aj]);conv=>whnf
     rw [Nat.zero_add]
     refine dQ 0 ⟨by omega,by omega⟩ ?_
     rw [Int.toNat_natCast]
     (try dsimp only[aj]);conv=>whnf
     refine ⟨rfl,?_⟩
     (try dsimp only[aj]);conv=>whnf
     refine .gen _ _ (Ns (As:=[.ptr 5 [] 0,.int .i64 (s.refs.getD g.top.toNat 0)]) (R':=xP o ns x) [(7,_)] (by simp) c (fun _=>rfl) (fun _=>rfl) rfl) fun _=>?_
     (try dsimp only[aj]);conv=>whnf
     refine ⟨⟨_,_,.refl _ _,?_⟩⟩
     conv=>whnf
     refine ⟨?_,rfl,by simp [nextId],.mk ?_ (by simp [ay])⟩
     ·all_goals exact wk
     ·all_goals exact wk
 ·rw [c4,lt.2,<- nr.val (l0 f.vars.toNat t) (Kq _ _),hgv]
 ·have : 2 ^ (G g.nodes.length).T.n.toNat <= 2 ^ 7:=Nat.pow_le_pow_right (by decide) (by rw [hnG]; omega)
  omega

def xE (k : Int) (n : Nat) : Bool:=if k = 0 then decide (n = 0) else if k = 1 then decide (n = 1) else decide (1 <= n /\ n <= 16)
def rP (v : Int) (i : Nat) (a : Int) : Bool:=decide (a < 0 \/ v + i <= a)
def nI (x : Nd) : Int:=if x.kind = 0 then (if x.k ≠ 0 /\ x.k ≠ 1 then 3 else 0) else if x.kind = 4 then (if x.k < 1 \/ (x.args.length : Int) < x.k then 3 else 0) else if x.k ≠ 0 then 2 else 0
def aV (v : Int) (i : Nat) (x : Nd) : Int:=if x.kind < 0 \/ 5 < x.kind then 7 else if xE x.kind x.args.length = false then 11 else if x.args.any (rP v i) = true then 10 else nI x
def jL (v : Int) : Nat -> List Nd -> Int
 | _,[]=>0
 | i,x :: l=>if aV v i x ≠ 0 then aV v i x else jL v (i + 1) l
def iq (f : Fo) : Int:=if f.vars < 0 \/ 24 < f.vars then 3 else if 128 < f.nodes.length then 4 else if jL f.vars 0 f.nodes ≠ 0 then jL f.vars 0 f.nodes else if ¬ (0 <= f.top /\ f.top < f.vars + f.nodes.length) then 10 else 0

theorem Wy {v : Int} {i : Nat} {x : Nd} (h : aV v i x = 0) : Hl v i x:=by
 unfold aV at h
 split at h
 ·cases h
 rename_i h1
 split at h
 ·cases h
 rename_i h2
 split at h
 ·cases h
 rename_i h3
 have h2 : xE x.kind x.args.length = true:=by simpa using h2
 have h3 : ∀ a ∈ x.args,0 <= a /\ a < v + i:=fun a ha=>by
  have : rP v i a = false:=by
   cases hb : rP v i a with
   | false=>rfl
   | true=>exact absurd (List.any_eq_true.2 ⟨a,ha,hb⟩) h3
  unfold rP at this
  have:=of_decide_eq_false this
  omega
 refine ⟨by omega,?_,h3,?_⟩
 ·unfold xE at h2
  split
  ·rename_i e; rw [if_pos e] at h2; simpa using h2
  ·rename_i e; rw [if_neg e] at h2
   split
   ·rename_i e; rw [if_pos e] at h2; simpa using h2
   ·rename_i e; rw [if_neg e] at h2; simpa using h2
 ·unfold nI at h
  split
  ·rename_i e
   rw [if_pos e] at h
   split at h
   ·cases h
   ·omega
  ·rename_i e
   rw [if_neg e] at h
   split
   ·rename_i e
    rw [if_pos e] at h
    split at h
    ·cases h
    ·omega
   ·rename_i e
    rw [if_neg e] at h
    split at h
    ·cases h
    ·omega

theorem IW {v : Int} : ∀ (l : List Nd) (i : Nat),jL v i l = 0 -> ∀ (k : Nat) (h : k < l.length),Hl v (i + k) l[k]
 | [],_,_,k,h=>absurd h (Nat.not_lt_zero _)
 | x :: l,i,he,k,h=>by
   unfold jL at he
   split at he
   ·contradiction
   rename_i e
   have e : aV v i x = 0:=by simpa using e
   cases k with
   | zero=>exact Wy e
   | succ k =>
     have:=IW l (i + 1) he k (by simpa using h)
     rw [show i + 1 + k = i + (k + 1) by omega] at this
     exact this

theorem Nu {f : Fo} (h : iq f = 0) : xY f:=by
 unfold iq at h
 split at h
 ·cases h
 split at h
 ·cases h
 split at h
 ·contradiction
 split at h
 ·cases h
 rename_i h1 h2 h3 h4
 refine ⟨by omega,by omega,fun i hi=>?_,by omega⟩
 have:=IW f.nodes 0 (by simpa using h3) i hi
 rw [Nat.zero_add] at this
 exact this

theorem Ci {v : Int} {l : List Nd} {i : Nat} (h : i < l.length) : jL v i (l.drop i) = if aV v i l[i] ≠ 0 then aV v i l[i] else jL v (i + 1) (l.drop (i + 1)):=by
 rw [List.drop_eq_getElem_cons h]; rfl

theorem c_farg (k : Int) (n : Nat) : aA Tryz.prog 250 [.int .i64 k,.int .i64 n] [] (.bool (xE k n)) []:=by
 refine aA.intro lay mixed Tryz.func250 (by kernel_rfl) rfl (by kernel_rfl) rfl fun hok=>?_
 (try dsimp only[aZ,aN]);(try dsimp only[aj]);conv=>whnf
 refine And.intro (fun g=>?_) (fun g=>?_)
 ·rw [show xE k n = decide (n = 0) from if_pos g]
  (try dsimp only[aj]);conv=>whnf
  refine fM ?_;(conv=>whnf);refine ⟨?_,rfl⟩;conv=>whnf
  show ((n : Int) = 0) ↔ _
  simp
 rw [show xE k n = if k = 1 then decide (n = 1) else decide (1 <= n /\ n <= 16) from if_neg g]
 (try dsimp only[aj]);conv=>whnf
 refine And.intro (fun g=>?_) (fun g=>?_)
 ·rw [if_pos g]
  (try dsimp only[aj]);conv=>whnf
  refine fM ?_;(conv=>whnf);refine ⟨?_,rfl⟩;conv=>whnf
  show ((n : Int) = 1) ↔ _
  simp; omega
 rw [if_neg g]
 (try dsimp only[aj]);conv=>whnf
 refine And.intro (fun g=>?_) (fun g=>?_)
 ·(try dsimp only[aj]);conv=>whnf
  refine fM ?_;(conv=>whnf);refine ⟨?_,rfl⟩;conv=>whnf
  show ((n : Int) <= 16) ↔ _
  simp; omega
 ·(try dsimp only[aj]);conv=>whnf
  refine fM ?_;(conv=>whnf);refine ⟨?_,rfl⟩;conv=>whnf
  show decide (1 <= n /\ n <= 16) = false
  exact decide_eq_false (by omega)

theorem lZ {p : Int -> Bool} {l : List Int} {j : Nat} (h : j < l.length) (h1 : (l.take j).any p = false) (h2 : p l[j] = false) : (l.take (j + 1)).any p = false:=by
 rw [List.take_succ_eq_append_getElem h,List.any_append,h1]; simp [h2]

theorem Ii (f : Fo) (hv : 0 <= f.vars /\ f.vars <= 24) (i : Nat) (hi : i < f.nodes.length) (hl : f.nodes.length <= 128) (R : AV) (hR : R = rF (aV f.vars i f.nodes[i])) : aA Tryz.prog 186 [f.av,.int .i64 i] [] R []:=by
 refine aA.intro lay mixed Tryz.func186 (by kernel_rfl) rfl (by kernel_rfl) rfl fun hok=>?_
 (try dsimp only[aZ,aN]);(try dsimp only[aj]);conv=>whnf
 refine jq hi ?_
 generalize f.nodes[i] = x at *
 have ca:=c_farg x.kind x.args.length
 (try dsimp only[aj]);conv=>whnf
 refine And.intro (fun g=>?_) (fun g=>?_)
 ·have hE : aV f.vars i x = 7:=if_pos (.inl g)
  obtain rfl : R = .jm 111 (.int .i64 7):=by rw [hR]; first | (rw [show aV f.vars i x = 7 from hE]; rfl) | rfl
  (try dsimp only[aj]);conv=>whnf
  refine fM ?_;(conv=>whnf);refine ⟨?_,rfl⟩;conv=>whnf
  all_goals exact wk
 (try dsimp only[aj]);conv=>whnf
 refine And.intro (fun g'=>?_) (fun g'=>?_)
 ·have hE : aV f.vars i x = 7:=if_pos (.inr g')
  obtain rfl : R = .jm 111 (.int .i64 7):=by rw [hR]; first | (rw [show aV f.vars i x = 7 from hE]; rfl) | rfl
  (try dsimp only[aj]);conv=>whnf
  refine fM ?_;(conv=>whnf);refine ⟨?_,rfl⟩;conv=>whnf
  all_goals exact wk
 have hE1 : aV f.vars i x = if xE x.kind x.args.length = false then 11 else if x.args.any (rP f.vars i) = true then 10 else nI x:=if_neg (by omega)
 (try dsimp only[aj]);conv=>whnf
 rw [show (((x.args.map (AV.int .i64)).length : Nat) : Int) = (x.args.length : Int) by simp]
 refine .pure _ _ ?_ ⟨rfl,rfl⟩ ca fun _=>?_
 ·all_goals exact wk
 (try dsimp only[aj]);conv=>whnf
 refine And.intro (fun g=>?_) (fun g=>?_)
 ·have hE:=hE1.trans (if_pos (by simpa using g))
  obtain rfl : R = .jm 111 (.int .i64 11):=by rw [hR]; first | (rw [show aV f.vars i x = 11 from hE]; rfl) | rfl
  (try dsimp only[aj]);conv=>whnf
  refine fM ?_;(conv=>whnf);refine ⟨?_,rfl⟩;conv=>whnf
  all_goals exact wk
 have hE2:=hE1.trans (if_neg (by simpa using g))
 have hal : x.args.length <= 16:=by
  have : xE x.kind x.args.length = true:=by simpa using g
  unfold xE at this
  split at this
  ·have:=of_decide_eq_true this; omega
  ·split at this
   ·have:=of_decide_eq_true this; omega
   ·have:=of_decide_eq_true this; omega
 clear hE1
 (try dsimp only[aj]);conv=>whnf
 refine aK.of <| aC.inv (.refl _ _) (fun (j : Nat)=>j <= x.args.length /\ (x.args.take j).any (rP f.vars i) = false) (fun (j : Nat)=>[(33,.int .i64 j)]) (fun _=>_) (fun (j : Nat)=>x.args.length - j) 0 ?_ (fun _=>rfl) ?_ ?_
 ·exact ⟨Nat.zero_le _,rfl⟩
 ·all_goals exact wk
 rintro j ⟨hj,hany⟩ _
 (try dsimp only[aj]);conv=>whnf
 refine And.intro (fun g1=>?_) (fun g1=>?_)
 ·have hjl : j < x.args.length:=by simpa using g1
  have hat:=lZ hjl hany
  have hin:=List.getElem_mem hjl
  (try dsimp only[aj]);conv=>whnf
  refine jq hjl ?_
  generalize x.args[j] = a at *
  have bad : rP f.vars i a = true -> aV f.vars i x = 10:=fun hb=>hE2.trans (if_pos (List.any_eq_true.2 ⟨a,hin,hb⟩))
  (try dsimp only[aj]);conv=>whnf
  refine And.intro (fun g=>?_) (fun g=>?_)
  ·have hE:=bad (decide_eq_true (.inl g))
   obtain rfl : R = .jm 111 (.int .i64 10):=by rw [hR]; first | (rw [show aV f.vars i x = 10 from hE]; rfl) | rfl
   (try dsimp only[aj]);conv=>whnf
   refine fM ?_;(conv=>whnf);refine ⟨?_,rfl⟩;conv=>whnf
   all_goals exact wk
  (try dsimp only[aj]);conv=>whnf
  refine zA ?_;conv=>whnf
  refine And.intro (fun g'=>?_) (fun g'=>?_)
  ·have hE:=bad (decide_eq_true (.inr g'))
   obtain rfl : R = .jm 111 (.int .i64 10):=by rw [hR]; first | (rw [show aV f.vars i x = 10 from hE]; rfl) | rfl
   (try dsimp only[aj]);conv=>whnf
   refine fM ?_;(conv=>whnf);refine ⟨?_,rfl⟩;conv=>whnf
   all_goals exact wk
  (try dsimp only[aj]);conv=>whnf
  refine zA ?_;conv=>whnf
  refine ⟨j + 1,?_,?_,?_⟩
  ·exact ⟨hjl,hat (decide_eq_false (by omega))⟩
  ·all_goals exact wk
  ·omega
 have hjl : j = x.args.length:=by (have : ¬ j < x.args.length:=by simpa using g1); omega
 subst hjl
 rw [List.take_length] at hany
 have hK:=hE2.trans (if_neg (by rw [hany]; simp))
 (try dsimp only[aj]);conv=>whnf
 refine And.intro (fun g=>?_) (fun g=>?_)
 ·rw [show nI x = if x.k ≠ 0 /\ x.k ≠ 1 then 3 else 0 from if_pos g] at hK
  (try dsimp only[aj]);conv=>whnf
  refine And.intro (fun g=>?_) (fun g=>?_)
  ·(try dsimp only[aj]);conv=>whnf
   refine And.intro (fun g'=>?_) (fun g'=>?_)
   ·have hE:=hK.trans (if_pos ⟨g,g'⟩)
    obtain rfl : R = .jm 111 (.int .i64 3):=by rw [hR]; first | (rw [show aV f.vars i x = 3 from hE]; rfl) | rfl
    (try dsimp only[aj]);conv=>whnf
    refine fM ?_;(conv=>whnf);refine ⟨?_,rfl⟩;conv=>whnf
    all_goals exact wk
   ·have hE:=hK.trans (if_neg (fun h=>g' h.2))
    obtain rfl : R = .eP:=by rw [hR,show aV f.vars i x = 0 from hE]; rfl
    (try dsimp only[aj]);conv=>whnf
    refine fM ?_;(conv=>whnf);refine ⟨?_,rfl⟩;conv=>whnf
    all_goals exact wk
  ·have hE:=hK.trans (if_neg (fun h=>g h.1))
   obtain rfl : R = .eP:=by rw [hR,show aV f.vars i x = 0 from hE]; rfl
   (try dsimp only[aj]);conv=>whnf
   refine fM ?_;(conv=>whnf);refine ⟨?_,rfl⟩;conv=>whnf
   all_goals exact wk
 have gk:=g
 (try dsimp only[aj]);conv=>whnf
 refine And.intro (fun g=>?_) (fun g=>?_)
 ·rw [show nI x = if x.k < 1 \/ (x.args.length : Int) < x.k then 3 else 0 from (if_neg gk).trans (if_pos g)] at hK
  (try dsimp only[aj]);conv=>whnf
  refine And.intro (fun g=>?_) (fun g=>?_)
  ·have hE:=hK.trans (if_pos (.inl g))
   obtain rfl : R = .jm 111 (.int .i64 3):=by rw [hR]; first | (rw [show aV f.vars i x = 3 from hE]; rfl) | rfl
   (try dsimp only[aj]);conv=>whnf
   refine fM ?_;(conv=>whnf);refine ⟨?_,rfl⟩;conv=>whnf
   all_goals exact wk
  ·(try dsimp only[aj]);conv=>whnf
   refine And.intro (fun g'=>?_) (fun g'=>?_)
   ·have hE:=hK.trans (if_pos (.inr (by simpa using g')))
    obtain rfl : R = .jm 111 (.int .i64 3):=by rw [hR]; first | (rw [show aV f.vars i x = 3 from hE]; rfl) | rfl
    (try dsimp only[aj]);conv=>whnf
    refine fM ?_;(conv=>whnf);refine ⟨?_,rfl⟩;conv=>whnf
    all_goals exact wk
   ·have hE:=hK.trans (if_neg (fun h=>h.elim g (fun h=>g' (by simpa using h))))
    obtain rfl : R = .eP:=by rw [hR,show aV f.vars i x = 0 from hE]; rfl
    (try dsimp only[aj]);conv=>whnf
    refine fM ?_;(conv=>whnf);refine ⟨?_,rfl⟩;conv=>whnf
    all_goals exact wk
 rw [show nI x = if x.k ≠ 0 then 2 else 0 from (if_neg gk).trans (if_neg g)] at hK
 (try dsimp only[aj]);conv=>whnf
 refine And.intro (fun g=>?_) (fun g=>?_)
 ·have hE:=hK.trans (if_pos g)
  obtain rfl : R = .jm 111 (.int .i64 2):=by rw [hR]; first | (rw [show aV f.vars i x = 2 from hE]; rfl) | rfl
  (try dsimp only[aj]);conv=>whnf
  refine fM ?_;(conv=>whnf);refine ⟨?_,rfl⟩;conv=>whnf
  all_goals exact wk
 ·have hE:=hK.trans (if_neg g)
  obtain rfl : R = .eP:=by rw [hR,show aV f.vars i x = 0 from hE]; rfl
  (try dsimp only[aj]);conv=>whnf
  refine fM ?_;(conv=>whnf);refine ⟨?_,rfl⟩;conv=>whnf
  all_goals exact wk

theorem UM (f : Fo) (hv : 0 <= f.vars /\ f.vars <= 24) : aA Tryz.prog 187 [f.av,.int .i64 f.top] [] (.bool (decide (0 <= f.top /\ f.top < f.vars + f.nodes.length))) []:=by
 refine aA.intro lay mixed Tryz.func187 (by kernel_rfl) rfl (by kernel_rfl) rfl fun hok=>?_
 have hi1 : -9223372036854775808 <= f.top /\ f.top <= 9223372036854775807:=hok.1.2.2.1
 (try dsimp only[aZ,aN]);(try dsimp only[aj]);conv=>whnf
 refine And.intro (fun _=>?_) (fun g=>by exfalso; omega)
 (try dsimp only[aj]);conv=>whnf
 refine And.intro (fun g0=>?_) (fun g0=>?_)
 ·(try dsimp only[aj]);conv=>whnf
  refine And.intro (fun g=>?_) (fun g=>?_)
  ·(try dsimp only[aj]);conv=>whnf
   refine fM ?_;(conv=>whnf);refine ⟨?_,rfl⟩;conv=>whnf
   exact decide_eq_true (by omega)
  ·(try dsimp only[aj]);conv=>whnf
   refine zA ?_;conv=>whnf
   refine fM ?_;(conv=>whnf);refine ⟨?_,rfl⟩;conv=>whnf
   show (f.top - f.vars < (((f.nodes.map Nd.av).length : Nat) : Int)) ↔ _
   rw [decide_eq_true_iff,List.length_map]
   omega
 ·(try dsimp only[aj]);conv=>whnf
  refine fM ?_;(conv=>whnf);refine ⟨?_,rfl⟩;conv=>whnf
  exact decide_eq_false (by omega)

theorem Jm (f : Fo) (R : AV) (hR : R = rF (iq f)) : aA Tryz.prog 98 [f.av] [] R []:=by
 refine aA.intro lay mixed Tryz.func98 (by kernel_rfl) rfl (by kernel_rfl) rfl fun hok=>?_
 (try dsimp only[aZ,aN]);(try dsimp only[aj]);conv=>whnf
 refine And.intro (fun g=>?_) (fun g=>?_)
 ·have hE : iq f = 3:=if_pos (.inl g)
  obtain rfl : R = .jm 111 (.int .i64 3):=by rw [hR,show iq f = 3 from hE]; rfl
  (try dsimp only[aj]);conv=>whnf
  refine fM ?_;(conv=>whnf);refine ⟨?_,rfl⟩;conv=>whnf
  all_goals exact wk
 (try dsimp only[aj]);conv=>whnf
 refine And.intro (fun g'=>?_) (fun g'=>?_)
 ·have hE : iq f = 3:=if_pos (.inr g')
  obtain rfl : R = .jm 111 (.int .i64 3):=by rw [hR,show iq f = 3 from hE]; rfl
  (try dsimp only[aj]);conv=>whnf
  refine fM ?_;(conv=>whnf);refine ⟨?_,rfl⟩;conv=>whnf
  all_goals exact wk
 have hE1 : iq f = if 128 < f.nodes.length then 4 else if jL f.vars 0 f.nodes ≠ 0 then jL f.vars 0 f.nodes else if ¬ (0 <= f.top /\ f.top < f.vars + f.nodes.length) then 10 else 0:=if_neg (by omega)
 (try dsimp only[aj]);conv=>whnf
 rw [List.length_map]
 refine And.intro (fun g2=>?_) (fun g2=>?_)
 ·have hE:=hE1.trans (if_pos (by omega))
  obtain rfl : R = .jm 111 (.int .i64 4):=by rw [hR,show iq f = 4 from hE]; rfl
  (try dsimp only[aj]);conv=>whnf
  refine fM ?_;(conv=>whnf);refine ⟨?_,rfl⟩;conv=>whnf
  all_goals exact wk
 have hE2:=hE1.trans (if_neg (by omega))
 clear hE1
 have cv:=UM f (by omega)
 have cn:=fun i hi=>Ii f (by omega) i hi (by omega)
 (try dsimp only[aj]);conv=>whnf
 refine aK.of <| aC.inv (.refl _ _) (fun (i : Nat)=>i <= f.nodes.length /\ jL f.vars 0 f.nodes = jL f.vars i (f.nodes.drop i)) (fun (i : Nat)=>[(22,.int .i64 i)]) (fun _=>_) (fun (i : Nat)=>f.nodes.length - i) 0 ?_ (fun _=>rfl) ?_ ?_
 ·exact ⟨Nat.zero_le _,rfl⟩
 ·all_goals exact wk
 rintro i ⟨hi,hnd⟩ _
 (try dsimp only[aj]);conv=>whnf
 refine And.intro (fun g1=>?_) (fun g1=>?_)
 ·have hil : i < f.nodes.length:=by simpa using g1
  have cni:=cn i hil _ rfl
  rw [Ci hil] at hnd
  by_cases he : aV f.vars i f.nodes[i] ≠ 0
  ·rw [if_pos he] at hnd
   rw [gq he] at cni
   have hE:=hE2.trans (if_pos (by rw [hnd]; exact he))
   rw [hnd] at hE
   generalize aV f.vars i f.nodes[i] = ee at *
   obtain rfl : R = .jm 111 (.int .i64 ee):=by rw [hR,hE,gq he]
   (try dsimp only[aj]);conv=>whnf
   refine .pure _ _ ?_ ⟨rfl,rfl⟩ cni fun _=>?_
   ·exact ak _
   (try dsimp only[aj]);conv=>whnf
   refine fM ?_;(conv=>whnf);refine ⟨?_,rfl⟩;conv=>whnf
   all_goals exact wk
  ·rw [if_neg he] at hnd
   have he0 : aV f.vars i f.nodes[i] = 0:=by simpa using he
   rw [he0,eU] at cni
   (try dsimp only[aj]);conv=>whnf
   refine .pure _ _ ?_ ⟨rfl,rfl⟩ cni fun _=>?_
   ·exact ak _
   (try dsimp only[aj]);conv=>whnf
   refine zA ?_;conv=>whnf
   refine ⟨i + 1,?_,?_,?_⟩
   ·exact ⟨hil,hnd⟩
   ·all_goals exact wk
   ·omega
 have hil : i = f.nodes.length:=by (have : ¬ i < f.nodes.length:=by simpa using g1); omega
 subst hil
 rw [List.drop_length] at hnd
 have hE3:=hE2.trans (if_neg (by rw [hnd]; simp [jL]))
 (try dsimp only[aj]);conv=>whnf
 refine .pure _ _ ?_ ⟨rfl,rfl⟩ cv fun _=>?_
 ·exact ak _
 (try dsimp only[aj]);conv=>whnf
 refine And.intro (fun g4=>?_) (fun g4=>?_)
 ·have hE:=hE3.trans (if_pos (fun h=>by rw [decide_eq_true h] at g4; cases g4))
  obtain rfl : R = .jm 111 (.int .i64 10):=by rw [hR,show iq f = 10 from hE]; rfl
  (try dsimp only[aj]);conv=>whnf
  refine fM ?_;(conv=>whnf);refine ⟨?_,rfl⟩;conv=>whnf
  all_goals exact wk
 ·have hE:=hE3.trans (if_neg (fun h=>by rw [decide_eq_false h] at g4; cases g4))
  obtain rfl : R = .eP:=by rw [hR,hE]; rfl
  (try dsimp only[aj]);conv=>whnf
  refine fM ?_;(conv=>whnf);refine ⟨?_,rfl⟩;conv=>whnf
  all_goals exact wk

theorem UJ (f : Fo) (hv : 0 <= f.vars /\ f.vars <= 24) (i : Nat) (hi : i < f.nodes.length) (hl : f.nodes.length <= 128) : aA Tryz.prog 138 [f.av,.int .i64 i] [] (.int .i64 (aV f.vars i f.nodes[i])) []:=by
 refine aA.intro lay mixed Tryz.func138 (by kernel_rfl) rfl (by kernel_rfl) rfl fun hok=>?_
 have hlen:=Ld hok.1.2.1.2 _ (List.getElem_mem hi)
 have hal : (f.nodes[i]).args.length <= 9223372036854775807:=by have:=hlen.2.2.1.1; simpa [maxL] using this
 clear hok hlen
 (try dsimp only[aZ,aN]);(try dsimp only[aj]);conv=>whnf
 refine jq hi ?_
 generalize f.nodes[i] = x at *
 have hE1 : 0 <= x.kind /\ x.kind <= 5 -> aV f.vars i x = if xE x.kind x.args.length = false then 11 else if x.args.any (rP f.vars i) = true then 10 else nI x:=fun h=>if_neg (by omega)
 (try dsimp only[aj]);conv=>whnf
 refine And.intro (fun g0=>?_) (fun g0=>?_)
 ·have hN : xE x.kind x.args.length = false ↔ ((x.args.length : Int) < 0 \/ 0 < (x.args.length : Int)):=by
   unfold xE; rw [if_pos g0,decide_eq_false_iff_not]; omega
  replace hE1:=hE1 (by omega)
  (try dsimp only[aj]);conv=>whnf
  rw [List.length_map]
  refine And.intro (fun g=>?_) (fun g=>?_)
  ·have hE:=hE1.trans (if_pos (hN.2 (.inl g)))
   rw [show aV f.vars i x = 11 from hE]
   (try dsimp only[aj]);conv=>whnf
   refine fM ?_;(conv=>whnf);refine ⟨?_,rfl⟩;conv=>whnf
   all_goals exact wk
  (try dsimp only[aj]);conv=>whnf
  rw [List.length_map]
  refine And.intro (fun g'=>?_) (fun g'=>?_)
  ·have hE:=hE1.trans (if_pos (hN.2 (.inr g')))
   rw [show aV f.vars i x = 11 from hE]
   (try dsimp only[aj]);conv=>whnf
   refine fM ?_;(conv=>whnf);refine ⟨?_,rfl⟩;conv=>whnf
   all_goals exact wk
  have hE2:=hE1.trans (if_neg (fun h=>(hN.1 h).elim g g'))
  clear hE1
  (try dsimp only[aj]);conv=>whnf
  refine aK.of <| aC.inv (.refl _ _) (fun (j : Nat)=>j <= x.args.length /\ (x.args.take j).any (rP f.vars i) = false) (fun (j : Nat)=>[(41,.int .i64 j)]) (fun _=>_) (fun (j : Nat)=>x.args.length - j) 0 ?_ (fun _=>rfl) ?_ ?_
  ·exact ⟨Nat.zero_le _,rfl⟩
  ·all_goals exact wk
  rintro j ⟨hj,hany⟩ _
  (try dsimp only[aj]);conv=>whnf
  refine And.intro (fun g1=>?_) (fun g1=>?_)
  ·have hjl : j < x.args.length:=by simpa using g1
   have hat:=lZ hjl hany
   have hin:=List.getElem_mem hjl
   (try dsimp only[aj]);conv=>whnf
   refine jq hjl ?_
   generalize x.args[j] = a at *
   have bad : rP f.vars i a = true -> aV f.vars i x = 10:=fun hb=>hE2.trans (if_pos (List.any_eq_true.2 ⟨a,hin,hb⟩))
   (try dsimp only[aj]);conv=>whnf
   refine And.intro (fun g=>?_) (fun g=>?_)
   ·have hE:=bad (decide_eq_true (.inl g))
    rw [show aV f.vars i x = 10 from hE]
    (try dsimp only[aj]);conv=>whnf
    refine fM ?_;(conv=>whnf);refine ⟨?_,rfl⟩;conv=>whnf
    all_goals exact wk
   (try dsimp only[aj]);conv=>whnf
   refine zA ?_;conv=>whnf
   refine And.intro (fun g'=>?_) (fun g'=>?_)
   ·have hE:=bad (decide_eq_true (.inr g'))
    rw [show aV f.vars i x = 10 from hE]
    (try dsimp only[aj]);conv=>whnf
    refine fM ?_;(conv=>whnf);refine ⟨?_,rfl⟩;conv=>whnf
    all_goals exact wk
   (try dsimp only[aj]);conv=>whnf
   refine zA ?_;conv=>whnf
   refine ⟨j + 1,?_,?_,?_⟩
   ·exact ⟨hjl,hat (decide_eq_false (by omega))⟩
   ·all_goals exact wk
   ·omega
  have hjl : j = x.args.length:=by (have : ¬ j < x.args.length:=by simpa using g1); omega
  subst hjl
  rw [List.take_length] at hany
  have hK:=hE2.trans (if_neg (by rw [hany]; simp))
  clear hE2 g g' hN
  (try dsimp only[aj]);conv=>whnf
  refine And.intro (fun g=>?_) (fun g=>?_)
  ·rw [show nI x = if x.k ≠ 0 /\ x.k ≠ 1 then 3 else 0 from if_pos g] at hK
   (try dsimp only[aj]);conv=>whnf
   refine And.intro (fun g=>?_) (fun g=>?_)
   ·(try dsimp only[aj]);conv=>whnf
    refine And.intro (fun g'=>?_) (fun g'=>?_)
    ·have hE:=hK.trans (if_pos ⟨g,g'⟩)
     rw [show aV f.vars i x = 3 from hE]
     (try dsimp only[aj]);conv=>whnf
     refine fM ?_;(conv=>whnf);refine ⟨?_,rfl⟩;conv=>whnf
     all_goals exact wk
    ·have hE:=hK.trans (if_neg (fun h=>g' h.2))
     rw [show aV f.vars i x = 0 from hE]
     (try dsimp only[aj]);conv=>whnf
     refine fM ?_;(conv=>whnf);refine ⟨?_,rfl⟩;conv=>whnf
     all_goals exact wk
   ·have hE:=hK.trans (if_neg (fun h=>g h.1))
    rw [show aV f.vars i x = 0 from hE]
    (try dsimp only[aj]);conv=>whnf
    refine fM ?_;(conv=>whnf);refine ⟨?_,rfl⟩;conv=>whnf
    all_goals exact wk
  have gk:=g
  (try dsimp only[aj]);conv=>whnf
  refine And.intro (fun g=>?_) (fun g=>?_)
  ·rw [show nI x = if x.k < 1 \/ (x.args.length : Int) < x.k then 3 else 0 from (if_neg gk).trans (if_pos g)] at hK
   (try dsimp only[aj]);conv=>whnf
   refine And.intro (fun g=>?_) (fun g=>?_)
   ·have hE:=hK.trans (if_pos (.inl g))
    rw [show aV f.vars i x = 3 from hE]
    (try dsimp only[aj]);conv=>whnf
    refine fM ?_;(conv=>whnf);refine ⟨?_,rfl⟩;conv=>whnf
    all_goals exact wk
   ·(try dsimp only[aj]);conv=>whnf
    refine And.intro (fun g'=>?_) (fun g'=>?_)
    ·have hE:=hK.trans (if_pos (.inr (by simpa using g')))
     rw [show aV f.vars i x = 3 from hE]
     (try dsimp only[aj]);conv=>whnf
     refine fM ?_;(conv=>whnf);refine ⟨?_,rfl⟩;conv=>whnf
     all_goals exact wk
    ·have hE:=hK.trans (if_neg (fun h=>h.elim g (fun h=>g' (by simpa using h))))
     rw [show aV f.vars i x = 0 from hE]
     (try dsimp only[aj]);conv=>whnf
     refine fM ?_;(conv=>whnf);refine ⟨?_,rfl⟩;conv=>whnf
     all_goals exact wk
  rw [show nI x = if x.k ≠ 0 then 2 else 0 from (if_neg gk).trans (if_neg g)] at hK
  (try dsimp only[aj]);conv=>whnf
  refine And.intro (fun g=>?_) (fun g=>?_)
  ·have hE:=hK.trans (if_pos g)
   rw [show aV f.vars i x = 2 from hE]
   (try dsimp only[aj]);conv=>whnf
   refine fM ?_;(conv=>whnf);refine ⟨?_,rfl⟩;conv=>whnf
   all_goals exact wk
  ·have hE:=hK.trans (if_neg g)
   rw [show aV f.vars i x = 0 from hE]
   (try dsimp only[aj]);conv=>whnf
   refine fM ?_;(conv=>whnf);refine ⟨?_,rfl⟩;conv=>whnf
   all_goals exact wk
 (try dsimp only[aj]);conv=>whnf
 refine And.intro (fun g1=>?_) (fun g1=>?_)
 ·have hN : xE x.kind x.args.length = false ↔ ((x.args.length : Int) < 1 \/ 1 < (x.args.length : Int)):=by
   unfold xE; rw [if_neg g0,if_pos g1,decide_eq_false_iff_not]; omega
  replace hE1:=hE1 (by omega)
  (try dsimp only[aj]);conv=>whnf
  rw [List.length_map]
  refine And.intro (fun g=>?_) (fun g=>?_)
  ·have hE:=hE1.trans (if_pos (hN.2 (.inl g)))
   rw [show aV f.vars i x = 11 from hE]
   (try dsimp only[aj]);conv=>whnf
   refine fM ?_;(conv=>whnf);refine ⟨?_,rfl⟩;conv=>whnf
   all_goals exact wk
  (try dsimp only[aj]);conv=>whnf
  rw [List.length_map]
  refine And.intro (fun g'=>?_) (fun g'=>?_)
  ·have hE:=hE1.trans (if_pos (hN.2 (.inr g')))
   rw [show aV f.vars i x = 11 from hE]
   (try dsimp only[aj]);conv=>whnf
   refine fM ?_;(conv=>whnf);refine ⟨?_,rfl⟩;conv=>whnf
   all_goals exact wk
  have hE2:=hE1.trans (if_neg (fun h=>(hN.1 h).elim g g'))
  clear hE1
  (try dsimp only[aj]);conv=>whnf
  refine aK.of <| aC.inv (.refl _ _) (fun (j : Nat)=>j <= x.args.length /\ (x.args.take j).any (rP f.vars i) = false) (fun (j : Nat)=>[(41,.int .i64 j)]) (fun _=>_) (fun (j : Nat)=>x.args.length - j) 0 ?_ (fun _=>rfl) ?_ ?_
  ·exact ⟨Nat.zero_le _,rfl⟩
  ·all_goals exact wk
  rintro j ⟨hj,hany⟩ _
  (try dsimp only[aj]);conv=>whnf
  refine And.intro (fun g1=>?_) (fun g1=>?_)
  ·have hjl : j < x.args.length:=by simpa using g1
   have hat:=lZ hjl hany
   have hin:=List.getElem_mem hjl
   (try dsimp only[aj]);conv=>whnf
   refine jq hjl ?_
   generalize x.args[j] = a at *
   have bad : rP f.vars i a = true -> aV f.vars i x = 10:=fun hb=>hE2.trans (if_pos (List.any_eq_true.2 ⟨a,hin,hb⟩))
   (try dsimp only[aj]);conv=>whnf
   refine And.intro (fun g=>?_) (fun g=>?_)
   ·have hE:=bad (decide_eq_true (.inl g))
    rw [show aV f.vars i x = 10 from hE]
    (try dsimp only[aj]);conv=>whnf
    refine fM ?_;(conv=>whnf);refine ⟨?_,rfl⟩;conv=>whnf
    all_goals exact wk
   (try dsimp only[aj]);conv=>whnf
   refine zA ?_;conv=>whnf
   refine And.intro (fun g'=>?_) (fun g'=>?_)
   ·have hE:=bad (decide_eq_true (.inr g'))
    rw [show aV f.vars i x = 10 from hE]
    (try dsimp only[aj]);conv=>whnf
    refine fM ?_;(conv=>whnf);refine ⟨?_,rfl⟩;conv=>whnf
    all_goals exact wk
   (try dsimp only[aj]);conv=>whnf
   refine zA ?_;conv=>whnf
   refine ⟨j + 1,?_,?_,?_⟩
   ·exact ⟨hjl,hat (decide_eq_false (by omega))⟩
   ·all_goals exact wk
   ·omega
  have hjl : j = x.args.length:=by (have : ¬ j < x.args.length:=by simpa using g1); omega
  subst hjl
  rw [List.take_length] at hany
  have hK:=hE2.trans (if_neg (by rw [hany]; simp))
  clear hE2 g g' hN
  (try dsimp only[aj]);conv=>whnf
  refine And.intro (fun g=>?_) (fun g=>?_)
  ·rw [show nI x = if x.k ≠ 0 /\ x.k ≠ 1 then 3 else 0 from if_pos g] at hK
   (try dsimp only[aj]);conv=>whnf
   refine And.intro (fun g=>?_) (fun g=>?_)
   ·(try dsimp only[aj]);conv=>whnf
    refine And.intro (fun g'=>?_) (fun g'=>?_)
    ·have hE:=hK.trans (if_pos ⟨g,g'⟩)
     rw [show aV f.vars i x = 3 from hE]
     (try dsimp only[aj]);conv=>whnf
     refine fM ?_;(conv=>whnf);refine ⟨?_,rfl⟩;conv=>whnf
     all_goals exact wk
    ·have hE:=hK.trans (if_neg (fun h=>g' h.2))
     rw [show aV f.vars i x = 0 from hE]
     (try dsimp only[aj]);conv=>whnf
     refine fM ?_;(conv=>whnf);refine ⟨?_,rfl⟩;conv=>whnf
     all_goals exact wk
   ·have hE:=hK.trans (if_neg (fun h=>g h.1))
    rw [show aV f.vars i x = 0 from hE]
    (try dsimp only[aj]);conv=>whnf
    refine fM ?_;(conv=>whnf);refine ⟨?_,rfl⟩;conv=>whnf
    all_goals exact wk
  have gk:=g
  (try dsimp only[aj]);conv=>whnf
  refine And.intro (fun g=>?_) (fun g=>?_)
  ·rw [show nI x = if x.k < 1 \/ (x.args.length : Int) < x.k then 3 else 0 from (if_neg gk).trans (if_pos g)] at hK
   (try dsimp only[aj]);conv=>whnf
   refine And.intro (fun g=>?_) (fun g=>?_)
   ·have hE:=hK.trans (if_pos (.inl g))
    rw [show aV f.vars i x = 3 from hE]
    (try dsimp only[aj]);conv=>whnf
    refine fM ?_;(conv=>whnf);refine ⟨?_,rfl⟩;conv=>whnf
    all_goals exact wk
   ·(try dsimp only[aj]);conv=>whnf
    refine And.intro (fun g'=>?_) (fun g'=>?_)
    ·have hE:=hK.trans (if_pos (.inr (by simpa using g')))
     rw [show aV f.vars i x = 3 from hE]
     (try dsimp only[aj]);conv=>whnf
     refine fM ?_;(conv=>whnf);refine ⟨?_,rfl⟩;conv=>whnf
     all_goals exact wk
    ·have hE:=hK.trans (if_neg (fun h=>h.elim g (fun h=>g' (by simpa using h))))
     rw [show aV f.vars i x = 0 from hE]
     (try dsimp only[aj]);conv=>whnf
     refine fM ?_;(conv=>whnf);refine ⟨?_,rfl⟩;conv=>whnf
     all_goals exact wk
  rw [show nI x = if x.k ≠ 0 then 2 else 0 from (if_neg gk).trans (if_neg g)] at hK
  (try dsimp only[aj]);conv=>whnf
  refine And.intro (fun g=>?_) (fun g=>?_)
  ·have hE:=hK.trans (if_pos g)
   rw [show aV f.vars i x = 2 from hE]
   (try dsimp only[aj]);conv=>whnf
   refine fM ?_;(conv=>whnf);refine ⟨?_,rfl⟩;conv=>whnf
   all_goals exact wk
  ·have hE:=hK.trans (if_neg g)
   rw [show aV f.vars i x = 0 from hE]
   (try dsimp only[aj]);conv=>whnf
   refine fM ?_;(conv=>whnf);refine ⟨?_,rfl⟩;conv=>whnf
   all_goals exact wk
 have hN : xE x.kind x.args.length = false ↔ ((x.args.length : Int) < 1 \/ 16 < (x.args.length : Int)):=by
  unfold xE; rw [if_neg g0,if_neg g1,decide_eq_false_iff_not]; omega
 (try dsimp only[aj]);conv=>whnf
 refine And.intro (fun g2=>?_) (fun g2=>?_)
 ·replace hE1:=hE1 (by omega)
  (try dsimp only[aj]);conv=>whnf
  refine And.intro (fun _=>?_) (fun h=>absurd g2 h)
  (try dsimp only[aj]);conv=>whnf
  rw [List.length_map]
  refine And.intro (fun g=>?_) (fun g=>?_)
  ·have hE:=hE1.trans (if_pos (hN.2 (.inl g)))
   rw [show aV f.vars i x = 11 from hE]
   (try dsimp only[aj]);conv=>whnf
   refine fM ?_;(conv=>whnf);refine ⟨?_,rfl⟩;conv=>whnf
   all_goals exact wk
  (try dsimp only[aj]);conv=>whnf
  rw [List.length_map]
  refine And.intro (fun g'=>?_) (fun g'=>?_)
  ·have hE:=hE1.trans (if_pos (hN.2 (.inr g')))
   rw [show aV f.vars i x = 11 from hE]
   (try dsimp only[aj]);conv=>whnf
   refine fM ?_;(conv=>whnf);refine ⟨?_,rfl⟩;conv=>whnf
   all_goals exact wk
  have hE2:=hE1.trans (if_neg (fun h=>(hN.1 h).elim g g'))
  clear hE1
  (try dsimp only[aj]);conv=>whnf
  refine aK.of <| aC.inv (.refl _ _) (fun (j : Nat)=>j <= x.args.length /\ (x.args.take j).any (rP f.vars i) = false) (fun (j : Nat)=>[(41,.int .i64 j)]) (fun _=>_) (fun (j : Nat)=>x.args.length - j) 0 ?_ (fun _=>rfl) ?_ ?_
  ·exact ⟨Nat.zero_le _,rfl⟩
  ·all_goals exact wk
  rintro j ⟨hj,hany⟩ _
  (try dsimp only[aj]);conv=>whnf
  refine And.intro (fun g1=>?_) (fun g1=>?_)
  ·have hjl : j < x.args.length:=by simpa using g1
   have hat:=lZ hjl hany
   have hin:=List.getElem_mem hjl
   (try dsimp only[aj]);conv=>whnf
   refine jq hjl ?_
   generalize x.args[j] = a at *
   have bad : rP f.vars i a = true -> aV f.vars i x = 10:=fun hb=>hE2.trans (if_pos (List.any_eq_true.2 ⟨a,hin,hb⟩))
   (try dsimp only[aj]);conv=>whnf
   refine And.intro (fun g=>?_) (fun g=>?_)
   ·have hE:=bad (decide_eq_true (.inl g))
    rw [show aV f.vars i x = 10 from hE]
    (try dsimp only[aj]);conv=>whnf
    refine fM ?_;(conv=>whnf);refine ⟨?_,rfl⟩;conv=>whnf
    all_goals exact wk
   (try dsimp only[aj]);conv=>whnf
   refine zA ?_;conv=>whnf
   refine And.intro (fun g'=>?_) (fun g'=>?_)
   ·have hE:=bad (decide_eq_true (.inr g'))
    rw [show aV f.vars i x = 10 from hE]
    (try dsimp only[aj]);conv=>whnf
    refine fM ?_;(conv=>whnf);refine ⟨?_,rfl⟩;conv=>whnf
    all_goals exact wk
   (try dsimp only[aj]);conv=>whnf
   refine zA ?_;conv=>whnf
   refine ⟨j + 1,?_,?_,?_⟩
   ·exact ⟨hjl,hat (decide_eq_false (by omega))⟩
   ·all_goals exact wk
   ·omega
  have hjl : j = x.args.length:=by (have : ¬ j < x.args.length:=by simpa using g1); omega
  subst hjl
  rw [List.take_length] at hany
  have hK:=hE2.trans (if_neg (by rw [hany]; simp))
  clear hE2 g g' hN
  (try dsimp only[aj]);conv=>whnf
  refine And.intro (fun g=>?_) (fun g=>?_)
  ·rw [show nI x = if x.k ≠ 0 /\ x.k ≠ 1 then 3 else 0 from if_pos g] at hK
   (try dsimp only[aj]);conv=>whnf
   refine And.intro (fun g=>?_) (fun g=>?_)
   ·(try dsimp only[aj]);conv=>whnf
    refine And.intro (fun g'=>?_) (fun g'=>?_)
    ·have hE:=hK.trans (if_pos ⟨g,g'⟩)
     rw [show aV f.vars i x = 3 from hE]
     (try dsimp only[aj]);conv=>whnf
     refine fM ?_;(conv=>whnf);refine ⟨?_,rfl⟩;conv=>whnf
     all_goals exact wk
    ·have hE:=hK.trans (if_neg (fun h=>g' h.2))
     rw [show aV f.vars i x = 0 from hE]
     (try dsimp only[aj]);conv=>whnf
     refine fM ?_;(conv=>whnf);refine ⟨?_,rfl⟩;conv=>whnf
     all_goals exact wk
   ·have hE:=hK.trans (if_neg (fun h=>g h.1))
    rw [show aV f.vars i x = 0 from hE]
    (try dsimp only[aj]);conv=>whnf
    refine fM ?_;(conv=>whnf);refine ⟨?_,rfl⟩;conv=>whnf
    all_goals exact wk
  have gk:=g
  (try dsimp only[aj]);conv=>whnf
  refine And.intro (fun g=>?_) (fun g=>?_)
  ·rw [show nI x = if x.k < 1 \/ (x.args.length : Int) < x.k then 3 else 0 from (if_neg gk).trans (if_pos g)] at hK
   (try dsimp only[aj]);conv=>whnf
   refine And.intro (fun g=>?_) (fun g=>?_)
   ·have hE:=hK.trans (if_pos (.inl g))
    rw [show aV f.vars i x = 3 from hE]
    (try dsimp only[aj]);conv=>whnf
    refine fM ?_;(conv=>whnf);refine ⟨?_,rfl⟩;conv=>whnf
    all_goals exact wk
   ·(try dsimp only[aj]);conv=>whnf
    refine And.intro (fun g'=>?_) (fun g'=>?_)
    ·have hE:=hK.trans (if_pos (.inr (by simpa using g')))
     rw [show aV f.vars i x = 3 from hE]
     (try dsimp only[aj]);conv=>whnf
     refine fM ?_;(conv=>whnf);refine ⟨?_,rfl⟩;conv=>whnf
     all_goals exact wk
    ·have hE:=hK.trans (if_neg (fun h=>h.elim g (fun h=>g' (by simpa using h))))
     rw [show aV f.vars i x = 0 from hE]
     (try dsimp only[aj]);conv=>whnf
     refine fM ?_;(conv=>whnf);refine ⟨?_,rfl⟩;conv=>whnf
     all_goals exact wk
  rw [show nI x = if x.k ≠ 0 then 2 else 0 from (if_neg gk).trans (if_neg g)] at hK
  (try dsimp only[aj]);conv=>whnf
  refine And.intro (fun g=>?_) (fun g=>?_)
  ·have hE:=hK.trans (if_pos g)
   rw [show aV f.vars i x = 2 from hE]
   (try dsimp only[aj]);conv=>whnf
   refine fM ?_;(conv=>whnf);refine ⟨?_,rfl⟩;conv=>whnf
   all_goals exact wk
  ·have hE:=hK.trans (if_neg g)
   rw [show aV f.vars i x = 0 from hE]
   (try dsimp only[aj]);conv=>whnf
   refine fM ?_;(conv=>whnf);refine ⟨?_,rfl⟩;conv=>whnf
   all_goals exact wk
 (try dsimp only[aj]);conv=>whnf
 refine And.intro (fun g3=>?_) (fun g3=>?_)
 ·replace hE1:=hE1 (by omega)
  (try dsimp only[aj]);conv=>whnf
  refine And.intro (fun _=>?_) (fun h=>absurd g3 h)
  (try dsimp only[aj]);conv=>whnf
  rw [List.length_map]
  refine And.intro (fun g=>?_) (fun g=>?_)
  ·have hE:=hE1.trans (if_pos (hN.2 (.inl g)))
   rw [show aV f.vars i x = 11 from hE]
   (try dsimp only[aj]);conv=>whnf
   refine fM ?_;(conv=>whnf);refine ⟨?_,rfl⟩;conv=>whnf
   all_goals exact wk
  (try dsimp only[aj]);conv=>whnf
  rw [List.length_map]
  refine And.intro (fun g'=>?_) (fun g'=>?_)
  ·have hE:=hE1.trans (if_pos (hN.2 (.inr g')))
   rw [show aV f.vars i x = 11 from hE]
   (try dsimp only[aj]);conv=>whnf
   refine fM ?_;(conv=>whnf);refine ⟨?_,rfl⟩;conv=>whnf
   all_goals exact wk
  have hE2:=hE1.trans (if_neg (fun h=>(hN.1 h).elim g g'))
  clear hE1
  (try dsimp only[aj]);conv=>whnf
  refine aK.of <| aC.inv (.refl _ _) (fun (j : Nat)=>j <= x.args.length /\ (x.args.take j).any (rP f.vars i) = false) (fun (j : Nat)=>[(41,.int .i64 j)]) (fun _=>_) (fun (j : Nat)=>x.args.length - j) 0 ?_ (fun _=>rfl) ?_ ?_
  ·exact ⟨Nat.zero_le _,rfl⟩
  ·all_goals exact wk
  rintro j ⟨hj,hany⟩ _
  (try dsimp only[aj]);conv=>whnf
  refine And.intro (fun g1=>?_) (fun g1=>?_)
  ·have hjl : j < x.args.length:=by simpa using g1
   have hat:=lZ hjl hany
   have hin:=List.getElem_mem hjl
   (try dsimp only[aj]);conv=>whnf
   refine jq hjl ?_
   generalize x.args[j] = a at *
   have bad : rP f.vars i a = true -> aV f.vars i x = 10:=fun hb=>hE2.trans (if_pos (List.any_eq_true.2 ⟨a,hin,hb⟩))
   (try dsimp only[aj]);conv=>whnf
   refine And.intro (fun g=>?_) (fun g=>?_)
   ·have hE:=bad (decide_eq_true (.inl g))
    rw [show aV f.vars i x = 10 from hE]
    (try dsimp only[aj]);conv=>whnf
    refine fM ?_;(conv=>whnf);refine ⟨?_,rfl⟩;conv=>whnf
    all_goals exact wk
   (try dsimp only[aj]);conv=>whnf
   refine zA ?_;conv=>whnf
   refine And.intro (fun g'=>?_) (fun g'=>?_)
   ·have hE:=bad (decide_eq_true (.inr g'))
    rw [show aV f.vars i x = 10 from hE]
    (try dsimp only[aj]);conv=>whnf
    refine fM ?_;(conv=>whnf);refine ⟨?_,rfl⟩;conv=>whnf
    all_goals exact wk
   (try dsimp only[aj]);conv=>whnf
   refine zA ?_;conv=>whnf
   refine ⟨j + 1,?_,?_,?_⟩
   ·exact ⟨hjl,hat (decide_eq_false (by omega))⟩
   ·all_goals exact wk
   ·omega
  have hjl : j = x.args.length:=by (have : ¬ j < x.args.length:=by simpa using g1); omega
  subst hjl
  rw [List.take_length] at hany
  have hK:=hE2.trans (if_neg (by rw [hany]; simp))
  clear hE2 g g' hN
  (try dsimp only[aj]);conv=>whnf
  refine And.intro (fun g=>?_) (fun g=>?_)
  ·rw [show nI x = if x.k ≠ 0 /\ x.k ≠ 1 then 3 else 0 from if_pos g] at hK
   (try dsimp only[aj]);conv=>whnf
   refine And.intro (fun g=>?_) (fun g=>?_)
   ·(try dsimp only[aj]);conv=>whnf
    refine And.intro (fun g'=>?_) (fun g'=>?_)
    ·have hE:=hK.trans (if_pos ⟨g,g'⟩)
     rw [show aV f.vars i x = 3 from hE]
     (try dsimp only[aj]);conv=>whnf
     refine fM ?_;(conv=>whnf);refine ⟨?_,rfl⟩;conv=>whnf
     all_goals exact wk
    ·have hE:=hK.trans (if_neg (fun h=>g' h.2))
     rw [show aV f.vars i x = 0 from hE]
     (try dsimp only[aj]);conv=>whnf
     refine fM ?_;(conv=>whnf);refine ⟨?_,rfl⟩;conv=>whnf
     all_goals exact wk
   ·have hE:=hK.trans (if_neg (fun h=>g h.1))
    rw [show aV f.vars i x = 0 from hE]
    (try dsimp only[aj]);conv=>whnf
    refine fM ?_;(conv=>whnf);refine ⟨?_,rfl⟩;conv=>whnf
    all_goals exact wk
  have gk:=g
  (try dsimp only[aj]);conv=>whnf
  refine And.intro (fun g=>?_) (fun g=>?_)
  ·rw [show nI x = if x.k < 1 \/ (x.args.length : Int) < x.k then 3 else 0 from (if_neg gk).trans (if_pos g)] at hK
   (try dsimp only[aj]);conv=>whnf
   refine And.intro (fun g=>?_) (fun g=>?_)
   ·have hE:=hK.trans (if_pos (.inl g))
    rw [show aV f.vars i x = 3 from hE]
    (try dsimp only[aj]);conv=>whnf
    refine fM ?_;(conv=>whnf);refine ⟨?_,rfl⟩;conv=>whnf
    all_goals exact wk
   ·(try dsimp only[aj]);conv=>whnf
    refine And.intro (fun g'=>?_) (fun g'=>?_)
    ·have hE:=hK.trans (if_pos (.inr (by simpa using g')))
     rw [show aV f.vars i x = 3 from hE]
     (try dsimp only[aj]);conv=>whnf
     refine fM ?_;(conv=>whnf);refine ⟨?_,rfl⟩;conv=>whnf
     all_goals exact wk
    ·have hE:=hK.trans (if_neg (fun h=>h.elim g (fun h=>g' (by simpa using h))))
     rw [show aV f.vars i x = 0 from hE]
     (try dsimp only[aj]);conv=>whnf
     refine fM ?_;(conv=>whnf);refine ⟨?_,rfl⟩;conv=>whnf
     all_goals exact wk
  rw [show nI x = if x.k ≠ 0 then 2 else 0 from (if_neg gk).trans (if_neg g)] at hK
  (try dsimp only[aj]);conv=>whnf
  refine And.intro (fun g=>?_) (fun g=>?_)
  ·have hE:=hK.trans (if_pos g)
   rw [show aV f.vars i x = 2 from hE]
   (try dsimp only[aj]);conv=>whnf
   refine fM ?_;(conv=>whnf);refine ⟨?_,rfl⟩;conv=>whnf
   all_goals exact wk
  ·have hE:=hK.trans (if_neg g)
   rw [show aV f.vars i x = 0 from hE]
   (try dsimp only[aj]);conv=>whnf
   refine fM ?_;(conv=>whnf);refine ⟨?_,rfl⟩;conv=>whnf
   all_goals exact wk
 (try dsimp only[aj]);conv=>whnf
 refine And.intro (fun g4=>?_) (fun g4=>?_)
 ·replace hE1:=hE1 (by omega)
  (try dsimp only[aj]);conv=>whnf
  refine And.intro (fun _=>?_) (fun h=>absurd g4 h)
  (try dsimp only[aj]);conv=>whnf
  rw [List.length_map]
  refine And.intro (fun g=>?_) (fun g=>?_)
  ·have hE:=hE1.trans (if_pos (hN.2 (.inl g)))
   rw [show aV f.vars i x = 11 from hE]
   (try dsimp only[aj]);conv=>whnf
   refine fM ?_;(conv=>whnf);refine ⟨?_,rfl⟩;conv=>whnf
   all_goals exact wk
  (try dsimp only[aj]);conv=>whnf
  rw [List.length_map]
  refine And.intro (fun g'=>?_) (fun g'=>?_)
  ·have hE:=hE1.trans (if_pos (hN.2 (.inr g')))
   rw [show aV f.vars i x = 11 from hE]
   (try dsimp only[aj]);conv=>whnf
   refine fM ?_;(conv=>whnf);refine ⟨?_,rfl⟩;conv=>whnf
   all_goals exact wk
  have hE2:=hE1.trans (if_neg (fun h=>(hN.1 h).elim g g'))
  clear hE1
  (try dsimp only[aj]);conv=>whnf
  refine aK.of <| aC.inv (.refl _ _) (fun (j : Nat)=>j <= x.args.length /\ (x.args.take j).any (rP f.vars i) = false) (fun (j : Nat)=>[(41,.int .i64 j)]) (fun _=>_) (fun (j : Nat)=>x.args.length - j) 0 ?_ (fun _=>rfl) ?_ ?_
  ·exact ⟨Nat.zero_le _,rfl⟩
  ·all_goals exact wk
  rintro j ⟨hj,hany⟩ _
  (try dsimp only[aj]);conv=>whnf
  refine And.intro (fun g1=>?_) (fun g1=>?_)
  ·have hjl : j < x.args.length:=by simpa using g1
   have hat:=lZ hjl hany
   have hin:=List.getElem_mem hjl
   (try dsimp only[aj]);conv=>whnf
   refine jq hjl ?_
   generalize x.args[j] = a at *
   have bad : rP f.vars i a = true -> aV f.vars i x = 10:=fun hb=>hE2.trans (if_pos (List.any_eq_true.2 ⟨a,hin,hb⟩))
   (try dsimp only[aj]);conv=>whnf
   refine And.intro (fun g=>?_) (fun g=>?_)
   ·have hE:=bad (decide_eq_true (.inl g))
    rw [show aV f.vars i x = 10 from hE]
    (try dsimp only[aj]);conv=>whnf
    refine fM ?_;(conv=>whnf);refine ⟨?_,rfl⟩;conv=>whnf
    all_goals exact wk
   (try dsimp only[aj]);conv=>whnf
   refine zA ?_;conv=>whnf
   refine And.intro (fun g'=>?_) (fun g'=>?_)
   ·have hE:=bad (decide_eq_true (.inr g'))
    rw [show aV f.vars i x = 10 from hE]
    (try dsimp only[aj]);conv=>whnf
    refine fM ?_;(conv=>whnf);refine ⟨?_,rfl⟩;conv=>whnf
    all_goals exact wk
   (try dsimp only[aj]);conv=>whnf
   refine zA ?_;conv=>whnf
   refine ⟨j + 1,?_,?_,?_⟩
   ·exact ⟨hjl,hat (decide_eq_false (by omega))⟩
   ·all_goals exact wk
   ·omega
  have hjl : j = x.args.length:=by (have : ¬ j < x.args.length:=by simpa using g1); omega
  subst hjl
  rw [List.take_length] at hany
  have hK:=hE2.trans (if_neg (by rw [hany]; simp))
  clear hE2 g g' hN
  (try dsimp only[aj]);conv=>whnf
  refine And.intro (fun g=>?_) (fun g=>?_)
  ·rw [show nI x = if x.k ≠ 0 /\ x.k ≠ 1 then 3 else 0 from if_pos g] at hK
   (try dsimp only[aj]);conv=>whnf
   refine And.intro (fun g=>?_) (fun g=>?_)
   ·(try dsimp only[aj]);conv=>whnf
    refine And.intro (fun g'=>?_) (fun g'=>?_)
    ·have hE:=hK.trans (if_pos ⟨g,g'⟩)
     rw [show aV f.vars i x = 3 from hE]
     (try dsimp only[aj]);conv=>whnf
     refine fM ?_;(conv=>whnf);refine ⟨?_,rfl⟩;conv=>whnf
     all_goals exact wk
    ·have hE:=hK.trans (if_neg (fun h=>g' h.2))
     rw [show aV f.vars i x = 0 from hE]
     (try dsimp only[aj]);conv=>whnf
     refine fM ?_;(conv=>whnf);refine ⟨?_,rfl⟩;conv=>whnf
     all_goals exact wk
   ·have hE:=hK.trans (if_neg (fun h=>g h.1))
    rw [show aV f.vars i x = 0 from hE]
    (try dsimp only[aj]);conv=>whnf
    refine fM ?_;(conv=>whnf);refine ⟨?_,rfl⟩;conv=>whnf
    all_goals exact wk
  have gk:=g
  (try dsimp only[aj]);conv=>whnf
  refine And.intro (fun g=>?_) (fun g=>?_)
  ·rw [show nI x = if x.k < 1 \/ (x.args.length : Int) < x.k then 3 else 0 from (if_neg gk).trans (if_pos g)] at hK
   (try dsimp only[aj]);conv=>whnf
   refine And.intro (fun g=>?_) (fun g=>?_)
   ·have hE:=hK.trans (if_pos (.inl g))
    rw [show aV f.vars i x = 3 from hE]
    (try dsimp only[aj]);conv=>whnf
    refine fM ?_;(conv=>whnf);refine ⟨?_,rfl⟩;conv=>whnf
    all_goals exact wk
   ·(try dsimp only[aj]);conv=>whnf
    refine And.intro (fun g'=>?_) (fun g'=>?_)
    ·have hE:=hK.trans (if_pos (.inr (by simpa using g')))
     rw [show aV f.vars i x = 3 from hE]
     (try dsimp only[aj]);conv=>whnf
     refine fM ?_;(conv=>whnf);refine ⟨?_,rfl⟩;conv=>whnf
     all_goals exact wk
    ·have hE:=hK.trans (if_neg (fun h=>h.elim g (fun h=>g' (by simpa using h))))
     rw [show aV f.vars i x = 0 from hE]
     (try dsimp only[aj]);conv=>whnf
     refine fM ?_;(conv=>whnf);refine ⟨?_,rfl⟩;conv=>whnf
     all_goals exact wk
  rw [show nI x = if x.k ≠ 0 then 2 else 0 from (if_neg gk).trans (if_neg g)] at hK
  (try dsimp only[aj]);conv=>whnf
  refine And.intro (fun g=>?_) (fun g=>?_)
  ·have hE:=hK.trans (if_pos g)
   rw [show aV f.vars i x = 2 from hE]
   (try dsimp only[aj]);conv=>whnf
   refine fM ?_;(conv=>whnf);refine ⟨?_,rfl⟩;conv=>whnf
   all_goals exact wk
  ·have hE:=hK.trans (if_neg g)
   rw [show aV f.vars i x = 0 from hE]
   (try dsimp only[aj]);conv=>whnf
   refine fM ?_;(conv=>whnf);refine ⟨?_,rfl⟩;conv=>whnf
   all_goals exact wk
 (try dsimp only[aj]);conv=>whnf
 refine And.intro (fun g5=>?_) (fun g5=>?_)
 ·replace hE1:=hE1 (by omega)
  (try dsimp only[aj]);conv=>whnf
  rw [List.length_map]
  refine And.intro (fun g=>?_) (fun g=>?_)
  ·have hE:=hE1.trans (if_pos (hN.2 (.inl g)))
   rw [show aV f.vars i x = 11 from hE]
   (try dsimp only[aj]);conv=>whnf
   refine fM ?_;(conv=>whnf);refine ⟨?_,rfl⟩;conv=>whnf
   all_goals exact wk
  (try dsimp only[aj]);conv=>whnf
  rw [List.length_map]
  refine And.intro (fun g'=>?_) (fun g'=>?_)
  ·have hE:=hE1.trans (if_pos (hN.2 (.inr g')))
   rw [show aV f.vars i x = 11 from hE]
   (try dsimp only[aj]);conv=>whnf
   refine fM ?_;(conv=>whnf);refine ⟨?_,rfl⟩;conv=>whnf
   all_goals exact wk
  have hE2:=hE1.trans (if_neg (fun h=>(hN.1 h).elim g g'))
  clear hE1
  (try dsimp only[aj]);conv=>whnf
  refine aK.of <| aC.inv (.refl _ _) (fun (j : Nat)=>j <= x.args.length /\ (x.args.take j).any (rP f.vars i) = false) (fun (j : Nat)=>[(41,.int .i64 j)]) (fun _=>_) (fun (j : Nat)=>x.args.length - j) 0 ?_ (fun _=>rfl) ?_ ?_
  ·exact ⟨Nat.zero_le _,rfl⟩
  ·all_goals exact wk
  rintro j ⟨hj,hany⟩ _
  (try dsimp only[aj]);conv=>whnf
  refine And.intro (fun g1=>?_) (fun g1=>?_)
  ·have hjl : j < x.args.length:=by simpa using g1
   have hat:=lZ hjl hany
   have hin:=List.getElem_mem hjl
   (try dsimp only[aj]);conv=>whnf
   refine jq hjl ?_
   generalize x.args[j] = a at *
   have bad : rP f.vars i a = true -> aV f.vars i x = 10:=fun hb=>hE2.trans (if_pos (List.any_eq_true.2 ⟨a,hin,hb⟩))
   (try dsimp only[aj]);conv=>whnf
   refine And.intro (fun g=>?_) (fun g=>?_)
   ·have hE:=bad (decide_eq_true (.inl g))
    rw [show aV f.vars i x = 10 from hE]
    (try dsimp only[aj]);conv=>whnf
    refine fM ?_;(conv=>whnf);refine ⟨?_,rfl⟩;conv=>whnf
    all_goals exact wk
   (try dsimp only[aj]);conv=>whnf
   refine zA ?_;conv=>whnf
   refine And.intro (fun g'=>?_) (fun g'=>?_)
   ·have hE:=bad (decide_eq_true (.inr g'))
    rw [show aV f.vars i x = 10 from hE]
    (try dsimp only[aj]);conv=>whnf
    refine fM ?_;(conv=>whnf);refine ⟨?_,rfl⟩;conv=>whnf
    all_goals exact wk
   (try dsimp only[aj]);conv=>whnf
   refine zA ?_;conv=>whnf
   refine ⟨j + 1,?_,?_,?_⟩
   ·exact ⟨hjl,hat (decide_eq_false (by omega))⟩
   ·all_goals exact wk
   ·omega
  have hjl : j = x.args.length:=by (have : ¬ j < x.args.length:=by simpa using g1); omega
  subst hjl
  rw [List.take_length] at hany
  have hK:=hE2.trans (if_neg (by rw [hany]; simp))
  clear hE2 g g' hN
  (try dsimp only[aj]);conv=>whnf
  refine And.intro (fun g=>?_) (fun g=>?_)
  ·rw [show nI x = if x.k ≠ 0 /\ x.k ≠ 1 then 3 else 0 from if_pos g] at hK
   (try dsimp only[aj]);conv=>whnf
   refine And.intro (fun g=>?_) (fun g=>?_)
   ·(try dsimp only[aj]);conv=>whnf
    refine And.intro (fun g'=>?_) (fun g'=>?_)
    ·have hE:=hK.trans (if_pos ⟨g,g'⟩)
     rw [show aV f.vars i x = 3 from hE]
     (try dsimp only[aj]);conv=>whnf
     refine fM ?_;(conv=>whnf);refine ⟨?_,rfl⟩;conv=>whnf
     all_goals exact wk
    ·have hE:=hK.trans (if_neg (fun h=>g' h.2))
     rw [show aV f.vars i x = 0 from hE]
     (try dsimp only[aj]);conv=>whnf
     refine fM ?_;(conv=>whnf);refine ⟨?_,rfl⟩;conv=>whnf
     all_goals exact wk
   ·have hE:=hK.trans (if_neg (fun h=>g h.1))
    rw [show aV f.vars i x = 0 from hE]
    (try dsimp only[aj]);conv=>whnf
    refine fM ?_;(conv=>whnf);refine ⟨?_,rfl⟩;conv=>whnf
    all_goals exact wk
  have gk:=g
  (try dsimp only[aj]);conv=>whnf
  refine And.intro (fun g=>?_) (fun g=>?_)
  ·rw [show nI x = if x.k < 1 \/ (x.args.length : Int) < x.k then 3 else 0 from (if_neg gk).trans (if_pos g)] at hK
   (try dsimp only[aj]);conv=>whnf
   refine And.intro (fun g=>?_) (fun g=>?_)
   ·have hE:=hK.trans (if_pos (.inl g))
    rw [show aV f.vars i x = 3 from hE]
    (try dsimp only[aj]);conv=>whnf
    refine fM ?_;(conv=>whnf);refine ⟨?_,rfl⟩;conv=>whnf
    all_goals exact wk
   ·(try dsimp only[aj]);conv=>whnf
    refine And.intro (fun g'=>?_) (fun g'=>?_)
    ·have hE:=hK.trans (if_pos (.inr (by simpa using g')))
     rw [show aV f.vars i x = 3 from hE]
     (try dsimp only[aj]);conv=>whnf
     refine fM ?_;(conv=>whnf);refine ⟨?_,rfl⟩;conv=>whnf
     all_goals exact wk
    ·have hE:=hK.trans (if_neg (fun h=>h.elim g (fun h=>g' (by simpa using h))))
     rw [show aV f.vars i x = 0 from hE]
     (try dsimp only[aj]);conv=>whnf
     refine fM ?_;(conv=>whnf);refine ⟨?_,rfl⟩;conv=>whnf
     all_goals exact wk
  rw [show nI x = if x.k ≠ 0 then 2 else 0 from (if_neg gk).trans (if_neg g)] at hK
  (try dsimp only[aj]);conv=>whnf
  refine And.intro (fun g=>?_) (fun g=>?_)
  ·have hE:=hK.trans (if_pos g)
   rw [show aV f.vars i x = 2 from hE]
   (try dsimp only[aj]);conv=>whnf
   refine fM ?_;(conv=>whnf);refine ⟨?_,rfl⟩;conv=>whnf
   all_goals exact wk
  ·have hE:=hK.trans (if_neg g)
   rw [show aV f.vars i x = 0 from hE]
   (try dsimp only[aj]);conv=>whnf
   refine fM ?_;(conv=>whnf);refine ⟨?_,rfl⟩;conv=>whnf
   all_goals exact wk
 ·have hE : aV f.vars i x = 7:=if_pos (by omega)
  rw [show aV f.vars i x = 7 from hE]
  (try dsimp only[aj]);conv=>whnf
  refine fM ?_;(conv=>whnf);refine ⟨?_,rfl⟩;conv=>whnf
  all_goals exact wk

theorem Qi (f : Fo) (hv : 0 <= f.vars /\ f.vars <= 24) : aA Tryz.prog 139 [f.av,.int .i64 f.top] [] (.bool (decide (0 <= f.top /\ f.top < f.vars + f.nodes.length))) []:=by
 refine aA.intro lay mixed Tryz.func139 (by kernel_rfl) rfl (by kernel_rfl) rfl fun hok=>?_
 have hi1 : -9223372036854775808 <= f.top /\ f.top <= 9223372036854775807:=hok.1.2.2.1
 (try dsimp only[aZ,aN]);(try dsimp only[aj]);conv=>whnf
 refine And.intro (fun _=>?_) (fun g=>by exfalso; omega)
 (try dsimp only[aj]);conv=>whnf
 refine And.intro (fun g0=>?_) (fun g0=>?_)
 ·(try dsimp only[aj]);conv=>whnf
  refine And.intro (fun g=>?_) (fun g=>?_)
  ·(try dsimp only[aj]);conv=>whnf
   refine fM ?_;(conv=>whnf);refine ⟨?_,rfl⟩;conv=>whnf
   exact decide_eq_true (by omega)
  ·(try dsimp only[aj]);conv=>whnf
   refine zA ?_;conv=>whnf
   refine fM ?_;(conv=>whnf);refine ⟨?_,rfl⟩;conv=>whnf
   show (f.top - f.vars < (((f.nodes.map Nd.av).length : Nat) : Int)) ↔ _
   rw [decide_eq_true_iff,List.length_map]
   omega
 ·(try dsimp only[aj]);conv=>whnf
  refine fM ?_;(conv=>whnf);refine ⟨?_,rfl⟩;conv=>whnf
  exact decide_eq_false (by omega)

theorem Gg (f : Fo) : aA Tryz.prog 58 [f.av] [] (.int .i64 (iq f)) []:=by
 refine aA.intro lay mixed Tryz.func58 (by kernel_rfl) rfl (by kernel_rfl) rfl fun hok=>?_
 (try dsimp only[aZ,aN]);(try dsimp only[aj]);conv=>whnf
 refine And.intro (fun g=>?_) (fun g=>?_)
 ·have hE : iq f = 3:=if_pos (.inl g)
  rw [show iq f = 3 from hE]
  (try dsimp only[aj]);conv=>whnf
  refine fM ?_;(conv=>whnf);refine ⟨?_,rfl⟩;conv=>whnf
  all_goals exact wk
 (try dsimp only[aj]);conv=>whnf
 refine And.intro (fun g'=>?_) (fun g'=>?_)
 ·have hE : iq f = 3:=if_pos (.inr g')
  rw [show iq f = 3 from hE]
  (try dsimp only[aj]);conv=>whnf
  refine fM ?_;(conv=>whnf);refine ⟨?_,rfl⟩;conv=>whnf
  all_goals exact wk
 have hE1 : iq f = if 128 < f.nodes.length then 4 else if jL f.vars 0 f.nodes ≠ 0 then jL f.vars 0 f.nodes else if ¬ (0 <= f.top /\ f.top < f.vars + f.nodes.length) then 10 else 0:=if_neg (by omega)
 (try dsimp only[aj]);conv=>whnf
 rw [List.length_map]
 refine And.intro (fun g2=>?_) (fun g2=>?_)
 ·have hE:=hE1.trans (if_pos (by omega))
  rw [show iq f = 4 from hE]
  (try dsimp only[aj]);conv=>whnf
  refine fM ?_;(conv=>whnf);refine ⟨?_,rfl⟩;conv=>whnf
  all_goals exact wk
 have hE2:=hE1.trans (if_neg (by omega))
 clear hE1
 have cv:=Qi f (by omega)
 have cn:=fun i hi=>UJ f (by omega) i hi (by omega)
 (try dsimp only[aj]);conv=>whnf
 refine aK.of <| aC.inv (.refl _ _) (fun (i : Nat)=>i <= f.nodes.length /\ jL f.vars 0 f.nodes = jL f.vars i (f.nodes.drop i)) (fun (i : Nat)=>[(20,.int .i64 i)]) (fun _=>_) (fun (i : Nat)=>f.nodes.length - i) 0 ?_ (fun _=>rfl) ?_ ?_
 ·exact ⟨Nat.zero_le _,rfl⟩
 ·all_goals exact wk
 rintro i ⟨hi,hnd⟩ _
 (try dsimp only[aj]);conv=>whnf
 refine And.intro (fun g1=>?_) (fun g1=>?_)
 ·have hil : i < f.nodes.length:=by simpa using g1
  have cni:=cn i hil
  rw [Ci hil] at hnd
  by_cases he : aV f.vars i f.nodes[i] ≠ 0
  ·rw [if_pos he] at hnd
   have hE:=hE2.trans (if_pos (by rw [hnd]; exact he))
   rw [hnd] at hE
   rw [hE]
   generalize aV f.vars i f.nodes[i] = ee at *
   (try dsimp only[aj]);conv=>whnf
   refine .pure _ _ ?_ ⟨rfl,rfl⟩ cni fun _=>?_
   ·exact ak _
   (try dsimp only[aj]);conv=>whnf
   refine And.intro (fun _=>?_) (fun h=>absurd he h)
   (try dsimp only[aj]);conv=>whnf
   refine fM ?_;(conv=>whnf);refine ⟨?_,rfl⟩;conv=>whnf
   all_goals exact wk
  ·rw [if_neg he] at hnd
   have he0 : aV f.vars i f.nodes[i] = 0:=by simpa using he
   rw [he0] at cni
   (try dsimp only[aj]);conv=>whnf
   refine .pure _ _ ?_ ⟨rfl,rfl⟩ cni fun _=>?_
   ·exact ak _
   (try dsimp only[aj]);conv=>whnf
   refine And.intro (fun h=>absurd rfl h) (fun _=>?_)
   (try dsimp only[aj]);conv=>whnf
   refine zA ?_;conv=>whnf
   refine ⟨i + 1,?_,?_,?_⟩
   ·exact ⟨hil,hnd⟩
   ·all_goals exact wk
   ·omega
 have hil : i = f.nodes.length:=by (have : ¬ i < f.nodes.length:=by simpa using g1); omega
 subst hil
 rw [List.drop_length] at hnd
 have hE3:=hE2.trans (if_neg (by rw [hnd]; simp [jL]))
 (try dsimp only[aj]);conv=>whnf
 refine .pure _ _ ?_ ⟨rfl,rfl⟩ cv fun _=>?_
 ·exact ak _
 (try dsimp only[aj]);conv=>whnf
 refine And.intro (fun g4=>?_) (fun g4=>?_)
 ·have hE:=hE3.trans (if_pos (fun h=>by rw [decide_eq_true h] at g4; cases g4))
  rw [show iq f = 10 from hE]
  (try dsimp only[aj]);conv=>whnf
  refine fM ?_;(conv=>whnf);refine ⟨?_,rfl⟩;conv=>whnf
  all_goals exact wk
 ·have hE:=hE3.trans (if_neg (fun h=>by rw [decide_eq_false h] at g4; cases g4))
  rw [show iq f = 0 from hE]
  (try dsimp only[aj]);conv=>whnf
  refine fM ?_;(conv=>whnf);refine ⟨?_,rfl⟩;conv=>whnf
  all_goals exact wk

def dF (a b : Fo) : Int:=if iq a ≠ 0 then iq a else if iq b ≠ 0 then iq b else if a.vars ≠ b.vars then 11 else 0

theorem wY {a b : Fo} (h : dF a b = 0) : xY a /\ xY b /\ a.vars = b.vars:=by
 unfold dF at h
 split at h
 ·contradiction
 split at h
 ·contradiction
 split at h
 ·cases h
 rename_i h1 h2 h3
 exact ⟨Nu (by simpa using h1),Nu (by simpa using h2),by simpa using h3⟩

theorem pq (a b : Fo) (R : AV) (hR : R = rF (dF a b)) : aA Tryz.prog 48 [a.av,b.av] [] R []:=by
 have ca:=Jm a _ rfl
 have cb:=Jm b _ rfl
 refine aA.intro lay mixed Tryz.func48 (by kernel_rfl) rfl (by kernel_rfl) rfl fun hok=>?_
 (try dsimp only[aZ,aN]);(try dsimp only[aj]);conv=>whnf
 refine aK.step 2 ?_
 (try dsimp only[aj]);conv=>whnf
 refine And.intro (fun _=>?_) (fun h=>absurd (by simp) h)
 (try dsimp only[aj]);conv=>whnf
 refine bZ.mk ⟨_,⟨by decide,rfl⟩,?_⟩
 (try dsimp only[aj]);conv=>whnf
 by_cases ha : iq a ≠ 0
 ·rw [gq ha] at ca
  rw [show dF a b = iq a from if_pos ha,gq ha] at hR
  subst hR
  refine .pure _ _ ?_ ⟨rfl,rfl⟩ ca fun _=>?_
  ·exact ak _
  (try dsimp only[aj]);conv=>whnf
  refine fM ?_;(conv=>whnf);refine ⟨?_,rfl⟩;conv=>whnf
  all_goals exact wk
 rw [show iq a = 0 by simpa using ha,eU] at ca
 rw [show dF a b = if iq b ≠ 0 then iq b else if a.vars ≠ b.vars then 11 else 0 from if_neg ha] at hR
 refine .pure _ _ ?_ ⟨rfl,rfl⟩ ca fun _=>?_
 ·exact ak _
 (try dsimp only[aj]);conv=>whnf
 refine zA ?_;conv=>whnf
 refine And.intro (fun _=>?_) (fun h=>absurd (by simp) h)
 (try dsimp only[aj]);conv=>whnf
 refine bZ.mk ⟨_,⟨by decide,rfl⟩,?_⟩
 (try dsimp only[aj]);conv=>whnf
 by_cases hb : iq b ≠ 0
 ·rw [gq hb] at cb
  rw [if_pos hb,gq hb] at hR
  subst hR
  refine .pure _ _ ?_ ⟨rfl,rfl⟩ cb fun _=>?_
  ·exact ak _
  (try dsimp only[aj]);conv=>whnf
  refine fM ?_;(conv=>whnf);refine ⟨?_,rfl⟩;conv=>whnf
  all_goals exact wk
 rw [show iq b = 0 by simpa using hb,eU] at cb
 rw [if_neg hb] at hR
 refine .pure _ _ ?_ ⟨rfl,rfl⟩ cb fun _=>?_
 ·exact ak _
 (try dsimp only[aj]);conv=>whnf
 refine zA ?_;conv=>whnf
 refine And.intro (fun h=>absurd h (by simp)) (fun _=>?_)
 (try dsimp only[aj]);conv=>whnf
 refine And.intro (fun g=>?_) (fun g=>?_)
 ·rw [if_pos g] at hR
  obtain rfl : R = .jm 111 (.int .i64 11):=by rw [hR]; rfl
  (try dsimp only[aj]);conv=>whnf
  refine fM ?_;(conv=>whnf);refine ⟨?_,rfl⟩;conv=>whnf
  all_goals exact wk
 ·rw [if_neg g] at hR
  obtain rfl : R = .eP:=by rw [hR]; rfl
  (try dsimp only[aj]);conv=>whnf
  refine fM ?_;(conv=>whnf);refine ⟨?_,rfl⟩;conv=>whnf
  all_goals exact wk

theorem F9 (a b : Fo) : aA Tryz.prog 15 [a.av,b.av] [] (.int .i64 (dF a b)) []:=by
 have ca:=Gg a
 have cb:=Gg b
 refine aA.intro lay mixed Tryz.func15 (by kernel_rfl) rfl (by kernel_rfl) rfl fun hok=>?_
 (try dsimp only[aZ,aN]);(try dsimp only[aj]);conv=>whnf
 refine .pure _ _ ?_ ⟨rfl,rfl⟩ ca fun _=>?_
 ·exact ak _
 (try dsimp only[aj]);conv=>whnf
 refine And.intro (fun ha=>?_) (fun ha=>?_)
 ·rw [show dF a b = iq a from if_pos ha]
  (try dsimp only[aj]);conv=>whnf
  refine fM ?_;(conv=>whnf);refine ⟨?_,rfl⟩;conv=>whnf
  all_goals exact wk
 rw [show dF a b = if iq b ≠ 0 then iq b else if a.vars ≠ b.vars then 11 else 0 from if_neg ha]
 (try dsimp only[aj]);conv=>whnf
 refine .pure _ _ ?_ ⟨rfl,rfl⟩ cb fun _=>?_
 ·exact ak _
 (try dsimp only[aj]);conv=>whnf
 refine And.intro (fun hb=>?_) (fun hb=>?_)
 ·rw [if_pos hb]
  (try dsimp only[aj]);conv=>whnf
  refine fM ?_;(conv=>whnf);refine ⟨?_,rfl⟩;conv=>whnf
  all_goals exact wk
 rw [if_neg hb]
 (try dsimp only[aj]);conv=>whnf
 refine And.intro (fun g=>?_) (fun g=>?_)
 ·rw [if_pos g]
  (try dsimp only[aj]);conv=>whnf
  refine fM ?_;(conv=>whnf);refine ⟨?_,rfl⟩;conv=>whnf
  all_goals exact wk
 ·rw [if_neg g]
  (try dsimp only[aj]);conv=>whnf
  refine fM ?_;(conv=>whnf);refine ⟨?_,rfl⟩;conv=>whnf
  all_goals exact wk

structure Df where
 eq : Bool
 st : Nat
 cnt : Nat
 ga : Nat
 lo : Nat
 deriving DecidableEq

def Df.av (d : Df) : AV:=.ag [.bool d.eq,.int .i64 d.st,.int .i64 d.cnt,.int .i64 d.ga,.int .i64 d.lo]

def CO (va vb : Nat -> Bool) : Nat -> Df
 | 0=>⟨true,0,0,0,0⟩
 | s + 1=>if va s = vb s then CO va vb s else ⟨false,if (CO va vb s).eq = true then s else (CO va vb s).st,(CO va vb s).cnt + 1,if vb s = true then (CO va vb s).ga + 1 else (CO va vb s).ga,if vb s = true then (CO va vb s).lo else (CO va vb s).lo + 1⟩

def OO (f : Fo) (m : Nat) : Bool:=(jh (l0 f.vars.toNat (pF m)) f.nodes).getD f.top.toNat false
def vI (a b : Fo) : Df:=CO (OO a) (OO b) (2 ^ a.vars.toNat)

theorem NJ (va vb : Nat -> Bool) : ∀ n,((CO va vb n).eq = true ↔ ∀ m < n,va m = vb m) /\ ((CO va vb n).eq = true -> (CO va vb n).st = 0) /\
  ((CO va vb n).eq = false -> (CO va vb n).st < n /\ va (CO va vb n).st ≠ vb (CO va vb n).st /\ ∀ m < n,va m ≠ vb m -> (CO va vb n).st <= m) /\
  (CO va vb n).cnt = (List.range n).countP (fun m=>va m ^^ vb m) /\ (CO va vb n).ga = (List.range n).countP (fun m=>(va m ^^ vb m) && vb m) /\ (CO va vb n).lo = (List.range n).countP (fun m=>(va m ^^ vb m) && va m)
 | 0=>by simp [CO]
 | n + 1=>by
   obtain ⟨h1,h2,h3,h4,h5,h6⟩:=NJ va vb n
   unfold CO
   generalize CO va vb n = d at *
   rw [List.range_succ,List.countP_append,List.countP_append,List.countP_append]
   split
   ·rename_i e
    refine ⟨h1.trans ⟨fun h m hm=>?_,fun h m hm=>h m (by omega)⟩,h2,fun h=>?_,?_,?_,?_⟩
    ·by_cases hmn : m = n
     ·rw [hmn]; exact e
     ·exact h m (by omega)
    ·obtain ⟨q1,q2,q3⟩:=h3 h
     refine ⟨by omega,q2,fun m hm hne=>?_⟩
     by_cases hmn : m = n
     ·rw [hmn] at hne; exact absurd e hne
     ·exact q3 m (by omega) hne
    ·rw [h4]; simp [e]
    ·rw [h5]; simp [e]
    ·rw [h6]; simp [e]
   ·rename_i e
    have hx : (va n ^^ vb n) = true:=by cases hv : va n <;> cases hw : vb n <;> simp_all
    refine ⟨⟨fun h=>(by cases h),fun h=>absurd (h n (by omega)) e⟩,fun h=>(by cases h),fun _=>?_,?_,?_,?_⟩
    ·dsimp only
     split
     ·rename_i hd
      refine ⟨by omega,e,fun m hm hne=>?_⟩
      by_cases hmn : m = n
      ·omega
      ·exact absurd (h1.1 hd m (by omega)) hne
     ·rename_i hd
      obtain ⟨q1,q2,q3⟩:=h3 (by simpa using hd)
      refine ⟨by omega,q2,fun m hm hne=>?_⟩
      by_cases hmn : m = n
      ·omega
      ·exact q3 m (by omega) hne
    ·dsimp only
     rw [h4]; simp [hx]
    ·dsimp only
     rw [h5]
     cases hv : vb n <;> cases hw : va n <;> simp_all
    ·dsimp only
     rw [h6]
     cases hv : va n <;> cases hw : vb n <;> simp_all

theorem lD.to {T T' : Tb} (h : Xt T T') {ns : List Node} {k : Nat} {x : Node} (g : lD T ns k x) : lD T' ns k x:=by
 have e : ∀ r,lV T' ns r = lV T ns r:=fun r=>by unfold lV; rw [h.n,h.pl]
 obtain ⟨a,b,c,d,f⟩:=g
 rw [<- h.n] at a
 rw [<- h.pl,<- e] at d f
 exact ⟨a,b,c,d,f⟩

theorem mW {α : Type} {p q : α -> Bool} : ∀ {l : List α},(∀ x ∈ l,p x = q x) -> l.countP p = l.countP q
 | [],_=>rfl
 | x :: l,h=>by
   rw [List.countP_cons,List.countP_cons,mW fun y hy=>h y (by simp [hy]),h x (by simp)]

theorem FX {T : Tb} (hT : bJ T) {r : Int} (hr : T.Rf r) : T.cnt r = (List.range (2 ^ T.n.toNat)).countP fun m=>ev T.nodes (pF m) r:=by
 unfold Tb.cnt
 rw [yF]
 refine mW fun m _=>?_
 refine vF hT r.toNat r hr (by have:=hr.1; omega) _ _ fun j h0 h1 _=>?_
 rw [if_pos ⟨h0,by omega⟩]
 rfl

theorem ZP {o : List Int} {n : Nat} (h : uJ o n) (hn : n <= 60) (o2 o1 o0 : HO) : aA Tryz.prog 50 [iL o] [(2,o2),(1,o1),(0,o0)] (.ptr 6 [] 0) (Vy (Tb.new o) [(2,o2),(1,o1),(0,o0)]):=by
 have c:=XI h hn
 have:=aA.frame (H:=[(2,o2),(1,o1),(0,o0)]) (args:=[iL o]) [] c ⟨rfl,rfl,rfl,rfl⟩ trivial (ak _)
 have e : Ic [] (hpN o) [(2,o2),(1,o1),(0,o0)] = Vy (Tb.new o) [(2,o2),(1,o1),(0,o0)]:=by
  show (7,HO.tok 3 0) :: (6,HO.box (.ag [.sl 1 (o.map (.int .i64)) .no,.ms 3 0 o.length o.length 1,.sl 3 [] (.own 7),.mp 4,.mp 5])) :: (5,HO.dU IE []) :: (4,HO.dU IE []) :: (3,.arr 1 o.length ((nV o o.length).map (.int .i64))) :: _ =
   (7,HO.tok 3 0) :: (6,HO.box (.ag [.sl 1 (o.map (.int .i64)) .no,.ms 3 0 (nV o o.length).length (nV o o.length).length 1,.sl 3 [] (.own 7),.mp 4,.mp 5])) :: (5,HO.dU IE []) :: (4,HO.dU IE []) :: (3,.arr 1 (nV o o.length).length ((nV o o.length).map (.int .i64))) :: _
  rw [jK]; rfl
 rw [e] at this
 exact this

theorem NK {va vb : Nat -> Bool} : ∀ {n : Nat},(∀ m < n,va m = vb m) -> CO va vb n = ⟨true,0,0,0,0⟩
 | 0,_=>rfl
 | n + 1,h=>by
   unfold CO
   rw [if_pos (h n (by omega))]
   exact NK fun m hm=>h m (by omega)

theorem df_ext {d : Df} {e : Bool} {s c g l : Nat} (h1 : d.eq = e) (h2 : d.st = s) (h3 : d.cnt = c) (h4 : d.ga = g) (h5 : d.lo = l) : d = ⟨e,s,c,g,l⟩:=by
 obtain ⟨_,_,_,_,_⟩:=d
 dsimp only at *
 subst h1 h2 h3 h4 h5
 rfl

abbrev zDf : AV:=.ag [.ff,.int .i64 0,.int .i64 0,.int .i64 0,.int .i64 0]

theorem UW (a b : Fo) (h0 : dF a b = 0) (h7 : a.vars <= 7) : aA Tryz.prog 14 [a.av,b.av] [] (.eG [(vI a b).av,.eP]) []:=by
 obtain ⟨ha,hb,hab⟩:=wY h0
 have cc:=pq a b _ rfl
 rw [h0,eU] at cc
 have hav:=ha.vars
 have hp:=Ji a ha
 have cd:=Og a ha
 generalize Ux a = o at *
 have hpb : uJ o b.vars.toNat:=by rw [<- hab]; exact hp
 have hT0 : bJ (Tb.new o):=EM hp (by omega)
 have hn0 : (Tb.new o).n = a.vars:=by show (o.length : Int) = _; rw [hp.len]; omega
 obtain ⟨nsa,xa,ba,ga,ra0,ra1,va,la⟩:=Gi (N:=7) (by omega) a ha (by omega) hp
 obtain ⟨nsb,xb,bb,gb,rb0,rb1,vb,lb⟩:=Gi (N:=7) (by omega) b hb (by omega) hpb
 have hz : (Tb.new o).nodes.length = 0:=rfl
 obtain ⟨T1,ya,ia,g1,x1,r1,v1,s1⟩:=Jk (Tb.new o) o nsa xa hT0 ga (by omega) ⟨ra0,ra1⟩
 obtain ⟨T2,yb,ib,g2,x2,r2,v2,s2⟩:=Jk T1 o nsb xb g1 (fun k hk=>(gb k hk).to x1) (by omega) ⟨rb0,rb1⟩
 have hn2 : T2.n = a.vars:=by rw [x2.n,x1.n,hn0]
 have r12:=x2.rf r1
 obtain ⟨T3,d,xo,p3⟩:=XG 7 T2 g2 (by omega) ya yb r12 r2 (by omega)
 have s3:=p3.size
 have hn3 : T3.n = a.vars:=by rw [p3.ext.n,hn2]
 have sm:=NY 7 (by omega) T3 p3.good (by omega) (by omega) d p3.rf
 have cn:=fun o2 o1 o0=>ZP hp (by omega) o2 o1 o0
 have ea : ∀ t,ev T2.nodes t ya = (jh (l0 a.vars.toNat t) a.nodes).getD a.top.toNat false:=fun t=>by rw [x2.ev r1,v1,va]
 have eb : ∀ t,ev T2.nodes t yb = (jh (l0 b.vars.toNat t) b.nodes).getD b.top.toNat false:=fun t=>by rw [v2,vb]
 have ed : ∀ m,ev T3.nodes (pF m) d = (OO a m ^^ OO b m):=fun m=>by rw [p3.val,ea,eb]; rfl
 have spec:=NJ (OO a) (OO b) (2 ^ a.vars.toNat)
 have hcmp : vI a b = CO (OO a) (OO b) (2 ^ a.vars.toNat):=rfl
 rw [<- hcmp] at spec
 have iR : ∀ (m : Nat) (t : Int -> Bool),(∀ j,0 <= j -> j < T3.n -> pF m j = t j) -> ev T3.nodes t d = ev T3.nodes (pF m) d:=fun m t ht =>
  vF p3.good d.toNat d p3.rf (by have:=p3.rf.1; omega) _ _ fun j h0 h1 _=>(ht j h0 h1).symm
 refine aA.intro lay mixed Tryz.func14 (by kernel_rfl) rfl (by kernel_rfl) rfl fun hok=>?_
 (try dsimp only[aZ,aN]);(try dsimp only[aj]);conv=>whnf
 refine .pure _ _ ?_ ⟨rfl,rfl⟩ cc fun _=>?_
 ·exact ak _
 (try dsimp only[aj]);conv=>whnf
 refine .pure _ _ ?_ ⟨rfl,rfl⟩ cd fun _=>?_
 ·exact ak _
 (try dsimp only[aj]);conv=>whnf
 refine .gen _ _ (cn _ _ _) fun _=>?_
 (try dsimp only[aj]);conv=>whnf
 refine aK.step 2 ?_
 (try dsimp only[aj]);conv=>whnf
 refine And.intro (fun _=>?_) (fun h=>absurd (by simp) h)
 (try dsimp only[aj]);conv=>whnf
 refine bZ.mk ⟨_,⟨by decide,rfl⟩,?_⟩
 (try dsimp only[aj]);conv=>whnf
 refine .pure _ _ ?_ ⟨rfl,rfl⟩ ba fun _=>?_
 ·exact ak _
 (try dsimp only[aj]);conv=>whnf
 refine .gen _ _ (Ie (As:=[.ptr 6 [] 0,xP o nsa xa]) (R':=.int .i64 ya) [(10,_),(9,_),(8,_)] (by simp) ia (fun _=>rfl) (fun _=>rfl) rfl) fun _=>?_
 (try dsimp only[aj]);conv=>whnf
 refine ⟨by decide,?_⟩
 (try dsimp only[aj]);conv=>whnf
 refine zA ?_;conv=>whnf
 refine And.intro (fun _=>?_) (fun h=>absurd (by simp) h)
 (try dsimp only[aj]);conv=>whnf
 refine bZ.mk ⟨_,⟨by decide,rfl⟩,?_⟩
 (try dsimp only[aj]);conv=>whnf
 refine .pure _ _ ?_ ⟨rfl,rfl⟩ bb fun _=>?_
 ·exact ak _
 (try dsimp only[aj]);conv=>whnf
 refine .gen _ _ (Ie (As:=[.ptr 6 [] 0,xP o nsb xb]) (R':=.int .i64 yb) [(12,_),(11,_),(10,_),(9,_),(8,_)] (by simp) ib (fun _=>rfl) (fun _=>rfl) rfl) fun _=>?_
 (try dsimp only[aj]);conv=>whnf
 refine ⟨by decide,?_⟩
 (try dsimp only[aj]);conv=>whnf
 refine zA ?_;conv=>whnf
 refine And.intro (fun h=>absurd h (by simp)) (fun _=>?_)
 (try dsimp only[aj]);conv=>whnf
 refine ⟨by decide,?_⟩
 (try dsimp only[aj]);conv=>whnf
 refine ⟨by decide,?_⟩
 (try dsimp only[aj]);conv=>whnf
 refine .gen _ _ (Ie (As:=[.ptr 6 [] 0,.int .i64 ya,.int .i64 yb]) (R':=.int .i64 d) [(12,_),(11,_),(10,_),(9,_),(8,_)] (by simp) xo (fun _=>rfl) (fun _=>rfl) rfl) fun _=>?_
 (try dsimp only[aj]);conv=>whnf
 refine .gen _ _ (Ie (As:=[.ptr 6 [] 0,.int .i64 d,.int .i64 4096]) (R':=.tt) [(12,_),(11,_),(10,_),(9,_),(8,_)] (by simp) sm (fun _=>rfl) (fun _=>rfl) rfl) fun _=>?_
 (try dsimp only[aj]);conv=>whnf
 refine And.intro (fun hd=>?_) (fun hd=>?_)
 ·have hsame : vI a b = ⟨true,0,0,0,0⟩:=by
   rw [hcmp]
   refine NK fun m _=>?_
   have:=ed m
   rw [hd,nZ] at this
   cases hx : OO a m <;> cases hy : OO b m <;> rw [hx,hy] at this <;> first | rfl | cases this
  rw [hsame]
  (try dsimp only[aj]);conv=>whnf
  refine fM ?_;(conv=>whnf);refine ⟨?_,rfl⟩;conv=>whnf
  all_goals exact wk
 have hdr:=p3.rf
 obtain ⟨T4,q,l4,g4,x4,q1,q2,q3,s4⟩:=Z5 7 (by omega) T3 p3.good (by omega) d hdr hd 300000 (by omega) (by
  have : 2 * T3.n.toNat * (2 ^ 7 * (2 ^ 7 + 2)) <= 2 * 7 * (2 ^ 7 * (2 ^ 7 + 2)):=Nat.mul_le_mul (by omega) (Nat.le_refl _)
  omega)
 rw [hn3] at l4
 have hn4 : T4.n = a.vars:=by rw [x4.n,hn3]
 have hd4:=x4.rf hdr
 have ct1:=F7 T4 g4 (by omega) d hd4
 have hyb4:=x4.rf (p3.ext.rf r2)
 have hya4:=x4.rf (p3.ext.rf r12)
 obtain ⟨T5,e1,an1,p5⟩:=Qe 7 T4 g4 (by omega) d yb hd4 hyb4 (by omega)
 have s5:=p5.size
 have hn5 : T5.n = a.vars:=by rw [p5.ext.n,hn4]
 have ct2:=F7 T5 p5.good (by omega) e1 p5.rf
 obtain ⟨T6,e2,an2,p6⟩:=Qe 7 T5 p5.good (by omega) d ya (p5.ext.rf hd4) (p5.ext.rf hya4) (by omega)
 have s6:=p6.size
 have hn6 : T6.n = a.vars:=by rw [p6.ext.n,hn5]
 have ct3:=F7 T6 p6.good (by omega) e2 p6.rf
 have eb3 : ∀ m,ev T3.nodes (pF m) yb = OO b m:=fun m=>by rw [p3.ext.ev r2,eb]; rfl
 have ea3 : ∀ m,ev T3.nodes (pF m) ya = OO a m:=fun m=>by rw [p3.ext.ev r12,ea]; rfl
 have k1 : T4.cnt d = (vI a b).cnt:=by
  rw [FX g4 hd4,spec.2.2.2.1,hn4]
  exact mW fun m _=>by rw [x4.ev hdr,ed]
 have k2 : T5.cnt e1 = (vI a b).ga:=by
  rw [FX p5.good p5.rf,spec.2.2.2.2.1,hn5]
  exact mW fun m _=>by rw [p5.val,x4.ev hdr,x4.ev (p3.ext.rf r2),ed,eb3]
 have k3 : T6.cnt e2 = (vI a b).lo:=by
  rw [FX p6.good p6.rf,spec.2.2.2.2.2,hn6]
  exact mW fun m _=>by rw [p6.val,p5.ext.ev hd4,p5.ext.ev hya4,x4.ev hdr,x4.ev (p3.ext.rf r12),ed,ea3]
 have k4 : (vI a b).eq = false:=by
  cases he : (vI a b).eq with
  | false=>rfl
  | true =>
    have h1:=spec.1.1 he q (by rw [<- hn3]; exact q3)
    rw [ed,h1] at q1
    cases hy : OO b q <;> simp [hy] at q1
 have k5 : (vI a b).st = q:=by
  obtain ⟨w1,w2,w3⟩:=spec.2.2.1 k4
  have h1:=w3 q (by rw [<- hn3]; exact q3) (fun h1=>by
   rw [ed,h1] at q1
   cases hy : OO b q <;> simp [hy] at q1)
  have h2:=q2 (vI a b).st (by
   rw [ed]
   cases hx : OO a (vI a b).st <;> cases hy : OO b (vI a b).st <;> simp_all)
  omega
 have hfin : vI a b = ⟨false,q,T4.cnt d,T5.cnt e1,T6.cnt e2⟩:=df_ext k4 k5 k1.symm k2.symm k3.symm
 rw [hfin]
 clear hfin k1 k2 k3 k4 k5 spec
 refine aS.both [] [12,19] ⟨[true,true,true,false,false,true,true,false,true,true,true,true,false,false,false,true,true,true,true,false,false,false,true,false,true],by kernel_rfl,?_⟩
 conv=>whnf
 refine .gen _ _ (Ie (As:=[.ptr 6 [] 0,.int .i64 d,.int .i64 a.vars]) (R':=.int .i64 q) [(12,_),(11,_),(10,_),(9,_),(8,_)] (by simp) l4 (fun _=>rfl) (fun _=>rfl) rfl) fun _=>?_
 conv=>whnf
 refine .gen _ _ (Ie (As:=[.ptr 6 [] 0,.int .i64 d]) (R':=.int .i64 (T4.cnt d : Nat)) [(12,_),(11,_),(10,_),(9,_),(8,_)] (by simp) ct1 (fun _=>rfl) (fun _=>rfl) rfl) fun _=>?_
 conv=>whnf
 refine ⟨by decide,?_⟩
 conv=>whnf
 (repeat (refine aI (by (conv=>whnf)<;>exact rfl) ?_;(conv=>whnf)))
 refine .gen _ _ (Ie (As:=[.ptr 6 [] 0,.int .i64 d,.int .i64 yb]) (R':=.int .i64 e1) [(12,_),(11,_),(10,_),(9,_),(8,_)] (by simp) an1 (fun _=>rfl) (fun _=>rfl) rfl) fun _=>?_
 conv=>whnf
 refine .gen _ _ (Ie (As:=[.ptr 6 [] 0,.int .i64 e1]) (R':=.int .i64 (T5.cnt e1 : Nat)) [(12,_),(11,_),(10,_),(9,_),(8,_)] (by simp) ct2 (fun _=>rfl) (fun _=>rfl) rfl) fun _=>?_
 conv=>whnf
 refine ⟨by decide,?_⟩
 conv=>whnf
 (repeat (refine aI (by (conv=>whnf)<;>exact rfl) ?_;(conv=>whnf)))
 refine .gen _ _ (Ie (As:=[.ptr 6 [] 0,.int .i64 d,.int .i64 ya]) (R':=.int .i64 e2) [(12,_),(11,_),(10,_),(9,_),(8,_)] (by simp) an2 (fun _=>rfl) (fun _=>rfl) rfl) fun _=>?_
 conv=>whnf
 refine .gen _ _ (Ie (As:=[.ptr 6 [] 0,.int .i64 e2]) (R':=.int .i64 (T6.cnt e2 : Nat)) [(12,_),(11,_),(10,_),(9,_),(8,_)] (by simp) ct3 (fun _=>rfl) (fun _=>rfl) rfl) fun _=>?_
 conv=>whnf
 refine fM ?_;(conv=>whnf);refine ⟨?_,rfl⟩;conv=>whnf
 all_goals exact wk


def lvl (y n : Bool) : Int:=if y = true then 1 else if n = true then 0 else 2
def c3 (V : List Int) (k : Int) (l : List Int) : Nat:=l.countP fun a=>decide (V.getD a.toNat 0 = k)
def LW (x : Nd) (a b c : Nat) : Int :=
 if x.kind = 0 then x.k
 else if x.kind = 1 then lvl (decide (a = 1)) (decide (b = 1))
 else if x.kind = 2 then lvl (decide (b = x.args.length)) (decide (0 < a))
 else if x.kind = 3 then lvl (decide (0 < b)) (decide (a = x.args.length))
 else if x.kind = 4 then lvl (decide (x.k <= b)) (decide ((b : Int) + c < x.k))
 else lvl (decide (c = 0 /\ b % 2 = 1)) (decide (c = 0 /\ b % 2 = 0))
def Uh (v y n : Nat) : List Int:=(List.range v).map fun i=>lvl (y.testBit i) (n.testBit i)
def Hy (V : List Int) (x : Nd) : Int:=LW x (c3 V 0 x.args) (c3 V 1 x.args) (c3 V 2 x.args)
def JD (V : List Int) (x : Nd) : List Int:=V ++ [Hy V x]
def lF (v y n : Nat) (l : List Nd) : List Int:=l.foldl JD (Uh v y n)
def tri (f : Fo) (y n : Nat) : Int:=(lF f.vars.toNat y n f.nodes).getD f.top.toNat 0

theorem Rq (y n : Bool) : 0 <= lvl y n /\ lvl y n <= 2:=by
 unfold lvl; split
 ·omega
 split <;> omega
theorem oD (v y n : Nat) (l : List Nd) : (lF v y n l).length = v + l.length:=by
 have key : ∀ (l : List Nd) (V : List Int),(l.foldl JD V).length = V.length + l.length:=by
  intro l
  induction l with
  | nil=>intro V; simp
  | cons x l ih=>intro V; rw [List.foldl_cons,ih]; simp [JD]; omega
 unfold lF
 rw [key]; simp [Uh]

theorem x9 {v y n : Nat} {l : List Nd} {i : Nat} (h : i < l.length) : lF v y n (l.take (i + 1)) = JD (lF v y n (l.take i)) l[i]:=by
 unfold lF
 rw [List.take_add_one,List.getElem?_eq_getElem h,List.foldl_append]; rfl

theorem xu {V : List Int} {k : Int} {l : List Int} {j : Nat} (h : j < l.length) : c3 V k (l.take (j + 1)) = c3 V k (l.take j) + if V.getD (l[j]).toNat 0 = k then 1 else 0:=by
 unfold c3
 rw [List.take_succ_eq_append_getElem h,List.countP_append,List.countP_singleton]
 congr 1
 by_cases e : V.getD (l[j]).toNat 0 = k
 ·rw [if_pos e,if_pos (decide_eq_true e)]
 ·rw [if_neg e,if_neg (by rw [decide_eq_false e]; simp)]

theorem uH (V : List Int) (k : Int) (l : List Int) : c3 V k l <= l.length:=List.countP_le_length

def V3 (V : List Int) : Prop:=∀ x ∈ V,0 <= x /\ x <= 2

theorem V3.get {V : List Int} (h : V3 V) (i : Nat) : 0 <= V.getD i 0 /\ V.getD i 0 <= 2:=by
 rw [List.getD_eq_getElem?_getD]
 cases e : V[i]? with
 | none=>simp
 | some x=>exact h x (List.mem_of_getElem? e)

theorem c3_sum {V : List Int} (h : V3 V) (l : List Int) : c3 V 0 l + c3 V 1 l + c3 V 2 l = l.length:=by
 unfold c3
 induction l with
 | nil=>rfl
 | cons a l ih =>
   rw [List.countP_cons,List.countP_cons,List.countP_cons,List.length_cons]
   have:=h.get a.toNat
   generalize V.getD a.toNat 0 = z at *
   generalize List.countP _ l = p0 at *
   generalize List.countP _ l = p1 at *
   generalize List.countP _ l = p2 at *
   have hz : z = 0 \/ z = 1 \/ z = 2:=by omega
   rcases hz with rfl | rfl | rfl <;> simp <;> omega

theorem Vu {V : List Int} {v : Int} {i : Nat} {x : Nd} (hx : Hl v i x) : 0 <= Hy V x /\ Hy V x <= 2:=by
 unfold Hy LW
 split
 ·rename_i h
  have hk:=hx.k
  rw [if_pos h] at hk
  omega
 repeat' split
 all_goals exact Rq _ _

theorem yU (v y n : Nat) {w : Int} {l : List Nd} (h : ∀ (i : Nat) (hi : i < l.length),Hl w i l[i]) : ∀ k,k <= l.length -> V3 (lF v y n (l.take k))
 | 0,_=>by
   intro x hx
   unfold lF Uh at hx
   rw [List.take_zero] at hx
   obtain ⟨i,_,rfl⟩:=List.mem_map.1 hx
   exact Rq _ _
 | k + 1,hk=>by
   rw [x9 (by omega)]
   intro x hx
   rcases List.mem_append.1 hx with hx | hx
   ·exact yU v y n h k (by omega) x hx
   ·obtain rfl:=List.mem_singleton.1 hx
    exact Vu (h k (by omega))

structure InC (y n s : Nat) : Prop where
 yes : ∀ i,y.testBit i = true -> s.testBit i = true
 no : ∀ i,n.testBit i = true -> s.testBit i = false

theorem Zw {v y n i : Nat} (h : i < v) : (Uh v y n).getD i 0 = lvl (y.testBit i) (n.testBit i):=by
 unfold Uh
 rw [List.getD_eq_getElem?_getD,List.getElem?_map,List.getElem?_range h]; rfl

theorem xY.JW {f : Fo} (h : xY f) : ∀ (i : Nat) (hi : i < f.nodes.length),Hl (f.vars.toNat : Int) i f.nodes[i]:=by
 have h1:=h.vars
 rw [show ((f.vars.toNat : Nat) : Int) = f.vars by omega]
 exact h.nodes

theorem Dv {f : Fo} (h : xY f) (y n : Nat) : 0 <= tri f y n /\ tri f y n <= 2:=by
 have:=yU f.vars.toNat y n h.JW f.nodes.length (Nat.le_refl _)
 rw [List.take_length] at this
 exact this.get _

def N2 (V : List Int) : Prop:=∀ x ∈ V,x ≠ 2


inductive Sp where
 | mk (v : Int) (ks : List Sp) (r : Int)
 deriving Inhabited

mutual
def Sp.av : Sp -> AV
 | .mk v ks r=>.ag [.int .i64 v,.sl 3 (Sp.avL ks) .no,.int .i64 r]
def Sp.avL : List Sp -> List AV
 | []=>[]
 | t :: l=>t.av :: Sp.avL l
end

theorem Sp.RZ : ∀ (l : List Sp),Sp.avL l = l.map Sp.av
 | []=>by simp only [Sp.avL,List.map_nil]
 | t :: l=>by simp only [Sp.avL,List.map_cons]; rw [Sp.RZ l]

theorem Sp.iy (v : Int) (ks : List Sp) (r : Int) : (Sp.mk v ks r).av = .ag [.int .i64 v,.sl 3 (ks.map Sp.av) .no,.int .i64 r]:=by
 simp only [Sp.av]; rw [Sp.RZ]

mutual
def YH : Sp -> Nat -> Nat
 | .mk _ ks _,n=>Ve ks (n + 1)
def Ve : List Sp -> Nat -> Nat
 | [],n=>n
 | t :: l,n=>if n <= 600 then Ve l (YH t n) else n
end

theorem Vz (v : Int) (ks : List Sp) (r : Int) (n : Nat) : YH (.mk v ks r) n = Ve ks (n + 1):=by simp only [YH]
theorem LX (t : Sp) (l : List Sp) (n : Nat) : Ve (t :: l) n = if n <= 600 then Ve l (YH t n) else n:=by simp only [Ve]
theorem QX (n : Nat) : Ve [] n = n:=by simp only [Ve]

mutual
theorem QV : ∀ (t : Sp) (n : Nat),n <= 600 -> n < YH t n /\ YH t n <= 601
 | .mk _ ks _,n,h=>by
   rw [Vz]
   have:=QW ks (n + 1) (by omega)
   omega
theorem QW : ∀ (l : List Sp) (n : Nat),n <= 601 -> n <= Ve l n /\ Ve l n <= 601
 | [],n,h=>by rw [QX]; omega
 | t :: l,n,h=>by
   rw [LX]
   split
   ·rename_i h6
    have:=QV t n h6
    have:=QW l (YH t n) (by omega)
    omega
   ·omega
end

mutual
def fD (vars : Nat) : Sp -> Nat -> Nat -> Nat × Int
 | .mk v ks r,path,n =>
   if 4096 < n + 1 then (n + 1,4)
   else if ks.length ≠ 0 /\ ks.length ≠ 2 then (n + 1,11)
   else if ks.length = 0 then (n + 1,if v ≠ 0 then 2 else 0)
   else if v < 0 \/ (vars : Int) <= v then (n + 1,3)
   else if path.testBit v.toNat = true then (n + 1,6)
   else if r ≠ 0 then (n + 1,2)
   else uy vars ks (path ||| 2 ^ v.toNat) (n + 1)
def uy (vars : Nat) : List Sp -> Nat -> Nat -> Nat × Int
 | [],_,n=>(n,0)
 | t :: l,path,n=>if (fD vars t path n).2 ≠ 0 then fD vars t path n else uy vars l path (fD vars t path n).1
end

theorem qR (vars : Nat) (v : Int) (ks : List Sp) (r : Int) (path n : Nat) : fD vars (.mk v ks r) path n =
  if 4096 < n + 1 then (n + 1,4)
  else if ks.length ≠ 0 /\ ks.length ≠ 2 then (n + 1,11)
  else if ks.length = 0 then (n + 1,if v ≠ 0 then 2 else 0)
  else if v < 0 \/ (vars : Int) <= v then (n + 1,3)
  else if path.testBit v.toNat = true then (n + 1,6)
  else if r ≠ 0 then (n + 1,2)
  else uy vars ks (path ||| 2 ^ v.toNat) (n + 1):=by simp only [fD]
theorem jI (vars : Nat) (t : Sp) (l : List Sp) (path n : Nat) : uy vars (t :: l) path n = if (fD vars t path n).2 ≠ 0 then fD vars t path n else uy vars l path (fD vars t path n).1:=by simp only [uy]
theorem wB (vars path n : Nat) : uy vars [] path n = (n,0):=by simp only [uy]

def kD (vars : Int) (t : Sp) : Int:=if vars < 0 \/ 24 < vars then 3 else (fD vars.toNat t 0 0).2

inductive Ar (vars : Nat) : Nat -> Sp -> Prop where
 | leaf (path : Nat) (r : Int) : Ar vars path (.mk 0 [] r)
 | node (path v : Nat) (a b : Sp) (hv : v < vars) (hp : path.testBit v = false) (ha : Ar vars (path ||| 2 ^ v) a) (hb : Ar vars (path ||| 2 ^ v) b) : Ar vars path (.mk v [a,b] 0)

mutual
theorem yT (vars : Nat) : ∀ (t : Sp) (path n : Nat),(fD vars t path n).2 = 0 -> Ar vars path t
 | .mk v ks r,path,n,h=>by
   rw [qR] at h
   split at h
   ·cases h
   split at h
   ·cases h
   rename_i h1 h2
   split at h
   ·rename_i h3
    obtain rfl:=List.length_eq_zero_iff.1 h3
    dsimp only at h
    split at h
    ·cases h
    ·rename_i h4
     obtain rfl : v = 0:=by simpa using h4
     exact .leaf path r
   rename_i h3
   have h2 : ks.length = 2:=by omega
   split at h
   ·cases h
   split at h
   ·cases h
   split at h
   ·cases h
   rename_i h4 h5 h6
   obtain rfl : r = 0:=by simpa using h6
   have hl:=LH vars ks (path ||| 2 ^ v.toNat) (n + 1) h
   match ks,h2,hl with
   | [a,b],_,hl =>
     have:=Ar.node (vars:=vars) path v.toNat a b (by omega) (by simpa using h5) (hl a (by simp)) (hl b (by simp))
     rw [show ((v.toNat : Nat) : Int) = v by omega] at this
     exact this
theorem LH (vars : Nat) : ∀ (l : List Sp) (path n : Nat),(uy vars l path n).2 = 0 -> ∀ t ∈ l,Ar vars path t
 | [],_,_,_,t,ht=>by cases ht
 | x :: l,path,n,h,t,ht=>by
   rw [jI] at h
   split at h
   ·contradiction
   ·rename_i h1
    rcases List.mem_cons.1 ht with e | ht
    ·rw [e]; exact yT vars x path n (by simpa using h1)
    ·exact LH vars l path _ h t ht
end

inductive SpN : Nat -> Sp -> Prop where
 | leaf (r : Int) : SpN 1 (.mk 0 [] r)
 | node (v : Int) (a b : Sp) (i j : Nat) (ha : SpN i a) (hb : SpN j b) : SpN (i + j + 1) (.mk v [a,b] 0)

def rC : Sp -> Nat -> Nat -> List (Nat × Nat × Int)
 | .mk _ [] r,y,n=>[(y,n,r)]
 | .mk v [a,b] _,y,n=>rC a y (n ||| 2 ^ v.toNat) ++ rC b (y ||| 2 ^ v.toNat) n
 | .mk _ _ _,_,_=>[]

structure Ik (vars path y n : Nat) : Prop where
 yl : y < 2 ^ vars
 nl : n < 2 ^ vars
 dis : ∀ i,¬ (y.testBit i = true /\ n.testBit i = true)
 pth : ∀ i,path.testBit i = true ↔ (y.testBit i = true \/ n.testBit i = true)

theorem or_bit (a v i : Nat) : (a ||| 2 ^ v).testBit i = true ↔ a.testBit i = true \/ v = i:=by
 rw [Nat.testBit_or,Nat.testBit_two_pow]
 simp

theorem Ik.no {vars path y n : Nat} (h : Ik vars path y n) {v : Nat} (hv : v < vars) (hp : path.testBit v = false) : Ik vars (path ||| 2 ^ v) y (n ||| 2 ^ v):=by
 refine ⟨h.yl,Nat.or_lt_two_pow h.nl (Nat.pow_lt_pow_right (by decide) hv),fun i hi=>?_,fun i=>?_⟩
 ·rw [or_bit] at hi
  rcases hi with ⟨h1,h2 | rfl⟩
  ·exact h.dis i ⟨h1,h2⟩
  ·have:=(h.pth v).2 (.inl h1)
   rw [hp] at this; cases this
 ·rw [or_bit,or_bit,h.pth i,or_assoc]

theorem Ik.yes {vars path y n : Nat} (h : Ik vars path y n) {v : Nat} (hv : v < vars) (hp : path.testBit v = false) : Ik vars (path ||| 2 ^ v) (y ||| 2 ^ v) n:=by
 refine ⟨Nat.or_lt_two_pow h.yl (Nat.pow_lt_pow_right (by decide) hv),h.nl,fun i hi=>?_,fun i=>?_⟩
 ·rw [or_bit] at hi
  rcases hi with ⟨h1 | rfl,h2⟩
  ·exact h.dis i ⟨h1,h2⟩
  ·have:=(h.pth v).2 (.inr h2)
   rw [hp] at this; cases this
 ·rw [or_bit,or_bit,h.pth i]
  constructor
  ·rintro ((h | h) | h)
   ·exact .inl (.inl h)
   ·exact .inr h
   ·exact .inl (.inr h)
  ·rintro ((h | h) | h)
   ·exact .inl (.inl h)
   ·exact .inr h
   ·exact .inl (.inr h)

theorem Ik.zero (vars : Nat) : Ik vars 0 0 0:=⟨Nat.pow_pos (by decide),Nat.pow_pos (by decide),fun i h=>by simp at h,fun i=>by simp⟩

theorem WC {vars path : Nat} {t : Sp} (h : Ar vars path t) : ∀ {y n : Nat},Ik vars path y n -> ∀ x ∈ rC t y n,∃ p,Ik vars p x.1 x.2.1:=by
 induction h with
 | leaf path r =>
   intro y n hc x hx
   obtain rfl : x = (y,n,r):=by simpa [rC] using hx
   exact ⟨path,hc⟩
 | node path v a b hv hp _ _ iha ihb =>
   intro y n hc x hx
   rw [rC,Int.toNat_natCast] at hx
   rcases List.mem_append.1 hx with hx | hx
   ·exact iha (hc.no hv hp) x hx
   ·exact ihb (hc.yes hv hp) x hx

def oW (a b : Fo) (x : Nat × Nat × Int) : Bool:=decide (tri a x.1 x.2.1 = x.2.2) && decide (tri b x.1 x.2.1 = x.2.2) && decide (x.2.2 = 0 \/ x.2.2 = 1)
def Yk (a b : Fo) (t : Sp) : Bool:=(rC t 0 0).all (oW a b)

structure OrdP (o : List Int) (v d y n : Nat) : Prop where
 dl : d <= v
 cu : Ik v (y ||| n) y n
 fst : ∀ i,(y.testBit i = true \/ n.testBit i = true) ↔ ∃ j,j < d /\ o[j]? = some (i : Int)

structure OrdO (o : List Int) (v : Nat) : Prop where
 len : o.length = v
 rng : ∀ x ∈ o,0 <= x /\ x < (v : Int)
 nd : o.Nodup
 all : ∀ i < v,(i : Int) ∈ o


mutual
theorem Sp.ind {p : Sp -> Prop} (h : ∀ v ks r,(∀ u ∈ ks,p u) -> p (.mk v ks r)) : ∀ t,p t
 | .mk v ks r=>h v ks r (Sp.indL h ks)
theorem Sp.indL {p : Sp -> Prop} (h : ∀ v ks r,(∀ u ∈ ks,p u) -> p (.mk v ks r)) : ∀ (l : List Sp),∀ u ∈ l,p u
 | [],u,hu=>by cases hu
 | t :: l,u,hu=>by
   rcases List.mem_cons.1 hu with e | hu
   ·rw [e]; exact Sp.ind h t
   ·exact Sp.indL h l u hu
end

theorem XL (t : Sp) : ∀ n : Nat,n <= 600 -> aA Tryz.prog 38 [t.av,.int .i64 n] [] (.int .i64 (YH t n)) []:=by
 induction t using Sp.ind with
 | h v ks r ih =>
 intro n hn
 rw [Sp.iy,Vz]
 refine aA.intro lay mixed Tryz.func38 (by kernel_rfl) rfl (by kernel_rfl) rfl fun hok=>?_
 (try dsimp only[aZ,aN]);(try dsimp only[aj]);conv=>whnf
 refine zA ?_;conv=>whnf
 refine aK.of <| aC.inv (.refl _ _) (fun (q : Nat × Nat)=>q.1 <= ks.length /\ q.2 <= 601 /\ n < q.2 /\ q.1 <= q.2 /\ Ve (ks.drop q.1) q.2 = Ve ks (n + 1)) (fun (q : Nat × Nat)=>[(6,.int .i64 q.1),(5,.int .i64 q.2)]) (fun _=>_) (fun (q : Nat × Nat)=>ks.length - q.1) (0,n + 1) ?_ (fun _=>rfl) ?_ ?_
 ·exact ⟨Nat.zero_le _,by dsimp only; omega,by simp,Nat.zero_le _,rfl⟩
 ·all_goals exact wk
 rintro ⟨k,m⟩ ⟨hk,hm,hnm,hkm,hz⟩ _
 dsimp only at hk hm hnm hkm hz
 (try dsimp only[aj]);conv=>whnf
 refine And.intro (fun g=>?_) (fun g=>?_)
 ·have hlt : k < ks.length:=by simpa using g
  rw [List.drop_eq_getElem_cons hlt,LX] at hz
  (try dsimp only[aj]);conv=>whnf
  refine And.intro (fun g2=>?_) (fun g2=>?_)
  ·rw [if_pos (by omega)] at hz
   have hi:=ih _ (List.getElem_mem hlt) m (by omega)
   have hb:=QV ks[k] m (by omega)
   (try dsimp only[aj]);conv=>whnf
   refine jq hlt ?_
   generalize ks[k] = u at *
   obtain ⟨v',ks',r'⟩:=u
   rw [Sp.iy] at hi ⊢
   (try dsimp only[aj]);conv=>whnf
   refine .pure _ _ ?_ ⟨rfl,rfl⟩ hi fun _=>?_
   ·exact ak _
   (try dsimp only[aj]);conv=>whnf
   refine zA ?_;conv=>whnf
   refine ⟨(k + 1,YH (.mk v' ks' r') m),?_,?_,?_⟩
   ·exact ⟨hlt,hb.2,Nat.lt_trans hnm hb.1,Nat.succ_le_of_lt (Nat.lt_of_le_of_lt hkm hb.1),hz⟩
   ·all_goals exact wk
   ·dsimp only; omega
  ·rw [if_neg (by omega)] at hz
   subst hz
   (try dsimp only[aj]);conv=>whnf
   refine fM ?_;(conv=>whnf);refine ⟨?_,rfl⟩;conv=>whnf
   all_goals exact wk
 ·have hk : k = ks.length:=by (have : ¬ k < ks.length:=by simpa using g); omega
  subst hk
  rw [List.drop_length,QX] at hz
  subst hz
  (try dsimp only[aj]);conv=>whnf
  refine fM ?_;(conv=>whnf);refine ⟨?_,rfl⟩;conv=>whnf
  all_goals exact wk

mutual
theorem qQ (vars : Nat) : ∀ (t : Sp) (path n : Nat),n <= 4096 -> (fD vars t path n).1 <= 4097 /\ ((fD vars t path n).2 = 0 -> (fD vars t path n).1 <= 4096)
 | .mk v ks r,path,n,h=>by
   rw [qR]
   repeat' split
   all_goals first | exact LJ vars ks _ _ (by omega) | (dsimp only; omega) | (dsimp only; exact ⟨by omega,fun h=>absurd h (by decide)⟩)
theorem LJ (vars : Nat) : ∀ (l : List Sp) (path n : Nat),n <= 4096 -> (uy vars l path n).1 <= 4097 /\ ((uy vars l path n).2 = 0 -> (uy vars l path n).1 <= 4096)
 | [],path,n,h=>by rw [wB]; dsimp only; omega
 | t :: l,path,n,h=>by
   rw [jI]
   have:=qQ vars t path n h
   split
   ·exact this
   ·rename_i h1
    exact LJ vars l path _ (this.2 (by simpa using h1))
end

abbrev ckH (n vars : Nat) : Heap:=[(0,.box (.ag [.int .i64 n,.int .i64 vars]))]

theorem XJ (vars : Nat) (hv : vars <= 24) (t : Sp) : ∀ (path n : Nat),path < 2 ^ 24 -> n <= 4096 ->
  aA Tryz.prog 251 [.ptr 0 [] 0,t.av,.int .i64 path] (ckH n vars) (rF (fD vars t path n).2) (ckH (fD vars t path n).1 vars):=by
 induction t using Sp.ind with
 | h v ks r ih =>
 intro path n hp hn
 have hW:=qR vars v ks r path n
 rw [Sp.iy]
 refine aA.intro lay mixed Tryz.func251 (by kernel_rfl) rfl (by kernel_rfl) rfl fun hok=>?_
 (try dsimp only[aZ,aN]);(try dsimp only[aj]);conv=>whnf
 refine zA ?_;conv=>whnf
 refine And.intro (fun g=>?_) (fun g=>?_)
 ·rw [if_pos (by omega)] at hW
  rw [show fD vars (.mk v ks r) path n = (n + 1,4) from hW]
  (try dsimp only[aj]);conv=>whnf
  refine ⟨⟨_,_,.refl _ _,?_⟩⟩
  conv=>whnf
  refine ⟨?_,rfl,by simp [nextId],.mk ?_ (by simp [ay])⟩
  ·all_goals exact wk
  ·all_goals exact wk
 rw [if_neg (by omega)] at hW
 have hcont : ks.length ≠ 0 /\ ks.length ≠ 2 \/ ks.length = 0 \/ ks.length = 2:=by omega
 rcases hcont with hc | hc | hc
 ·rw [if_pos hc] at hW
  (try dsimp only[aj]);conv=>whnf
  refine And.intro (fun g1=>?_) (fun g1=>by exfalso; rw [List.length_map] at g1; omega)
  (try dsimp only[aj]);conv=>whnf
  refine And.intro (fun g1=>?_) (fun g1=>by exfalso; rw [List.length_map] at g1; omega)
  rw [show fD vars (.mk v ks r) path n = (n + 1,11) from hW]
  (try dsimp only[aj]);conv=>whnf
  refine ⟨⟨_,_,.refl _ _,?_⟩⟩
  conv=>whnf
  refine ⟨?_,rfl,by simp [nextId],.mk ?_ (by simp [ay])⟩
  ·all_goals exact wk
  ·all_goals exact wk
 ·rw [if_neg (by omega),if_pos hc] at hW
  (try dsimp only[aj]);conv=>whnf
  refine And.intro (fun g1=>by exfalso; rw [List.length_map] at g1; omega) (fun g1=>?_)
  (try dsimp only[aj]);conv=>whnf
  refine And.intro (fun g1=>?_) (fun g1=>by exfalso; rw [List.length_map] at g1; omega)
  (try dsimp only[aj]);conv=>whnf
  refine And.intro (fun g1=>?_) (fun g1=>?_)
  ·rw [if_pos g1] at hW
   rw [show fD vars (.mk v ks r) path n = (n + 1,2) from hW]
   (try dsimp only[aj]);conv=>whnf
   refine ⟨⟨_,_,.refl _ _,?_⟩⟩
   conv=>whnf
   refine ⟨?_,rfl,by simp [nextId],.mk ?_ (by simp [ay])⟩
   ·all_goals exact wk
   ·all_goals exact wk
  ·rw [if_neg g1] at hW
   rw [show fD vars (.mk v ks r) path n = (n + 1,0) from hW]
   (try dsimp only[aj]);conv=>whnf
   refine ⟨⟨_,_,.refl _ _,?_⟩⟩
   conv=>whnf
   refine ⟨?_,rfl,by simp [nextId],.mk ?_ (by simp [ay])⟩
   ·all_goals exact wk
   ·all_goals exact wk
 rw [if_neg (by omega),if_neg (by omega)] at hW
 obtain ⟨a,b,rfl⟩ : ∃ a b,ks = [a,b]:=by
  match ks,hc with
  | [a,b],_=>exact ⟨a,b,rfl⟩
 have iha:=ih a (by simp)
 have ihb:=ih b (by simp)
 clear ih
 (try dsimp only[aj]);conv=>whnf
 refine And.intro (fun g1=>?_) (fun g1=>by exfalso; simp at g1)
 (try dsimp only[aj]);conv=>whnf
 refine And.intro (fun g1=>by exfalso; simp at g1) (fun g1=>?_)
 (try dsimp only[aj]);conv=>whnf
 refine And.intro (fun g1=>by exfalso; simp at g1) (fun g1=>?_)
 (try dsimp only[aj]);conv=>whnf
 refine aS.auto (by kernel_rfl) ?_;conv=>whnf
 refine And.intro (fun g2=>?_) (fun g2=>?_)
 ·rw [if_pos (.inl g2)] at hW
  rw [show fD vars (.mk v [a,b] r) path n = (n + 1,3) from hW]
  (try dsimp only[aj]);conv=>whnf
  refine ⟨⟨_,_,.refl _ _,?_⟩⟩
  conv=>whnf
  refine ⟨?_,rfl,by simp [nextId],.mk ?_ (by simp [ay])⟩
  ·all_goals exact wk
  ·all_goals exact wk
 conv=>whnf
 refine And.intro (fun g3=>?_) (fun g3=>?_)
 ·rw [if_pos (.inr g3)] at hW
  rw [show fD vars (.mk v [a,b] r) path n = (n + 1,3) from hW]
  (try dsimp only[aj]);conv=>whnf
  refine ⟨⟨_,_,.refl _ _,?_⟩⟩
  conv=>whnf
  refine ⟨?_,rfl,by simp [nextId],.mk ?_ (by simp [ay])⟩
  ·all_goals exact wk
  ·all_goals exact wk
 rw [if_neg (by omega)] at hW
 obtain ⟨w,rfl⟩ : ∃ w : Nat,v = w:=⟨v.toNat,by omega⟩
 rw [Int.toNat_natCast] at hW
 have hb:=mZ (a:=path) (i:=w) (by omega) (by omega)
 (try dsimp only[aj]);conv=>whnf
 refine ⟨by omega,?_⟩
 (try dsimp only[aj]);conv=>whnf
 rw [hb]
 by_cases hpb : path.testBit w = true
 ·rw [if_pos hpb] at hW
  rw [if_pos hpb]
  refine And.intro (fun _=>?_) (fun h=>absurd rfl h)
  rw [show fD vars (.mk w [a,b] r) path n = (n + 1,6) from hW]
  (try dsimp only[aj]);conv=>whnf
  refine ⟨⟨_,_,.refl _ _,?_⟩⟩
  conv=>whnf
  refine ⟨?_,rfl,by simp [nextId],.mk ?_ (by simp [ay])⟩
  ·all_goals exact wk
  ·all_goals exact wk
 rw [if_neg hpb] at hW
 rw [if_neg hpb]
 refine And.intro (fun h=>absurd h (by decide)) (fun _=>?_)
 (try dsimp only[aj]);conv=>whnf
 refine And.intro (fun g4=>?_) (fun g4=>?_)
 ·rw [if_pos g4] at hW
  rw [show fD vars (.mk w [a,b] r) path n = (n + 1,2) from hW]
  (try dsimp only[aj]);conv=>whnf
  refine ⟨⟨_,_,.refl _ _,?_⟩⟩
  conv=>whnf
  refine ⟨?_,rfl,by simp [nextId],.mk ?_ (by simp [ay])⟩
  ·all_goals exact wk
  ·all_goals exact wk
 rw [if_neg g4] at hW
 have hP : path ||| 2 ^ w < 2 ^ 24:=Nat.or_lt_two_pow hp (Nat.pow_lt_pow_right (by decide) (by omega))
 have hpw : 2 ^ w < 2 ^ 24:=Nat.pow_lt_pow_right (by decide) (by omega)
 have hsh:=sK (i:=w) (by omega)
 have hor:=yt (a:=path) (b:=2 ^ w) (by omega) (by omega)
 have ca:=iha (path ||| 2 ^ w) (n + 1) hP (by omega)
 have hla:=qQ vars a (path ||| 2 ^ w) (n + 1) (by omega)
 rw [jI] at hW
 obtain ⟨va,ka,ra⟩:=a
 obtain ⟨vb,kb,rb⟩:=b
 rw [Sp.iy] at ca
 generalize hA : fD vars (.mk va ka ra) (path ||| 2 ^ w) (n + 1) = A at *
 obtain ⟨n1,e1⟩:=A
 dsimp only at hla hW ca
 (try dsimp only[aj]);conv=>whnf
 refine aK.step 3 ?_
 (try dsimp only[aj]);conv=>whnf
 refine bY (by simp) ?_
 (try dsimp only[aj]);conv=>whnf
 refine bZ.mk ⟨_,⟨by decide,rfl⟩,?_⟩
 rw [Sp.iy]
 (try dsimp only[aj]);conv=>whnf
 refine aS.mk ⟨[true,false,true,true,false,true,true,false,true],by kernel_rfl,?_⟩
 conv=>whnf
 refine ⟨by omega,?_⟩
 rw [hsh]
 conv=>whnf
 rw [hor]
 refine .gen _ _ (aA.frame [0] ca ⟨rfl,rfl,rfl,rfl⟩ ?_ ?_) fun _=>?_
 ·all_goals exact wk
 ·all_goals exact wk
 by_cases he : e1 ≠ 0
 ·rw [if_pos he] at hW
  rw [hW]
  rw [gq he]
  (try dsimp only[aj]);conv=>whnf
  refine ⟨⟨_,_,.refl _ _,?_⟩⟩
  conv=>whnf
  refine ⟨?_,rfl,by simp [nextId],.mk ?_ (by simp [ay])⟩
  ·all_goals exact wk
  ·all_goals exact wk
 obtain rfl : e1 = 0:=by simpa using he
 rw [if_neg (by simp),jI] at hW
 have hn1:=hla.2 rfl
 have cb:=ihb (path ||| 2 ^ w) n1 hP (by omega)
 have hlb:=qQ vars (.mk vb kb rb) (path ||| 2 ^ w) n1 (by omega)
 rw [Sp.iy] at cb
 generalize hB : fD vars (.mk vb kb rb) (path ||| 2 ^ w) n1 = B at *
 obtain ⟨n2,e2⟩:=B
 dsimp only at hlb hW cb
 (try dsimp only[aj]);conv=>whnf
 refine zA ?_;conv=>whnf
 refine bY (by simp) ?_
 (try dsimp only[aj]);conv=>whnf
 refine bZ.mk ⟨_,⟨by decide,rfl⟩,?_⟩
 rw [Sp.iy]
 (try dsimp only[aj]);conv=>whnf
 refine aS.mk ⟨[true,false,true,true,false,true,true,false,true],by kernel_rfl,?_⟩
 conv=>whnf
 refine ⟨by omega,?_⟩
 rw [hsh]
 conv=>whnf
 rw [hor]
 refine .gen _ _ (aA.frame [0] cb ⟨rfl,rfl,rfl,rfl⟩ ?_ ?_) fun _=>?_
 ·all_goals exact wk
 ·all_goals exact wk
 by_cases he2 : e2 ≠ 0
 ·rw [if_pos he2] at hW
  rw [hW]
  rw [gq he2]
  (try dsimp only[aj]);conv=>whnf
  refine ⟨⟨_,_,.refl _ _,?_⟩⟩
  conv=>whnf
  refine ⟨?_,rfl,by simp [nextId],.mk ?_ (by simp [ay])⟩
  ·all_goals exact wk
  ·all_goals exact wk
 obtain rfl : e2 = 0:=by simpa using he2
 rw [if_neg (by simp),wB] at hW
 rw [hW]
 (try dsimp only[aj]);conv=>whnf
 refine zA ?_;conv=>whnf
 refine bN (by simp) ?_
 (try dsimp only[aj]);conv=>whnf
 refine ⟨⟨_,_,.refl _ _,?_⟩⟩
 conv=>whnf
 refine ⟨?_,rfl,by simp [nextId],.mk ?_ (by simp [ay])⟩
 ·all_goals exact wk
 ·all_goals exact wk

theorem Jl (vars : Int) (t : Sp) (R : AV) (hR : R = rF (kD vars t)) : aA Tryz.prog 191 [t.av,.int .i64 vars] [] R []:=by
 by_cases hv : vars < 0 \/ 24 < vars
 ·rw [show kD vars t = 3 from if_pos hv] at hR
  obtain ⟨v,ks,r⟩:=t
  rw [Sp.iy]
  subst hR
  refine aA.intro lay mixed Tryz.func191 (by kernel_rfl) rfl (by kernel_rfl) rfl fun hok=>?_
  (try dsimp only[aZ,aN]);(try dsimp only[aj]);conv=>whnf
  refine And.intro (fun g=>?_) (fun g=>?_)
  ·(try dsimp only[aj]);conv=>whnf
   refine fM ?_;(conv=>whnf);refine ⟨?_,rfl⟩;conv=>whnf
   all_goals exact wk
  (try dsimp only[aj]);conv=>whnf
  refine And.intro (fun g=>?_) (fun g=>by exfalso; omega)
  (try dsimp only[aj]);conv=>whnf
  refine fM ?_;(conv=>whnf);refine ⟨?_,rfl⟩;conv=>whnf
  all_goals exact wk
 rw [show kD vars t = (fD vars.toNat t 0 0).2 from if_neg hv] at hR
 have cn:=XJ vars.toNat (by omega) t 0 0 (by decide) (by decide)
 unfold ckH at cn
 rw [show ((vars.toNat : Nat) : Int) = vars by omega] at cn
 obtain ⟨v,ks,r⟩:=t
 rw [Sp.iy] at cn ⊢
 generalize fD vars.toNat (.mk v ks r) 0 0 = W at *
 obtain ⟨n1,e1⟩:=W
 dsimp only at hR cn
 subst hR
 refine aA.intro lay mixed Tryz.func191 (by kernel_rfl) rfl (by kernel_rfl) rfl fun hok=>?_
 (try dsimp only[aZ,aN]);(try dsimp only[aj]);conv=>whnf
 refine And.intro (fun g=>by exfalso; omega) (fun g=>?_)
 (try dsimp only[aj]);conv=>whnf
 refine And.intro (fun g=>by exfalso; omega) (fun g=>?_)
 (try dsimp only[aj]);conv=>whnf
 refine .gen _ _ (aA.frame [1] cn ⟨rfl,rfl,rfl,rfl⟩ ?_ ?_) fun _=>?_
 ·all_goals exact wk
 ·all_goals exact wk
 by_cases he : e1 ≠ 0
 ·rw [gq he]
  (try dsimp only[aj]);conv=>whnf
  refine ⟨⟨_,_,.refl _ _,?_⟩⟩
  conv=>whnf
  refine ⟨?_,rfl,by simp [nextId],.mk ?_ (by simp [ay])⟩
  ·all_goals exact wk
  ·all_goals exact wk
 ·obtain rfl : e1 = 0:=by simpa using he
  (try dsimp only[aj]);conv=>whnf
  refine ⟨⟨_,_,.refl _ _,?_⟩⟩
  conv=>whnf
  refine ⟨?_,rfl,by simp [nextId],.mk ?_ (by simp [ay])⟩
  ·all_goals exact wk
  ·all_goals exact wk

theorem UH (vars : Nat) (hv : vars <= 24) (t : Sp) : ∀ (path n : Nat),path < 2 ^ 24 -> n <= 4096 ->
  aA Tryz.prog 105 [t.av,.int .i64 vars,.int .i64 path,.int .i64 n] [] (.eG [.int .i64 (fD vars t path n).1,.int .i64 (fD vars t path n).2]) []:=by
 induction t using Sp.ind with
 | h v ks r ih =>
 intro path n hp hn
 have hW:=qR vars v ks r path n
 rw [Sp.iy]
 refine aA.intro lay mixed Tryz.func105 (by kernel_rfl) rfl (by kernel_rfl) rfl fun hok=>?_
 (try dsimp only[aZ,aN]);(try dsimp only[aj]);conv=>whnf
 refine zA ?_;conv=>whnf
 refine And.intro (fun g=>?_) (fun g=>?_)
 ·rw [if_pos (by omega)] at hW
  rw [hW]
  (try dsimp only[aj]);conv=>whnf
  refine fM ?_;(conv=>whnf);refine ⟨?_,rfl⟩;conv=>whnf
  all_goals exact wk
 rw [if_neg (by omega)] at hW
 have hcont : ks.length ≠ 0 /\ ks.length ≠ 2 \/ ks.length = 0 \/ ks.length = 2:=by omega
 rcases hcont with hc | hc | hc
 ·rw [if_pos hc] at hW
  (try dsimp only[aj]);conv=>whnf
  refine And.intro (fun g1=>?_) (fun g1=>by exfalso; rw [List.length_map] at g1; omega)
  (try dsimp only[aj]);conv=>whnf
  refine And.intro (fun g1=>?_) (fun g1=>by exfalso; rw [List.length_map] at g1; omega)
  rw [hW]
  (try dsimp only[aj]);conv=>whnf
  refine fM ?_;(conv=>whnf);refine ⟨?_,rfl⟩;conv=>whnf
  all_goals exact wk
 ·rw [if_neg (by omega),if_pos hc] at hW
  (try dsimp only[aj]);conv=>whnf
  refine And.intro (fun g1=>by exfalso; rw [List.length_map] at g1; omega) (fun g1=>?_)
  (try dsimp only[aj]);conv=>whnf
  refine And.intro (fun g1=>?_) (fun g1=>by exfalso; rw [List.length_map] at g1; omega)
  (try dsimp only[aj]);conv=>whnf
  refine And.intro (fun g1=>?_) (fun g1=>?_)
  ·rw [if_pos g1] at hW
   rw [hW]
   (try dsimp only[aj]);conv=>whnf
   refine fM ?_;(conv=>whnf);refine ⟨?_,rfl⟩;conv=>whnf
   all_goals exact wk
  ·rw [if_neg g1] at hW
   rw [hW]
   (try dsimp only[aj]);conv=>whnf
   refine fM ?_;(conv=>whnf);refine ⟨?_,rfl⟩;conv=>whnf
   all_goals exact wk
 rw [if_neg (by omega),if_neg (by omega)] at hW
 obtain ⟨a,b,rfl⟩ : ∃ a b,ks = [a,b]:=by
  match ks,hc with
  | [a,b],_=>exact ⟨a,b,rfl⟩
 have iha:=ih a (by simp)
 have ihb:=ih b (by simp)
 clear ih
 (try dsimp only[aj]);conv=>whnf
 refine And.intro (fun g1=>?_) (fun g1=>by exfalso; simp at g1)
 (try dsimp only[aj]);conv=>whnf
 refine And.intro (fun g1=>by exfalso; simp at g1) (fun g1=>?_)
 (try dsimp only[aj]);conv=>whnf
 refine And.intro (fun g1=>by exfalso; simp at g1) (fun g1=>?_)
 (try dsimp only[aj]);conv=>whnf
 refine And.intro (fun g2=>?_) (fun g2=>?_)
 ·rw [if_pos (.inl g2)] at hW
  rw [hW]
  (try dsimp only[aj]);conv=>whnf
  refine fM ?_;(conv=>whnf);refine ⟨?_,rfl⟩;conv=>whnf
  all_goals exact wk
 (try dsimp only[aj]);conv=>whnf
 refine And.intro (fun g3=>?_) (fun g3=>?_)
 ·rw [if_pos (.inr g3)] at hW
  rw [hW]
  (try dsimp only[aj]);conv=>whnf
  refine fM ?_;(conv=>whnf);refine ⟨?_,rfl⟩;conv=>whnf
  all_goals exact wk
 rw [if_neg (by omega)] at hW
 obtain ⟨w,rfl⟩ : ∃ w : Nat,v = w:=⟨v.toNat,by omega⟩
 rw [Int.toNat_natCast] at hW
 have hb:=mZ (a:=path) (i:=w) (by omega) (by omega)
 (try dsimp only[aj]);conv=>whnf
 refine ⟨by omega,?_⟩
 (try dsimp only[aj]);conv=>whnf
 rw [hb]
 by_cases hpb : path.testBit w = true
 ·rw [if_pos hpb] at hW
  rw [if_pos hpb]
  refine And.intro (fun _=>?_) (fun h=>absurd rfl h)
  rw [hW]
  (try dsimp only[aj]);conv=>whnf
  refine fM ?_;(conv=>whnf);refine ⟨?_,rfl⟩;conv=>whnf
  all_goals exact wk
 rw [if_neg hpb] at hW
 rw [if_neg hpb]
 refine And.intro (fun h=>absurd h (by decide)) (fun _=>?_)
 (try dsimp only[aj]);conv=>whnf
 refine And.intro (fun g4=>?_) (fun g4=>?_)
 ·rw [if_pos g4] at hW
  rw [hW]
  (try dsimp only[aj]);conv=>whnf
  refine fM ?_;(conv=>whnf);refine ⟨?_,rfl⟩;conv=>whnf
  all_goals exact wk
 rw [if_neg g4] at hW
 have hP : path ||| 2 ^ w < 2 ^ 24:=Nat.or_lt_two_pow hp (Nat.pow_lt_pow_right (by decide) (by omega))
 have hpw : 2 ^ w < 2 ^ 24:=Nat.pow_lt_pow_right (by decide) (by omega)
 have hsh:=sK (i:=w) (by omega)
 have hor:=yt (a:=path) (b:=2 ^ w) (by omega) (by omega)
 have ca:=iha (path ||| 2 ^ w) (n + 1) hP (by omega)
 have hla:=qQ vars a (path ||| 2 ^ w) (n + 1) (by omega)
 rw [jI] at hW
 obtain ⟨va,ka,ra⟩:=a
 obtain ⟨vb,kb,rb⟩:=b
 rw [Sp.iy] at ca
 generalize hA : fD vars (.mk va ka ra) (path ||| 2 ^ w) (n + 1) = A at *
 obtain ⟨n1,e1⟩:=A
 dsimp only at hla hW ca
 (try dsimp only[aj]);conv=>whnf
 refine aK.step 3 ?_
 (try dsimp only[aj]);conv=>whnf
 refine bY (by simp) ?_
 (try dsimp only[aj]);conv=>whnf
 refine bZ.mk ⟨_,⟨by decide,rfl⟩,?_⟩
 rw [Sp.iy]
 (try dsimp only[aj]);conv=>whnf
 refine aS.auto (by kernel_rfl) ?_;conv=>whnf
 refine ⟨by omega,?_⟩
 rw [hsh]
 conv=>whnf
 rw [hor]
 refine fO.pure _ _ ?_ ⟨rfl,rfl⟩ ca ?_
 ·all_goals exact wk
 by_cases he : e1 ≠ 0
 ·rw [if_pos he] at hW
  rw [hW]
  (try dsimp only[aj]);conv=>whnf
  refine bY he ?_
  (try dsimp only[aj]);conv=>whnf
  refine fM ?_;(conv=>whnf);refine ⟨?_,rfl⟩;conv=>whnf
  all_goals exact wk
 obtain rfl : e1 = 0:=by simpa using he
 rw [if_neg (by simp),jI] at hW
 have hn1:=hla.2 rfl
 have cb:=ihb (path ||| 2 ^ w) n1 hP (by omega)
 have hlb:=qQ vars (.mk vb kb rb) (path ||| 2 ^ w) n1 (by omega)
 rw [Sp.iy] at cb
 generalize hB : fD vars (.mk vb kb rb) (path ||| 2 ^ w) n1 = B at *
 obtain ⟨n2,e2⟩:=B
 dsimp only at hlb hW cb
 (try dsimp only[aj]);conv=>whnf
 refine bN (by simp) ?_
 (try dsimp only[aj]);conv=>whnf
 refine zA ?_;conv=>whnf
 refine bY (by simp) ?_
 (try dsimp only[aj]);conv=>whnf
 refine bZ.mk ⟨_,⟨by decide,rfl⟩,?_⟩
 rw [Sp.iy]
 (try dsimp only[aj]);conv=>whnf
 refine aS.auto (by kernel_rfl) ?_;conv=>whnf
 refine ⟨by omega,?_⟩
 rw [hsh]
 conv=>whnf
 rw [hor]
 refine fO.pure _ _ ?_ ⟨rfl,rfl⟩ cb ?_
 ·all_goals exact wk
 by_cases he2 : e2 ≠ 0
 ·rw [if_pos he2] at hW
  rw [hW]
  (try dsimp only[aj]);conv=>whnf
  refine bY he2 ?_
  (try dsimp only[aj]);conv=>whnf
  refine fM ?_;(conv=>whnf);refine ⟨?_,rfl⟩;conv=>whnf
  all_goals exact wk
 obtain rfl : e2 = 0:=by simpa using he2
 rw [if_neg (by simp),wB] at hW
 rw [hW]
 (try dsimp only[aj]);conv=>whnf
 refine bN (by simp) ?_
 (try dsimp only[aj]);conv=>whnf
 refine zA ?_;conv=>whnf
 refine bN (by simp) ?_
 (try dsimp only[aj]);conv=>whnf
 refine fM ?_;(conv=>whnf);refine ⟨?_,rfl⟩;conv=>whnf
 all_goals exact wk

theorem F8 (vars : Int) (t : Sp) : aA Tryz.prog 40 [t.av,.int .i64 vars] [] (.int .i64 (kD vars t)) []:=by
 by_cases hv : vars < 0 \/ 24 < vars
 ·rw [show kD vars t = 3 from if_pos hv]
  obtain ⟨v,ks,r⟩:=t
  rw [Sp.iy]
  refine aA.intro lay mixed Tryz.func40 (by kernel_rfl) rfl (by kernel_rfl) rfl fun hok=>?_
  (try dsimp only[aZ,aN]);(try dsimp only[aj]);conv=>whnf
  refine And.intro (fun g=>?_) (fun g=>?_)
  ·(try dsimp only[aj]);conv=>whnf
   refine fM ?_;(conv=>whnf);refine ⟨?_,rfl⟩;conv=>whnf
   all_goals exact wk
  (try dsimp only[aj]);conv=>whnf
  refine And.intro (fun g=>?_) (fun g=>by exfalso; omega)
  (try dsimp only[aj]);conv=>whnf
  refine fM ?_;(conv=>whnf);refine ⟨?_,rfl⟩;conv=>whnf
  all_goals exact wk
 rw [show kD vars t = (fD vars.toNat t 0 0).2 from if_neg hv]
 have cn:=UH vars.toNat (by omega) t 0 0 (by decide) (by decide)
 rw [show ((vars.toNat : Nat) : Int) = vars by omega] at cn
 obtain ⟨v,ks,r⟩:=t
 rw [Sp.iy] at cn ⊢
 generalize fD vars.toNat (.mk v ks r) 0 0 = W at *
 obtain ⟨n1,e1⟩:=W
 dsimp only at cn ⊢
 refine aA.intro lay mixed Tryz.func40 (by kernel_rfl) rfl (by kernel_rfl) rfl fun hok=>?_
 (try dsimp only[aZ,aN]);(try dsimp only[aj]);conv=>whnf
 refine And.intro (fun g=>by exfalso; omega) (fun g=>?_)
 (try dsimp only[aj]);conv=>whnf
 refine And.intro (fun g=>by exfalso; omega) (fun g=>?_)
 (try dsimp only[aj]);conv=>whnf
 refine .pure _ _ ?_ ⟨rfl,rfl⟩ cn fun _=>?_
 ·all_goals exact wk
 (try dsimp only[aj]);conv=>whnf
 refine fM ?_;(conv=>whnf);refine ⟨?_,rfl⟩;conv=>whnf
 all_goals exact wk
end S
