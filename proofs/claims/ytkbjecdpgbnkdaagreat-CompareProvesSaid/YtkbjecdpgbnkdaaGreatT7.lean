/-
  Contracts of functions of the program, over the logic of the texts before. Nothing is assumed.
-/
import Derived.Test.YtkbjecdpgbnkdaaGreatT6

open Go Go.AL Go.Proofs
namespace S
set_option maxRecDepth 100000

theorem KD : ∀ (n : Nat),bW (List.replicate n AV.ff) ((List.replicate n false).map AV.bool)
 | 0=>trivial
 | n + 1=>⟨rfl,KD n⟩

theorem Yj {o : List Int} {n : Nat} (h : sH o n) (hn : n <= 24) : aA Tryz.prog 127 [iL o,.int .i64 n] [] .dN []:=by
 have hl:=h.len
 refine aA.intro lay mixed Tryz.func127 (by kernel_rfl) rfl (by kernel_rfl) rfl fun hok=>?_
 (try dsimp only[aZ,aN]);(try dsimp only[ak]);conv=>whnf
 refine And.intro (fun g=>by exfalso; omega) (fun g=>?_)
 (try dsimp only[ak]);conv=>whnf
 refine And.intro (fun g=>by exfalso; omega) (fun g=>?_)
 (try dsimp only[ak]);conv=>whnf
 refine And.intro (fun g=>by exfalso; simp at g; omega) (fun g=>?_)
 (try dsimp only[ak]);conv=>whnf
 refine ⟨⟨by omega,Int.le_refl _,by show (n : Int) * ((1 : Nat) : Int) <= 281474976710656; omega,by omega⟩,.wr ?_⟩
 rw [Int.toNat_natCast]
 (try dsimp only[ak]);conv=>whnf
 refine aK.of <| (aB.inv (.refl _ _) (fun k : Nat=>k <= o.length) (fun k=>[(26,.int .i64 k)]) (fun k=>[(0,.arr 1 n ((qG (List.replicate n false) (o.take k)).map .bool))]) (fun k=>o.length - k) 0 (Nat.zero_le _) ?_ ?_ ?_)
 ·exact fun _=>rfl
 ·refine ⟨?_,.mk ?_ (by simp [ay])⟩
  ·all_goals exact wk
  ·repeat' first|exact rfl|exact trivial|exact wR|exact lR _|apply aI
   all_goals first | (show bW (List.replicate n _) (List.map _ (List.replicate n false)); exact KD n) | skip
 intro k hk _
 have hml:=wX (o.take k) (List.replicate n false)
 rw [List.length_replicate] at hml
 (try dsimp only[ak]);conv=>whnf
 refine And.intro (fun g=>?_) (fun g=>?_)
 ·have hlt : k < o.length:=by simpa using g
  have rk:=h.rng _ (List.getElem_mem hlt)
  have hmt:=Fv (d:=List.replicate n false) hlt
  have hno : ¬ (qG (List.replicate n false) (o.take k)).getD (o[k]).toNat false = true:=by
   rw [rM]
   rintro (h1 | ⟨_,b,hb,e⟩)
   ·rw [List.getD_eq_getElem?_getD,List.getElem?_replicate] at h1
    split at h1 <;> cases h1
   ·obtain ⟨j,hj,ej⟩:=List.mem_iff_getElem.1 hb
    have hj' : j < k:=by rw [List.length_take] at hj; omega
    rw [List.getElem_take] at ej
    have rb:=h.rng b (List.mem_of_mem_take hb)
    have : o[j] = o[k]:=by rw [ej]; omega
    exact absurd this (List.pairwise_iff_getElem.1 h.nd j k (by omega) hlt hj')
  generalize qG (List.replicate n false) (o.take k) = d at *
  (try dsimp only[ak]);conv=>whnf
  refine jq hlt ?_
  generalize o[k] = x at *
  (try dsimp only[ak]);conv=>whnf
  refine And.intro (fun g=>by exfalso; omega) (fun g=>?_)
  (try dsimp only[ak]);conv=>whnf
  refine And.intro (fun g=>by exfalso; omega) (fun g=>?_)
  (try dsimp only[ak]);conv=>whnf
  refine ⟨⟨rk.1,rk.2⟩,?_⟩
  (try dsimp only[ak]);conv=>whnf
  rw [Nat.zero_add]
  refine dI false ⟨by omega,by omega⟩ ?_
  (try dsimp only[ak]);conv=>whnf
  refine ⟨rfl,?_⟩
  (try dsimp only[ak]);conv=>whnf
  refine And.intro (fun g=>absurd g (by rw [Int.toNat_natCast]; exact hno)) (fun g=>?_)
  (try dsimp only[ak]);conv=>whnf
  refine ⟨⟨rk.1,rk.2⟩,?_⟩
  (try dsimp only[ak]);conv=>whnf
  refine ⟨by rw [List.length_map]; omega,rfl,?_⟩
  (try dsimp only[ak]);conv=>whnf
  refine zA ?_;conv=>whnf
  refine ⟨k + 1,?_,?_,?_⟩
  ·exact hlt
  ·rw [hmt]
   refine ⟨?_,.mk ?_ (by simp [ay])⟩
   ·all_goals exact wk
   ·repeat' first|exact rfl|exact trivial|exact wR|exact lR _|apply aI
    all_goals (rw [Nat.zero_add]; refine rO ?_ _ _; first | exact rfl | (show _ ↔ _; simp))
  ·omega
 (try dsimp only[ak]);conv=>whnf
 refine ⟨⟨_,_,.refl _ _,?_⟩⟩
 conv=>whnf
 refine ⟨?_,rfl,by simp [nextId],.mk ?_ (by simp [ay])⟩
 ·all_goals exact wk
 ·all_goals exact wk

def Dz (v : Nat) (l : List Nd) : Nat -> Int -> List Bool × List Int -> List Bool × List Int
 | 0,_,s=>s
 | n + 1,a,s=>if s.1.getD a.toNat false = true then s
     else if a < (v : Int) then (s.1.set a.toNat true,s.2 ++ [a])
     else (argsAt l (a.toNat - v)).foldl (fun s b=>Dz v l n b s) (s.1.set a.toNat true,s.2)

structure VB (v m : Nat) (s : List Bool × List Int) : Prop where
 len : s.1.length = v + m
 ev : ∀ e ∈ s.2,0 <= e /\ e < (v : Int) /\ s.1.getD e.toNat false = true
 nd : s.2.Nodup
 all : ∀ i : Nat,i < v -> s.1.getD i false = true -> (i : Int) ∈ s.2

theorem VB.short {v m : Nat} {s : List Bool × List Int} (h : VB v m s) : s.2.length <= v:=by
 have:=rJ (l:=s.2) (u:=(List.range v).map (fun k : Nat=>(k : Int))) h.nd (fun x hx=>by
  have:=h.ev x hx
  exact List.mem_map.2 ⟨x.toNat,List.mem_range.2 (by omega),by omega⟩)
 simpa using this

theorem VB.mark {v m : Nat} {s : List Bool × List Int} (h : VB v m s) {a : Int} (h0 : 0 <= a) (h1 : a < ((v + m : Nat) : Int)) (hm : ¬ s.1.getD a.toNat false = true) :
  VB v m (s.1.set a.toNat true,if a < (v : Int) then s.2 ++ [a] else s.2):=by
 have hl:=h.len
 refine ⟨by simp [hl],fun e he=>?_,?_,fun i hi hs=>?_⟩
 ·have old : e ∈ s.2 -> 0 <= e /\ e < (v : Int) /\ (s.1.set a.toNat true).getD e.toNat false = true:=fun he=>by
   obtain ⟨q1,q2,q3⟩:=h.ev e he
   exact ⟨q1,q2,oN.2 (.inl q3)⟩
  dsimp only at he
  split at he
  ·rename_i hv
   rcases List.mem_append.1 he with he | he
   ·exact old he
   ·obtain rfl:=List.mem_singleton.1 he
    exact ⟨h0,hv,oN.2 (.inr ⟨by omega,rfl⟩)⟩
  ·exact old he
 ·dsimp only
  split
  ·refine List.nodup_append.2 ⟨h.nd,by simp,fun x hx y hy e=>?_⟩
   obtain rfl:=List.mem_singleton.1 hy
   exact hm (e ▸ (h.ev x hx).2.2)
  ·exact h.nd
 ·dsimp only at hs ⊢
  rcases oN.1 hs with hs | ⟨_,hs⟩
  ·have:=h.all i hi hs
   split
   ·exact List.mem_append.2 (.inl this)
   ·exact this
  ·rw [if_pos (by omega)]
   exact List.mem_append.2 (.inr (by rw [List.mem_singleton]; omega))

theorem Eu {v : Nat} {l : List Nd} (hw : ∀ i < l.length,∀ a ∈ argsAt l i,0 <= a /\ a < (v : Int) + i) : ∀ (n : Nat) (a : Int) (s : List Bool × List Int),VB v l.length s -> 0 <= a -> a < ((v + l.length : Nat) : Int) -> VB v l.length (Dz v l n a s)
 | 0,_,_,h,_,_=>h
 | n + 1,a,s,h,h0,h1=>by
   unfold Dz
   split
   ·exact h
   rename_i hm
   have hk:=h.mark h0 h1 hm
   split
   ·rename_i hv
    rw [if_pos hv] at hk
    exact hk
   ·rename_i hv
    rw [if_neg hv] at hk
    have hwa:=hw (a.toNat - v) (by omega)
    generalize argsAt l (a.toNat - v) = args at *
    generalize (s.1.set a.toNat true,s.2) = s' at *
    induction args generalizing s' with
    | nil=>exact hk
    | cons b args ih =>
      have hb:=hwa b (by simp)
      exact ih (fun x hx=>hwa x (by simp [hx])) _ (Eu hw n b s' hk hb.1 (by omega))

theorem Js {α β : Type} (f : β -> α -> β) (s : β) {l : List α} {j : Nat} (h : j < l.length) : (l.take (j + 1)).foldl f s = f ((l.take j).foldl f s) l[j]:=by
 rw [List.take_add_one,List.getElem?_eq_getElem h,List.foldl_append]; rfl

abbrev hpV (f : Fo) (s : List Bool × List Int) : Heap :=
 [(2,.tok 1 s.2.length),(1,.arr 1 (f.vars.toNat + f.nodes.length) (s.1.map .bool)),(0,.box (.ag [f.av,.sl 1 (s.2.map (.int .i64)) (.own 2),.ms 1 0 (f.vars.toNat + f.nodes.length) (f.vars.toNat + f.nodes.length) 1]))]

theorem c_visit (f : Fo) (h : qB f) : ∀ (n : Nat) (a : Int) (s : List Bool × List Int),VB f.vars.toNat f.nodes.length s -> 0 <= a -> a < ((f.vars.toNat + f.nodes.length : Nat) : Int) -> a < (n : Int) ->
  aA Tryz.prog 224 [.ptr 0 [] 0,.int .i64 a] (hpV f s) (.dV []) (hpV f (Dz f.vars.toNat f.nodes n a s)):=by
 intro n
 induction n with
 | zero=>intro a s _ h0 _ h1; omega
 | succ n ih =>
   intro a s hs h0 h1 han
   have hlen:=hs.len
   have hsh:=hs.short
   have hw:=h.args
   have hal : ∀ i,i < f.nodes.length -> (argsAt f.nodes i).length <= 16:=fun i hi=>by
    have hal:=(h.nodes i hi).num
    have e : argsAt f.nodes i = f.nodes[i].args:=by unfold argsAt; rw [List.getD_eq_getElem?_getD,List.getElem?_eq_getElem hi]; rfl
    rw [e]
    split at hal
    ·omega
    ·split at hal <;> omega
   obtain ⟨g1,g2,g3,g4⟩:=h
   refine aA.intro lay mixed Tryz.func224 (by kernel_rfl) rfl (by kernel_rfl) rfl fun hok=>?_
   (try dsimp only[aZ,aN]);(try dsimp only[ak]);conv=>whnf
   refine ⟨⟨h0,h1⟩,?_⟩
   (try dsimp only[ak]);conv=>whnf
   rw [Nat.zero_add]
   refine dI false ⟨by omega,by omega⟩ ?_
   (try dsimp only[ak]);conv=>whnf
   refine ⟨rfl,?_⟩
   (try dsimp only[ak]);conv=>whnf
   rw [Int.toNat_natCast]
   refine And.intro (fun g=>?_) (fun g=>?_)
   ·rw [show Dz f.vars.toNat f.nodes (n + 1) a s = s from if_pos g]
    (try dsimp only[ak]);conv=>whnf
    refine ⟨⟨_,_,.refl _ _,?_⟩⟩
    conv=>whnf
    refine ⟨?_,rfl,by simp [nextId],.mk ?_ (by simp [ay])⟩
    ·all_goals exact wk
    ·all_goals exact wk
   have hm : ¬ s.1.getD a.toNat false = true:=by rw [g]; simp
   have hmk:=hs.mark h0 h1 hm
   (try dsimp only[ak]);conv=>whnf
   refine ⟨⟨h0,h1⟩,?_⟩
   (try dsimp only[ak]);conv=>whnf
   refine ⟨by rw [List.length_map]; omega,rfl,?_⟩
   (try dsimp only[ak]);conv=>whnf
   refine And.intro (fun g5=>?_) (fun g5=>?_)
   ·have g5' : a < (f.vars.toNat : Int):=by omega
    rw [show Dz f.vars.toNat f.nodes (n + 1) a s = (s.1.set a.toNat true,s.2 ++ [a]) from (if_neg hm).trans (if_pos g5')]
    (try dsimp only[ak]);conv=>whnf
    refine ⟨by rw [List.length_map],.mk (by simp [maxL]; omega) (by simp; omega) ?_⟩
    (try dsimp only[ak]);conv=>whnf
    refine ⟨⟨_,_,.refl _ _,?_⟩⟩
    conv=>whnf
    refine ⟨?_,rfl,by simp [nextId],.mk ?_ (by simp [ay])⟩
    ·all_goals exact wk
    ·repeat' first|exact rfl|exact trivial|exact wR|exact lR _|apply aI
     all_goals first | (simp; done) | (rw [Nat.zero_add]; refine rO ?_ _ _; first | exact rfl | (show _ ↔ _; simp)) | (show bW _ (List.map _ (_ ++ [_])); rw [List.map_append]; exact aF _)
   have g5' : ¬ a < (f.vars.toNat : Int):=by omega
   rw [if_neg g5'] at hmk
   have hwa:=hw (a.toNat - f.vars.toNat) (by omega)
   have han':=hal (a.toNat - f.vars.toNat) (by omega)
   rw [show Dz f.vars.toNat f.nodes (n + 1) a s = (argsAt f.nodes (a.toNat - f.vars.toNat)).foldl (fun s b=>Dz f.vars.toNat f.nodes n b s) (s.1.set a.toNat true,s.2) from (if_neg hm).trans (if_neg g5')]
   have hinv : ∀ j,j <= (argsAt f.nodes (a.toNat - f.vars.toNat)).length -> VB f.vars.toNat f.nodes.length (((argsAt f.nodes (a.toNat - f.vars.toNat)).take j).foldl (fun s b=>Dz f.vars.toNat f.nodes n b s) (s.1.set a.toNat true,s.2)):=by
    intro j
    induction j with
    | zero=>intro _; exact hmk
    | succ j ihj =>
      intro hj
      rw [Js _ _ (show j < (argsAt f.nodes (a.toNat - f.vars.toNat)).length by omega)]
      have:=hwa _ (List.getElem_mem (show j < (argsAt f.nodes (a.toNat - f.vars.toNat)).length by omega))
      exact Eu hw n _ _ (ihj (by omega)) this.1 (by omega)
   (try dsimp only[ak]);conv=>whnf
   refine aO.auto (by kernel_rfl) ?_;conv=>whnf
   refine ⟨bD (by omega) (by omega),?_⟩
   conv=>whnf
   refine dI default ⟨by omega,by omega⟩ ?_
   rw [show (a - f.vars).toNat = a.toNat - f.vars.toNat by omega]
   conv=>whnf
   rw [show (f.nodes.getD (a.toNat - f.vars.toNat) default).args = argsAt f.nodes (a.toNat - f.vars.toNat) from rfl]
   generalize argsAt f.nodes (a.toNat - f.vars.toNat) = args at *
   refine aK.of <| (aB.inv (.refl _ _) (fun k : Nat=>k <= args.length) (fun k=>[(52,.int .i64 k)]) (fun k=>hpV f ((args.take k).foldl (fun s b=>Dz f.vars.toNat f.nodes n b s) (s.1.set a.toNat true,s.2))) (fun k=>args.length - k) 0 (Nat.zero_le _) ?_ ?_ ?_)
   ·exact fun _=>rfl
   ·refine ⟨?_,.mk ?_ (by simp [ay])⟩
    ·all_goals exact wk
    ·repeat' first|exact rfl|exact trivial|exact wR|exact lR _|apply aI
     all_goals first | (rw [Nat.zero_add]; refine rO ?_ _ _; first | exact rfl | (show _ ↔ _; simp)) | skip
   intro k hk _
   have hik:=hinv k hk
   (try dsimp only[ak]);conv=>whnf
   refine And.intro (fun g6=>?_) (fun g6=>?_)
   ·have hlt : k < args.length:=by simpa using g6
    have hb:=hwa _ (List.getElem_mem hlt)
    have q:=ih (args[k]) _ hik hb.1 (by omega) (by omega)
    rw [<- Js (fun s b=>Dz f.vars.toNat f.nodes n b s) _ hlt] at q
    (try dsimp only[ak]);conv=>whnf
    refine jq hlt ?_
    (try dsimp only[ak]);conv=>whnf
    refine .gen _ _ q fun _=>?_
    (try dsimp only[ak]);conv=>whnf
    refine zA ?_;conv=>whnf
    refine ⟨k + 1,?_,?_,?_⟩
    ·exact hlt
    ·refine ⟨?_,.mk ?_ (by simp [ay])⟩
     ·all_goals exact wk
     ·all_goals exact wk
    ·omega
   ·have hk : k = args.length:=by (have : ¬ k < args.length:=by simpa using g6); omega
    subst hk
    rw [List.take_length]
    (try dsimp only[ak]);conv=>whnf
    refine ⟨⟨_,_,.refl _ _,?_⟩⟩
    conv=>whnf
    refine ⟨?_,rfl,by simp [nextId],.mk ?_ (by simp [ay])⟩
    ·all_goals exact wk
    ·all_goals exact wk

def rV (_ : Nat) (s : List Bool × List Int) (k : Nat) : List Int:=s.2 ++ ((List.range k).filter fun i=>!s.1.getD i false).map fun i : Nat=>(i : Int)

theorem UL (v : Nat) (s : List Bool × List Int) (k : Nat) : rV v s (k + 1) = if s.1.getD k false = true then rV v s k else rV v s k ++ [(k : Int)]:=by
 unfold rV
 rw [List.range_succ,List.filter_append]
 cases h : s.1.getD k false with
 | true =>
   have h' : s.1[k]?.getD false = true:=by simpa using h
   simp [h']
 | false =>
   have h' : s.1[k]?.getD false = false:=by simpa using h
   simp [h']

theorem UM {v m : Nat} {s : List Bool × List Int} (h : VB v m s) : sH (rV v s v) v:=by
 have hmem : ∀ i : Nat,i < v -> (i : Int) ∈ rV v s v:=fun i hi=>by
  unfold rV
  by_cases hs : s.1.getD i false = true
  ·exact List.mem_append.2 (.inl (h.all i hi hs))
  ·refine List.mem_append.2 (.inr (List.mem_map.2 ⟨i,List.mem_filter.2 ⟨List.mem_range.2 hi,?_⟩,rfl⟩))
   simpa using hs
 have hr : ∀ x ∈ rV v s v,0 <= x /\ x < (v : Int):=fun x hx=>by
  unfold rV at hx
  rcases List.mem_append.1 hx with hx | hx
  ·exact ⟨(h.ev x hx).1,(h.ev x hx).2.1⟩
  ·obtain ⟨i,hi,rfl⟩:=List.mem_map.1 hx
   have:=List.mem_range.1 (List.mem_filter.1 hi).1
   omega
 have hn : (rV v s v).Nodup:=by
  unfold rV
  refine List.nodup_append.2 ⟨h.nd,?_,fun x hx y hy e=>?_⟩
  ·refine List.Pairwise.map _ (R:=(· ≠ ·)) (fun a b hab e=>hab (by omega)) ?_
   exact List.Pairwise.filter _ List.nodup_range
  ·obtain ⟨i,hi,rfl⟩:=List.mem_map.1 hy
   have h1:=(List.mem_filter.1 hi).2
   subst e
   have:=(h.ev _ hx).2.2
   rw [Int.toNat_natCast] at this
   rw [this] at h1
   cases h1
 refine ⟨Nat.le_antisymm ?_ ?_,hr,hn⟩
 ·have:=rJ (l:=rV v s v) (u:=(List.range v).map (fun k : Nat=>(k : Int))) hn (fun x hx=>by
   have:=hr x hx
   exact List.mem_map.2 ⟨x.toNat,List.mem_range.2 (by omega),by omega⟩)
  simpa using this
 ·have:=rJ (l:=(List.range v).map (fun k : Nat=>(k : Int))) (u:=rV v s v) (by
   refine List.Pairwise.map _ (R:=(· ≠ ·)) (fun a b hab e=>hab (by omega)) List.nodup_range) (fun x hx=>by
   obtain ⟨i,hi,rfl⟩:=List.mem_map.1 hx
   exact hmem i (List.mem_range.1 hi))
  simpa using this

def XV (f : Fo) : List Bool × List Int:=Dz f.vars.toNat f.nodes (f.top.toNat + 1) f.top (List.replicate (f.vars.toNat + f.nodes.length) false,[])
def uV (f : Fo) : List Int:=rV f.vars.toNat (XV f) f.vars.toNat

theorem Oe (f : Fo) (h : qB f) : VB f.vars.toNat f.nodes.length (XV f):=by
 have h4:=h.top
 have h1:=h.vars
 refine Eu h.args _ _ _ ⟨by simp,fun e he=>(by cases he),List.nodup_nil,fun i hi hs=>?_⟩ h4.1 (by omega)
 rw [List.getD_eq_getElem?_getD,List.getElem?_replicate] at hs
 split at hs <;> cases hs

theorem Yi (f : Fo) (h : qB f) : aA Tryz.prog 125 [f.av] [] (.dV [iL (uV f),.sl 1 ((XV f).1.map .bool) .no]) []:=by
 have hs:=Oe f h
 have h1:=h.vars
 have h4:=h.top
 have c : aA Tryz.prog 224 [.ptr 0 [] 0,.int .i64 f.top] (hpV f (List.replicate (f.vars.toNat + f.nodes.length) false,[])) (.dV []) (hpV f (XV f)):=c_visit f h (f.top.toNat + 1) f.top (List.replicate (f.vars.toNat + f.nodes.length) false,[]) ⟨by simp,fun e he=>(by cases he),List.nodup_nil,fun i hi hs=>by
  rw [List.getD_eq_getElem?_getD,List.getElem?_replicate] at hs
  split at hs <;> cases hs⟩ h4.1 (by omega) (by omega)
 unfold uV
 generalize XV f = s at *
 obtain ⟨g1,g2,g3,g4⟩:=h
 refine aA.intro lay mixed Tryz.func125 (by kernel_rfl) rfl (by kernel_rfl) rfl fun hok=>?_
 (try dsimp only[aZ,aN]);(try dsimp only[ak]);conv=>whnf
 refine aO.RQ [0] ?_
 conv=>whnf
 refine And.intro ⟨rfl,rfl⟩ ?_
 conv=>whnf
 refine ⟨[true,true,true,true,true,true,true,false,true,false,true],by kernel_rfl,?_⟩
 conv=>whnf
 rw [List.length_map]
 refine ⟨bD (by omega) (by omega),?_⟩
 conv=>whnf
 rw [show f.vars + (f.nodes.length : Int) = ((f.vars.toNat + f.nodes.length : Nat) : Int) by omega]
 refine ⟨⟨by omega,Int.le_refl _,by show ((f.vars.toNat + f.nodes.length : Nat) : Int) * ((1 : Nat) : Int) <= 281474976710656; omega,by omega⟩,.wr ?_⟩
 rw [Int.toNat_natCast]
 conv=>whnf
 refine .gen _ _ (aA.pre (.Jp 2 [1] 1 [] (.ag [f.av,.aG,.ms 1 0 (f.vars.toNat + f.nodes.length) (f.vars.toNat + f.nodes.length) 1]) .aG _ rfl rfl (.inl ⟨rfl,rfl⟩) rfl (.refl _ _)) (aA.frame [2,1,3] c ⟨rfl,rfl,rfl,rfl⟩ ?_ ?_)) fun _=>?_
 ·repeat' first|exact rfl|exact trivial|exact wR|exact lR _|apply aI
  all_goals first | (show bW (List.replicate _ AV.ff) (List.map _ (List.replicate _ false)); exact KD _) | skip
 ·all_goals exact wk
 have hsl:=hs.len
 have hss:=hs.short
 have hdl : ∀ k,k <= f.vars.toNat -> (rV f.vars.toNat s k).length <= 48:=fun k hk=>by
  unfold rV
  rw [List.length_append,List.length_map]
  have:=List.length_filter_le (fun i=>!s.1.getD i false) (List.range k)
  rw [List.length_range] at this
  omega
 (try dsimp only[ak]);conv=>whnf
 refine aK.of <| (aB.inv (.refl _ _) (fun k : Nat=>k <= f.vars.toNat) (fun k=>[(22,.int .i64 k)]) (fun k=>[(3,.tok 1 (rV f.vars.toNat s k).length),(2,.box (.ag [f.av,.sl 1 ((rV f.vars.toNat s k).map (.int .i64)) (.own 3),.ms 1 0 (f.vars.toNat + f.nodes.length) (f.vars.toNat + f.nodes.length) 1])),(1,.arr 1 (f.vars.toNat + f.nodes.length) (s.1.map .bool)),(0,.gone)]) (fun k=>f.vars.toNat - k) 0 (Nat.zero_le _) ?_ ?_ ?_)
 ·exact fun _=>rfl
 ·refine ⟨?_,.mk ?_ (by simp [ay])⟩
  ·all_goals exact wk
  ·repeat' first|exact rfl|exact trivial|exact wR|exact lR _|apply aI
   all_goals first | (show bW _ (List.map _ (s.2 ++ [])); rw [List.append_nil]; exact aF _) | (unfold rV; simp; done) | skip
 intro k hk _
 have hdk:=hdl k hk
 have hds:=UL f.vars.toNat s k
 (try dsimp only[ak]);conv=>whnf
 refine And.intro (fun g=>?_) (fun g=>?_)
 ·have hlt : k < f.vars.toNat:=by omega
  generalize rV f.vars.toNat s k = d at *
  (try dsimp only[ak]);conv=>whnf
  refine ⟨⟨by omega,by omega⟩,?_⟩
  (try dsimp only[ak]);conv=>whnf
  rw [Nat.zero_add]
  refine dI false ⟨by omega,by omega⟩ ?_
  rw [Int.toNat_natCast]
  (try dsimp only[ak]);conv=>whnf
  refine ⟨rfl,?_⟩
  (try dsimp only[ak]);conv=>whnf
  refine And.intro (fun g2=>?_) (fun g2=>?_)
  ·have g2' : s.1.getD k false = false:=by
    cases h : s.1.getD k false with
    | false=>rfl
    | true=>rw [Int.toNat_natCast,h] at g2; cases g2
   rw [if_neg (by rw [g2']; simp)] at hds
   (try dsimp only[ak]);conv=>whnf
   refine ⟨by rw [List.length_map],.mk (by simp [maxL]; omega) (by simp; omega) ?_⟩
   (try dsimp only[ak]);conv=>whnf
   refine zA ?_;conv=>whnf
   refine ⟨k + 1,?_,?_,?_⟩
   ·exact hlt
   ·rw [hds]
    refine ⟨?_,.mk ?_ (by simp [ay])⟩
    ·all_goals exact wk
    ·repeat' first|exact rfl|exact trivial|exact wR|exact lR _|apply aI
     all_goals first | (simp; done) | (show bW _ (List.map _ (_ ++ [_])); rw [List.map_append]; exact aF _)
   ·omega
  ·have g2' : s.1.getD k false = true:=by
    cases h : s.1.getD k false with
    | true=>rfl
    | false=>rw [Int.toNat_natCast,h] at g2; cases g2
   rw [if_pos g2'] at hds
   (try dsimp only[ak]);conv=>whnf
   refine zA ?_;conv=>whnf
   refine ⟨k + 1,?_,?_,?_⟩
   ·exact hlt
   ·rw [hds]
    refine ⟨?_,.mk ?_ (by simp [ay])⟩
    ·all_goals exact wk
    ·all_goals exact wk
   ·omega
 ·have hk : k = f.vars.toNat:=by omega
  subst hk
  (try dsimp only[ak]);conv=>whnf
  refine aO.auto (by kernel_rfl) ?_;conv=>whnf
  refine ⟨⟨_,_,.freeze 3 1 _ _ _ _ _ _ rfl rfl ?_ (.refl _ _),?_⟩⟩
  ·rw [List.length_map]; omega
  conv=>whnf
  refine ⟨?_,rfl,by simp [nextId],.mk ?_ (by simp [ay])⟩
  ·repeat' first|exact rfl|exact trivial|exact wR|exact lR _|apply aI
   all_goals first | (refine aY ?_; rw [List.drop_zero,List.take_of_length_le (by rw [List.length_map]; omega)]) | skip
  ·all_goals exact wk

theorem GI (f : Fo) (h : qB f) : aA Tryz.prog 49 [f.av] [] (.dV [iL (uV f),.dN]) []:=by
 have cc:=lM f h
 have cd:=Yi f h
 refine aA.intro lay mixed Tryz.func49 (by kernel_rfl) rfl (by kernel_rfl) rfl fun hok=>?_
 (try dsimp only[aZ,aN]);(try dsimp only[ak]);conv=>whnf
 refine .pure _ _ ?_ ⟨rfl,rfl⟩ cc fun _=>?_
 ·exact aj _
 (try dsimp only[ak]);conv=>whnf
 refine .pure _ _ ?_ ⟨rfl,rfl⟩ cd fun _=>?_
 ·exact aj _
 (try dsimp only[ak]);conv=>whnf
 refine fM ?_;(conv=>whnf);refine ⟨?_,rfl⟩;conv=>whnf
 all_goals exact wk

theorem xC (f : Fo) (h : qB f) : sH (uV f) f.vars.toNat:=UM (Oe f h)

def jh (l0 : List Bool) (nodes : List Nd) : List Bool:=nodes.foldl Bg l0

theorem IJ (l0 : List Bool) : ∀ (nodes : List Nd),(jh l0 nodes).length = l0.length + nodes.length:=by
 intro nodes
 unfold jh
 induction nodes generalizing l0 with
 | nil=>simp
 | cons x l ih=>rw [List.foldl_cons,ih]; simp [Bg]; omega

theorem Tz (l0 : List Bool) (l r : List Nd) : ∃ t,jh l0 (l ++ r) = jh l0 l ++ t:=by
 unfold jh
 rw [List.foldl_append]
 generalize l.foldl Bg l0 = u
 induction r generalizing u with
 | nil=>exact ⟨[],by simp⟩
 | cons x r ih =>
   obtain ⟨t,ht⟩:=ih (Bg u x)
   exact ⟨[jG x (oD u x.args)] ++ t,by rw [List.foldl_cons,ht]; simp [Bg]⟩

theorem jU (l0 : List Bool) (l r : List Nd) {j : Nat} (h : j < l0.length + l.length) : (jh l0 (l ++ r)).getD j false = (jh l0 l).getD j false:=by
 obtain ⟨t,ht⟩:=Tz l0 l r
 rw [ht,List.getD_eq_getElem?_getD,List.getElem?_append_left (by rw [IJ]; exact h),<- List.getD_eq_getElem?_getD]

theorem EC (l0 : List Bool) (l : List Nd) {k : Nat} (h : k < l.length) : (jh l0 l).getD (l0.length + k) false = jG l[k] (oD (jh l0 (l.take k)) l[k].args):=by
 have e : l = (l.take k ++ [l[k]]) ++ l.drop (k + 1):=by rw [<- List.take_succ_eq_append_getElem h,List.take_append_drop]
 have hl : (l.take k).length = k:=by rw [List.length_take]; omega
 have:=jU l0 (l.take k ++ [l[k]]) (l.drop (k + 1)) (j:=l0.length + k) (by simp; omega)
 rw [<- e] at this
 rw [this]
 unfold jh
 rw [List.foldl_append]
 show ((Bg (jh l0 (l.take k)) l[k]).getD _ false) = _
 have hv:=IJ l0 (l.take k)
 rw [hl] at hv
 unfold Bg
 rw [List.getD_eq_getElem?_getD,List.getElem?_append_right (by omega),hv,Nat.sub_self]; rfl

theorem Ez (l0 : List Bool) (l : List Nd) {j k : Nat} (h : j < l0.length + k) (hk : k <= l.length) : (jh l0 (l.take k)).getD j false = (jh l0 l).getD j false:=by
 have:=jU l0 (l.take k) (l.drop k) (j:=j) (by rw [List.length_take]; omega)
 rw [List.take_append_drop] at this
 exact this.symm

theorem Qh {u w : List Bool} {f : Int -> Int} : ∀ {args : List Int},(∀ a ∈ args,u.getD (f a).toNat false = w.getD a.toNat false) -> oD u (args.map f) = oD w args:=by
 have key : ∀ (args : List Int) (n : Nat),(∀ a ∈ args,u.getD (f a).toNat false = w.getD a.toNat false) -> (args.map f).foldl (fun n a=>if u.getD a.toNat false = true then n + 1 else n) n = args.foldl (fun n a=>if w.getD a.toNat false = true then n + 1 else n) n:=by
  intro args
  induction args with
  | nil=>intro n _; rfl
  | cons a l ih =>
    intro n h
    rw [List.map_cons,List.foldl_cons,List.foldl_cons,h a (by simp)]
    exact ih _ fun b hb=>h b (by simp [hb])
 intro args h
 exact key args 0 h

theorem Ua {k n : Int} {a b : List Int} (h : a.length = b.length) (c : Nat) : jG ⟨k,n,a⟩ c = jG ⟨k,n,b⟩ c:=by
 unfold jG; simp only [h]

def CU (to : List Int) (a : Int) : Int:=to.getD a.toNat 0
def TJ (to : List Int) (x : Nd) : Nd:=⟨x.kind,x.k,x.args.map (CU to)⟩

def VP (v : Nat) (l : List Nd) (d : List Bool) : Nat -> List Int × List Nd
 | 0=>((List.range v).map (fun i : Nat=>(i : Int)) ++ List.replicate l.length 0,[])
 | k + 1=>if d.getD (v + k) false = true then ((VP v l d k).1.set (v + k) ((v : Int) + (VP v l d k).2.length),(VP v l d k).2 ++ [TJ (VP v l d k).1 (l.getD k default)]) else VP v l d k

structure TrI (v : Nat) (l : List Nd) (d : List Bool) (k : Nat) (s : List Int × List Nd) : Prop where
 len : s.1.length = v + l.length
 out : s.2.length <= k
 ref : ∀ j : Nat,j < v + k -> (j < v \/ d.getD j false = true) -> 0 <= s.1.getD j 0 /\ s.1.getD j 0 < (v : Int) + s.2.length
 nd : ∀ (i : Nat) (h : i < s.2.length),A8 v i s.2[i]
 val : ∀ l0 : List Bool,l0.length = v -> ∀ j : Nat,j < v + k -> (j < v \/ d.getD j false = true) -> (jh l0 s.2).getD (s.1.getD j 0).toNat false = (jh l0 l).getD j false

theorem Q5 {v : Nat} {l : List Nd} {d : List Bool} (hn : ∀ (i : Nat) (h : i < l.length),A8 v i l[i]) (hd : ∀ i < l.length,d.getD (v + i) false = true -> ∀ a ∈ argsAt l i,a < (v : Int) \/ d.getD a.toNat false = true) :
  ∀ k,k <= l.length -> TrI v l d k (VP v l d k)
 | 0,_=>by
   have h0 : ∀ j : Nat,j < v -> ((List.range v).map (fun i : Nat=>(i : Int)) ++ List.replicate l.length 0).getD j 0 = (j : Int):=fun j hj=>by
    rw [List.getD_eq_getElem?_getD,List.getElem?_append_left (by simpa using hj),List.getElem?_map,List.getElem?_range hj]; rfl
   refine ⟨by simp [VP],Nat.le_refl _,fun j hj _=>?_,fun i h=>absurd h (Nat.not_lt_zero _),fun l0 hl j hj _=>?_⟩
   ·show 0 <= (_ ++ _ : List Int).getD j 0 /\ (_ ++ _ : List Int).getD j 0 < _
    rw [h0 j hj]; simp [VP]; omega
   ·show (jh l0 []).getD ((_ ++ _ : List Int).getD j 0).toNat false = _
    rw [h0 j hj,Int.toNat_natCast]
    have:=jU l0 [] l (j:=j) (by simp; omega)
    exact this.symm
 | k + 1,hk=>by
   have ih:=Q5 hn hd k (by omega)
   have hkl : k < l.length:=by omega
   have ex : l.getD k default = l[k]:=by rw [List.getD_eq_getElem?_getD,List.getElem?_eq_getElem hkl]; rfl
   have ea : argsAt l k = l[k].args:=by unfold argsAt; rw [ex]
   unfold VP
   generalize VP v l d k = s at *
   obtain ⟨i1,i2,i3,i4,i5⟩:=ih
   split
   ·rename_i hm
    have nk:=hn k hkl
    have hda:=hd k hkl hm
    rw [ea] at hda
    rw [ex]
    have aok : ∀ a ∈ l[k].args,0 <= a /\ a.toNat < v + k /\ (a.toNat < v \/ d.getD a.toNat false = true):=fun a ha=>by
     have h1:=nk.args a ha
     exact ⟨h1.1,by omega,(hda a ha).imp (fun h=>by omega) id⟩
    have hg : ∀ j,(s.1.set (v + k) ((v : Int) + s.2.length)).getD j 0 = if j = v + k then (v : Int) + s.2.length else s.1.getD j 0:=fun j=>jv (by omega)
    refine ⟨by simp [i1],by simp; omega,fun j hj hjd=>?_,fun i hi=>?_,fun l0 hl j hj hjd=>?_⟩
    ·dsimp only
     rw [hg]
     split
     ·simp; omega
     ·rename_i hne
      have h5:=i3 j (by omega) hjd
      refine ⟨h5.1,?_⟩
      rw [List.length_append,List.length_singleton]
      omega
    ·dsimp only at hi ⊢
     by_cases hlt : i < s.2.length
     ·rw [List.getElem_append_left hlt]; exact i4 i hlt
     ·obtain rfl : i = s.2.length:=by simp at hi; omega
      rw [List.getElem_append_right (Nat.le_refl _)]
      simp only [Nat.sub_self,List.getElem_cons_zero]
      refine ⟨nk.kind,?_,fun a ha=>?_,?_⟩
      ·simp only [TJ,List.length_map]; exact nk.num
      ·obtain ⟨b,hb,rfl⟩:=List.mem_map.1 ha
       have h1:=aok b hb
       exact i3 b.toNat h1.2.1 h1.2.2
      ·simp only [TJ,List.length_map]; exact nk.k
    ·dsimp only
     rw [hg]
     split
     ·rename_i e
      subst e
      rw [show ((v : Int) + (s.2.length : Int)).toNat = l0.length + s.2.length by omega]
      have h1:=EC l0 (s.2 ++ [TJ s.1 l[k]]) (k:=s.2.length) (by simp)
      have h2:=EC l0 l hkl
      rw [h1,<- hl,h2,List.take_left']
      ·simp only [List.getElem_append_right (Nat.le_refl _),Nat.sub_self,List.getElem_cons_zero]
       have hc : oD (jh l0 s.2) (TJ s.1 l[k]).args = oD (jh l0 (l.take k)) l[k].args:=by
        refine Qh fun a ha=>?_
        have h3:=aok a ha
        rw [Ez l0 l (by omega) (by omega)]
        exact i5 l0 hl a.toNat h3.2.1 h3.2.2
       rw [hc]
       exact Ua (by simp) _
      ·rfl
     ·rename_i hne
      have h3:=i3 j (by omega) hjd
      rw [jU l0 s.2 _ (by omega)]
      exact i5 l0 hl j (by omega) hjd
   ·rename_i hm
    refine ⟨i1,by omega,fun j hj hjd=>?_,i4,fun l0 hl j hj hjd=>?_⟩
    ·rcases Nat.lt_or_ge j (v + k) with h | h
     ·exact i3 j h hjd
     ·obtain rfl : j = v + k:=by omega
      rcases hjd with h' | h'
      ·omega
      ·exact absurd h' hm
    ·rcases Nat.lt_or_ge j (v + k) with h | h
     ·exact i5 l0 hl j h hjd
     ·obtain rfl : j = v + k:=by omega
      rcases hjd with h' | h'
      ·omega
      ·exact absurd h' hm

def AO (f : Fo) : List Bool:=belF f.vars.toNat f.nodes f.top.toNat
def TG (f : Fo) (k : Nat) : List Int × List Nd:=VP f.vars.toNat f.nodes (AO f) k
def trimF (f : Fo) : Fo:=⟨f.vars,(TG f f.nodes.length).2,CU (TG f f.nodes.length).1 f.top⟩

theorem QZ (f : Fo) (h : qB f) (k : Nat) (hk : k <= f.nodes.length) : TrI f.vars.toNat f.nodes (AO f) k (TG f k):=by
 have h1:=h.vars
 have h4:=h.top
 have ha:=h.args
 have hb:=fun j=>GZ (v:=f.vars.toNat) (l:=f.nodes) (top:=f.top.toNat) (by omega) ha j
 refine Q5 (fun i hi=>?_) (fun i hi hd a haa=>?_) k hk
 ·have:=h.nodes i hi
  rw [show (f.vars.toNat : Int) = f.vars by omega]; exact this
 ·refine .inr ?_
  have h2:=(hb _).1 hd
  exact (hb _).2 (.step h2 hi haa)

theorem QY (f : Fo) (h : qB f) : qB (trimF f) /\ ∀ l0 : List Bool,l0.length = f.vars.toNat -> (jh l0 (trimF f).nodes).getD (trimF f).top.toNat false = (jh l0 f.nodes).getD f.top.toNat false:=by
 have h1:=h.vars
 have h3:=h.len
 have h4:=h.top
 have ti:=QZ f h f.nodes.length (Nat.le_refl _)
 have hb:=fun j=>GZ (v:=f.vars.toNat) (l:=f.nodes) (top:=f.top.toNat) (by omega) h.args j
 have ht : f.top.toNat < f.vars.toNat \/ (AO f).getD f.top.toNat false = true:=.inr ((hb _).2 .root)
 have rf:=ti.ref f.top.toNat (by omega) ht
 have out:=ti.out
 refine ⟨⟨h1,by show (TG f f.nodes.length).2.length <= 128; omega,fun i hi=>?_,?_⟩,fun l0 hl=>?_⟩
 ·have:=ti.nd i hi
  rw [show (f.vars.toNat : Int) = f.vars by omega] at this; exact this
 ·show 0 <= CU _ f.top /\ CU _ f.top < f.vars + _
  unfold CU trimF
  dsimp only
  omega
 ·exact ti.val l0 hl f.top.toNat (by omega) ht

def Ag (n k : Nat) : List Int:=(List.range k).map (fun i : Nat=>(i : Int)) ++ List.replicate (n - k) 0

theorem P9 {n k : Nat} (h : k < n) : (Ag n k).set k (k : Int) = Ag n (k + 1):=by
 unfold Ag
 obtain ⟨m,hm⟩ : ∃ m,n - k = m + 1:=⟨n - k - 1,by omega⟩
 rw [hm,show n - (k + 1) = m by omega,List.set_append_right _ _ (by simp),List.range_succ,List.map_append,List.append_assoc]
 simp [List.replicate_succ]

theorem Ut {n k : Nat} (h : k <= n) : (Ag n k).length = n:=by simp [Ag]; omega

theorem c_fTrim (f : Fo) (h : qB f) : aA Tryz.prog 128 [f.av] [] (.dV [(trimF f).av,.dN]) []:=by
 have cc:=lM f h
 have cb:=Ou f h
 have hbl : (belF f.vars.toNat f.nodes f.top.toNat).length = f.vars.toNat + f.nodes.length:=nD _ _ _ _
 have hinv:=QZ f h
 obtain ⟨h1,h2,h3,h4⟩:=h
 refine aA.intro lay mixed Tryz.func128 (by kernel_rfl) rfl (by kernel_rfl) rfl fun hok=>?_
 (try dsimp only[aZ,aN]);(try dsimp only[ak]);conv=>whnf
 refine .pure _ _ ?_ ⟨rfl,rfl⟩ cc fun _=>?_
 ·exact aj _
 (try dsimp only[ak]);conv=>whnf
 refine ⟨bD (by simp; omega) (by simp; omega),?_⟩
 (try dsimp only[ak]);conv=>whnf
 rw [List.length_map,show f.vars + (f.nodes.length : Int) = ((f.vars.toNat + f.nodes.length : Nat) : Int) by omega]
 refine ⟨⟨by omega,Int.le_refl _,by show ((f.vars.toNat + f.nodes.length : Nat) : Int) * ((8 : Nat) : Int) <= 281474976710656; omega,by omega⟩,.wr ?_⟩
 rw [Int.toNat_natCast]
 (try dsimp only[ak]);conv=>whnf
 refine aK.of <| (aB.inv (.refl _ _) (fun k : Nat=>k <= f.vars.toNat) (fun k=>[(32,.int .i64 k)]) (fun k=>[(3,.arr 1 (f.vars.toNat + f.nodes.length) ((Ag (f.vars.toNat + f.nodes.length) k).map (.int .i64))),(2,.box (.ag [.int .i64 f.vars,.aG,.int .i64 0])),(1,.box (.ag [.int .i64 0,.aG,.int .i64 0])),(0,.box f.av)]) (fun k=>f.vars.toNat - k) 0 (Nat.zero_le _) ?_ ?_ ?_)
 ·exact fun _=>rfl
 ·refine ⟨?_,.mk ?_ (by simp [ay])⟩
  ·all_goals exact wk
  ·repeat' first|exact rfl|exact trivial|exact wR|exact lR _|apply aI
   all_goals first | (show bW (List.replicate _ _) (List.map _ ([] ++ List.replicate _ 0)); rw [List.nil_append,List.map_replicate]; exact aF _) | skip
 intro k hk _
 have hfl:=Ut (n:=f.vars.toNat + f.nodes.length) (k:=k) (by omega)
 (try dsimp only[ak]);conv=>whnf
 refine And.intro (fun g=>?_) (fun g=>?_)
 ·have hlt : k < f.vars.toNat:=by omega
  have hfs:=P9 (n:=f.vars.toNat + f.nodes.length) (k:=k) (by omega)
  generalize Ag (f.vars.toNat + f.nodes.length) k = d at *
  (try dsimp only[ak]);conv=>whnf
  refine ⟨⟨by omega,by omega⟩,?_⟩
  (try dsimp only[ak]);conv=>whnf
  refine ⟨by rw [List.length_map]; omega,rfl,?_⟩
  (try dsimp only[ak]);conv=>whnf
  refine zA ?_;conv=>whnf
  refine ⟨k + 1,?_,?_,?_⟩
  ·exact hlt
  ·rw [<- hfs]
   refine ⟨?_,.mk ?_ (by simp [ay])⟩
   ·all_goals exact wk
   ·repeat' first|exact rfl|exact trivial|exact wR|exact lR _|apply aI
    all_goals (rw [Nat.zero_add,Int.toNat_natCast,List.map_set]; exact aF _)
  ·omega
 have hk : k = f.vars.toNat:=by omega
 subst hk
 clear g
 have e0 : Ag (f.vars.toNat + f.nodes.length) f.vars.toNat = (TG f 0).1:=by
  show _ = _ ++ List.replicate f.nodes.length 0
  unfold Ag
  rw [Nat.add_sub_cancel_left]
 rw [e0]
 have cb' : aA Tryz.prog 225 [f.av] [] (.sl 1 ((AO f).map .bool) .no) []:=cb
 have hbl' : (AO f).length = f.vars.toNat + f.nodes.length:=hbl
 unfold trimF
 have htr : ∀ k,TG f (k + 1) = if (AO f).getD (f.vars.toNat + k) false = true then ((TG f k).1.set (f.vars.toNat + k) ((f.vars.toNat : Int) + (TG f k).2.length),(TG f k).2 ++ [TJ (TG f k).1 (f.nodes.getD k default)]) else TG f k:=fun k=>rfl
 have htr0 : (TG f 0).2 = []:=rfl
 generalize TG f = tr at *
 generalize AO f = d at *
 (try dsimp only[ak]);conv=>whnf
 refine aO.auto (by kernel_rfl) ?_;conv=>whnf
 refine eU.pure _ _ ?_ ⟨rfl,rfl⟩ cb' ?_
 ·exact aj _
 conv=>whnf
 have hle : ((d.map AV.bool).drop f.vars.toNat).take (((d.map AV.bool).length : Int).toNat - f.vars.toNat) = (d.drop f.vars.toNat).map AV.bool:=by
  rw [<- List.map_drop,<- List.map_take,List.take_of_length_le (by simp)]
 refine OX.mk ⟨by simp; omega,?_⟩
 rw [hle]
 conv=>whnf
 have hdl : (d.drop f.vars.toNat).length = f.nodes.length:=by rw [List.length_drop]; omega
 refine aK.of <| (aB.inv (.Jp 2 [1] 3 [] (.ag [.int .i64 f.vars,.aG,.int .i64 0]) .aG _ rfl rfl (.inl ⟨rfl,rfl⟩) rfl (.refl _ _)) (fun k : Nat=>k <= f.nodes.length) (fun k=>[(46,.int .i64 k)]) (fun k=>[(4,.tok 3 (tr k).2.length),(3,.arr 1 (f.vars.toNat + f.nodes.length) ((tr k).1.map (.int .i64))),(2,.box (.ag [.int .i64 f.vars,.sl 3 ((tr k).2.map Nd.av) (.own 4),.int .i64 0])),(1,.box (.ag [.int .i64 0,.aG,.int .i64 0])),(0,.box f.av)]) (fun k=>f.nodes.length - k) 0 (Nat.zero_le _) ?_ ?_ ?_)
 ·exact fun _=>rfl
 ·refine ⟨?_,.mk ?_ (by simp [ay])⟩
  ·all_goals exact wk
  ·repeat' first|exact rfl|exact trivial|exact wR|exact lR _|apply aI
   all_goals first | (rw [htr0]; trivial) | (rw [htr0]; rfl) | skip
 intro k hk _
 have ik:=hinv k hk
 (try dsimp only[ak]);conv=>whnf
 refine And.intro (fun g=>?_) (fun g=>?_)
 ·have hlt : k < f.nodes.length:=by simp at g; omega
  have hs1:=htr k
  have hnl : (f.nodes[k]).args.length <= 16:=by
   have hal:=(h3 _ hlt).num
   split at hal
   ·omega
   ·split at hal <;> omega
  have hna:=(h3 _ hlt).args
  have ex : f.nodes.getD k default = f.nodes[k]:=by rw [List.getD_eq_getElem?_getD,List.getElem?_eq_getElem hlt]; rfl
  rw [ex] at hs1
  (try dsimp only[ak]);conv=>whnf
  refine dI false (by omega) ?_
  rw [show (d.drop f.vars.toNat).getD ((k : Nat) : Int).toNat false = d.getD (f.vars.toNat + k) false by rw [Int.toNat_natCast,List.getD_eq_getElem?_getD,List.getD_eq_getElem?_getD,List.getElem?_drop]]
  (try dsimp only[ak]);conv=>whnf
  refine And.intro (fun g2=>?_) (fun g2=>?_)
  ·have g2' : ¬ d.getD (f.vars.toNat + k) false = true:=by
    intro h; rw [h] at g2; cases g2
   rw [if_neg g2'] at hs1
   (try dsimp only[ak]);conv=>whnf
   refine zA ?_;conv=>whnf
   refine ⟨k + 1,?_,?_,?_⟩
   ·exact hlt
   ·rw [hs1]
    refine ⟨?_,.mk ?_ (by simp [ay])⟩
    ·all_goals exact wk
    ·all_goals exact wk
   ·omega
  have g2' : d.getD (f.vars.toNat + k) false = true:=by
   cases h : d.getD (f.vars.toNat + k) false with
   | true=>rfl
   | false=>rw [h] at g2; cases g2
  rw [if_pos g2'] at hs1
  (try dsimp only[ak]);conv=>whnf
  refine jq hlt ?_
  generalize f.nodes[k] = x at *
  obtain ⟨il,io,ir,ind,iv⟩:=ik
  generalize tr k = st at *
  obtain ⟨to,out⟩:=st
  dsimp only at *
  (try dsimp only[ak]);conv=>whnf
  refine aK.of <| (aB.inv (.Jp 6 [2] 1 [] (.ag [.int .i64 x.kind,.int .i64 x.k,.aG]) .aG _ rfl rfl (.inl ⟨rfl,rfl⟩) rfl (.refl _ _)) (fun j : Nat=>j <= x.args.length) (fun j=>[(66,.int .i64 j)]) (fun j=>[(7,.tok 1 j),(6,.box (.ag [.int .i64 x.kind,.int .i64 x.k,.sl 1 (((x.args.take j).map (CU to)).map (.int .i64)) (.own 7)])),(5,.box x.av),(4,.tok 3 out.length),(3,.arr 1 (f.vars.toNat + f.nodes.length) (to.map (.int .i64))),(2,.box (.ag [.int .i64 f.vars,.sl 3 (out.map Nd.av) (.own 4),.int .i64 0])),(1,.box (.ag [.int .i64 0,.aG,.int .i64 0])),(0,.box f.av)]) (fun j=>x.args.length - j) 0 (Nat.zero_le _) ?_ ?_ ?_)
  ·exact fun _=>rfl
  ·refine ⟨?_,.mk ?_ (by simp [ay])⟩
   ·all_goals exact wk
   ·all_goals exact wk
  intro j hj _
  have htl : ((x.args.take j).map (CU to)).length = j:=by rw [List.length_map,List.length_take]; omega
  (try dsimp only[ak]);conv=>whnf
  refine And.intro (fun g3=>?_) (fun g3=>?_)
  ·have hjl : j < x.args.length:=by simpa using g3
   have ha:=hna _ (List.getElem_mem hjl)
   have ht1 : (x.args.take (j + 1)).map (CU to) = (x.args.take j).map (CU to) ++ [CU to x.args[j]]:=by rw [List.take_succ_eq_append_getElem hjl,List.map_append]; rfl
   (try dsimp only[ak]);conv=>whnf
   refine jq hjl ?_
   generalize x.args[j] = a at *
   (try dsimp only[ak]);conv=>whnf
   refine aO.auto (by kernel_rfl) ?_;conv=>whnf
   refine ⟨⟨by omega,by omega⟩,?_⟩
   conv=>whnf
   rw [Nat.zero_add]
   refine dI 0 ⟨by omega,by omega⟩ ?_
   conv=>whnf
   refine ⟨rfl,?_⟩
   conv=>whnf
   refine ⟨by rw [List.length_map,htl],.mk (by simp [maxL]; omega) (by simp; omega) ?_⟩
   (try dsimp only[ak]);conv=>whnf
   refine zA ?_;conv=>whnf
   refine ⟨j + 1,?_,?_,?_⟩
   ·exact hjl
   ·rw [ht1]
    refine ⟨?_,.mk ?_ (by simp [ay])⟩
    ·all_goals exact wk
    ·repeat' first|exact rfl|exact trivial|exact wR|exact lR _|apply aI
     all_goals first | (simp; omega) | (show bW _ (List.map _ (_ ++ [_])); rw [List.map_append]; exact aF _)
   ·omega
  have hjl : j = x.args.length:=by (have : ¬ j < x.args.length:=by simpa using g3); omega
  subst hjl
  rw [List.take_length]
  (try dsimp only[ak]);conv=>whnf
  refine ⟨bD (by omega) (by omega),?_⟩
  (try dsimp only[ak]);conv=>whnf
  refine ⟨bD (by simp; omega) (by simp; omega),?_⟩
  (try dsimp only[ak]);conv=>whnf
  refine ⟨⟨by omega,by omega⟩,?_⟩
  (try dsimp only[ak]);conv=>whnf
  refine ⟨by rw [List.length_map]; omega,rfl,?_⟩
  (try dsimp only[ak]);conv=>whnf
  refine ⟨by rw [List.length_map],.mk (by simp [maxL]; omega) (by simp; omega) ?_⟩
  (try dsimp only[ak]);conv=>whnf
  refine zA ?_;conv=>whnf
  refine ⟨k + 1,?_,?_,?_⟩
  ·exact hlt
  ·rw [hs1]
   refine ⟨?_,.mk ?_ (by simp [ay])⟩
   ·all_goals exact wk
   ·repeat' first|exact rfl|exact trivial|exact wR|exact lR _|apply aI
    all_goals first | (simp; done) | (show bW _ (List.map _ (_ ++ [_])); rw [List.map_append]; exact aF _) | (rw [List.map_set,Nat.zero_add,List.length_map,show (f.vars + (k : Int)).toNat = f.vars.toNat + k by omega,show f.vars + (out.length : Int) = (f.vars.toNat : Int) + out.length by omega]; exact aF _) | skip
  ·omega
 have hk : k = f.nodes.length:=by simp at g; omega
 subst hk
 obtain ⟨il,io,ir,ind,iv⟩:=ik
 generalize tr f.nodes.length = st at *
 obtain ⟨to,out⟩:=st
 dsimp only at *
 (try dsimp only[ak]);conv=>whnf
 refine ⟨⟨h4.1,by omega⟩,?_⟩
 (try dsimp only[ak]);conv=>whnf
 rw [Nat.zero_add]
 refine dI 0 ⟨by omega,by omega⟩ ?_
 (try dsimp only[ak]);conv=>whnf
 refine ⟨rfl,?_⟩
 (try dsimp only[ak]);conv=>whnf
 refine ⟨⟨_,_,.refl _ _,?_⟩⟩
 conv=>whnf
 refine ⟨?_,rfl,by simp [nextId],.mk ?_ (by simp [ay])⟩
 ·all_goals exact wk
 ·all_goals exact wk

theorem fnLe {f : Nat} {As Bs : List AV} {R : AV} {H H' : Heap} (h : aA Tryz.prog f As H R H') (hle : Iu Bs As) : aA Tryz.prog f Bs H R H' :=
 ⟨h.1,fun c vs hr hv=>h.2 c vs hr (xg hle hv)⟩

theorem ix_hi2 {i : Nat} (h : 7 <= i) : ix [5,2,6,3,4] i = none:=by
 match i,h with
 | k + 7,_=>rfl

theorem MH {n : Nat} {G Y : Heap} : ∀ {X : Heap},(∀ x ∈ X,7 <= x.1) -> lG [5,2,6,3,4] n G (X ++ Y) = X ++ lG [5,2,6,3,4] n G Y
 | [],_=>rfl
 | (i,o) :: X,h=>by
   have hi:=h (i,o) (by simp)
   simp only [List.cons_append,lG,ix_hi2 hi]
   rw [MH fun x hx=>h x (by simp [hx])]

abbrev tb2 (T : Tb) (Y : Heap) : Heap:=(6,.tok 3 T.nodes.length) :: (5,.box (.ag [.sl 1 (T.order.map (.int .i64)) .no,.ms 2 0 T.place.length T.place.length 1,.sl 3 (T.nodes.map Rw) (.own 6),.mp 3,.mp 4])) ::
 (4,.dU IZ (jR T.memo)) :: (3,.dU IZ (jR T.uq)) :: (2,.arr 1 T.place.length (T.place.map (.int .i64))) :: Y

theorem NM {f : Nat} {args As : List AV} {R R' : AV} {T T' : Tb} (X : Heap) {o1 o0 : HO} (hX : ∀ x ∈ X,7 <= x.1) (h : aA Tryz.prog f args (iG T) R (iG T'))
  (ha : ∀ n,DV (sg [5,2,6,3,4] n) args = As) (hR : ∀ n,iO (sg [5,2,6,3,4] n) R = R') (hb : iK 5 args = true) :
  aA Tryz.prog f As (X ++ tb2 T [(1,o1),(0,o0)]) R' (X ++ tb2 T' [(1,o1),(0,o0)]):=by
 have hn : 7 <= nextId (X ++ tb2 T [(1,o1),(0,o0)]):=by
  cases X with
  | nil=>exact Nat.le_refl _
  | cons x X=>have:=hX x (by simp); obtain ⟨i,o⟩:=x; simp [nextId] at this ⊢; omega
 have h1 : ∀ (k : Nat),k < 7 -> ∀ (q : HO -> Prop),iI (X ++ tb2 T [(1,o1),(0,o0)]) k q ↔ iI (tb2 T [(1,o1),(0,o0)]) k q:=fun k hk q=>xq hk hX
 have:=aA.frame (H:=X ++ tb2 T [(1,o1),(0,o0)]) (args:=As) [5,2,6,3,4] h ⟨?_,rfl,rfl,hb⟩ ?_ (by rw [ha]; exact aj _)
 ·rw [hR] at this
  have e : Iy [5,2,6,3,4] (iG T') (X ++ tb2 T [(1,o1),(0,o0)]) = X ++ tb2 T' [(1,o1),(0,o0)]:=by
   unfold Iy
   rw [MH hX]
   show X ++ lG _ _ _ _ = _
   congr 1
   show (6,_) :: (5,_) :: (4,HO.dU IZ (MX _ (jR T'.memo))) :: (3,HO.dU IZ (MX _ (jR T'.uq))) :: _ = _
   rw [qM,qM]
   rfl
  rwa [e] at this
 ·have : ∀ k,k < 7 -> Nat.blt k (nextId (X ++ tb2 T [(1,o1),(0,o0)])) = true:=fun k hk=>by
   exact Nat.ble_eq_true_of_le (by omega)
  simp only [wz,this 2 (by decide),this 3 (by decide),this 4 (by decide),this 5 (by decide),this 6 (by decide)]
 ·refine ⟨(h1 4 (by decide) _).2 ⟨⟨rfl,BH _ _⟩,aC _ _⟩,(h1 3 (by decide) _).2 ⟨⟨rfl,BH _ _⟩,aC _ _⟩,(h1 6 (by decide) _).2 ⟨⟨rfl,rfl⟩,rfl⟩,(h1 2 (by decide) _).2 ⟨⟨rfl,rfl,aF _⟩,rfl⟩,(h1 5 (by decide) _).2 ⟨?_,rfl⟩,trivial⟩
  exact fG _

theorem ix_hi3 {i : Nat} (h : 8 <= i) : ix [6,3,7,4,5] i = none:=by
 match i,h with
 | k + 8,_=>rfl

theorem MG {n : Nat} {G Y : Heap} : ∀ {X : Heap},(∀ x ∈ X,8 <= x.1) -> lG [6,3,7,4,5] n G (X ++ Y) = X ++ lG [6,3,7,4,5] n G Y
 | [],_=>rfl
 | (i,o) :: X,h=>by
   have hi:=h (i,o) (by simp)
   simp only [List.cons_append,lG,ix_hi3 hi]
   rw [MG fun x hx=>h x (by simp [hx])]

abbrev VT (T : Tb) (Y : Heap) : Heap:=(7,.tok 3 T.nodes.length) :: (6,.box (.ag [.sl 1 (T.order.map (.int .i64)) .no,.ms 3 0 T.place.length T.place.length 1,.sl 3 (T.nodes.map Rw) (.own 7),.mp 4,.mp 5])) ::
 (5,.dU IZ (jR T.memo)) :: (4,.dU IZ (jR T.uq)) :: (3,.arr 1 T.place.length (T.place.map (.int .i64))) :: Y

theorem Iz {f : Nat} {args As : List AV} {R R' : AV} {T T' : Tb} (X : Heap) {o2 o1 o0 : HO} (hX : ∀ x ∈ X,8 <= x.1) (h : aA Tryz.prog f args (iG T) R (iG T'))
  (ha : ∀ n,DV (sg [6,3,7,4,5] n) args = As) (hR : ∀ n,iO (sg [6,3,7,4,5] n) R = R') (hb : iK 5 args = true) :
  aA Tryz.prog f As (X ++ VT T [(2,o2),(1,o1),(0,o0)]) R' (X ++ VT T' [(2,o2),(1,o1),(0,o0)]):=by
 have hn : 8 <= nextId (X ++ VT T [(2,o2),(1,o1),(0,o0)]):=by
  cases X with
  | nil=>exact Nat.le_refl _
  | cons x X=>have:=hX x (by simp); obtain ⟨i,o⟩:=x; simp [nextId] at this ⊢; omega
 have h1 : ∀ (k : Nat),k < 8 -> ∀ (q : HO -> Prop),iI (X ++ VT T [(2,o2),(1,o1),(0,o0)]) k q ↔ iI (VT T [(2,o2),(1,o1),(0,o0)]) k q:=fun k hk q=>xq hk hX
 have:=aA.frame (H:=X ++ VT T [(2,o2),(1,o1),(0,o0)]) (args:=As) [6,3,7,4,5] h ⟨?_,rfl,rfl,hb⟩ ?_ (by rw [ha]; exact aj _)
 ·rw [hR] at this
  have e : Iy [6,3,7,4,5] (iG T') (X ++ VT T [(2,o2),(1,o1),(0,o0)]) = X ++ VT T' [(2,o2),(1,o1),(0,o0)]:=by
   unfold Iy
   rw [MG hX]
   show X ++ lG _ _ _ _ = _
   congr 1
   show (7,_) :: (6,_) :: (5,HO.dU IZ (MX _ (jR T'.memo))) :: (4,HO.dU IZ (MX _ (jR T'.uq))) :: _ = _
   rw [qM,qM]
   rfl
  rwa [e] at this
 ·have : ∀ k,k < 8 -> Nat.blt k (nextId (X ++ VT T [(2,o2),(1,o1),(0,o0)])) = true:=fun k hk=>by
   exact Nat.ble_eq_true_of_le (by omega)
  simp only [wz,this 3 (by decide),this 4 (by decide),this 5 (by decide),this 6 (by decide),this 7 (by decide)]
 ·refine ⟨(h1 5 (by decide) _).2 ⟨⟨rfl,BH _ _⟩,aC _ _⟩,(h1 4 (by decide) _).2 ⟨⟨rfl,BH _ _⟩,aC _ _⟩,(h1 7 (by decide) _).2 ⟨⟨rfl,rfl⟩,rfl⟩,(h1 3 (by decide) _).2 ⟨⟨rfl,rfl,aF _⟩,rfl⟩,(h1 6 (by decide) _).2 ⟨?_,rfl⟩,trivial⟩
  exact fG _


def l0 (v : Nat) (t : Int -> Bool) : List Bool:=(List.range v).map fun i : Nat=>t (i : Int)

theorem KH (v : Nat) (t : Int -> Bool) : (l0 v t).length = v:=by simp [l0]
theorem l0_get (v : Nat) (t : Int -> Bool) {j : Nat} (h : j < v) : (l0 v t).getD j false = t (j : Int):=by
 unfold l0
 rw [List.getD_eq_getElem?_getD,List.getElem?_map,List.getElem?_range h]; rfl

theorem Dl (v : List Bool) : ∀ (args : List Int),oD v args = args.countP fun a=>v.getD a.toNat false:=by
 have k1 : ∀ (args : List Int) (n : Nat),args.foldl (fun n a=>if v.getD a.toNat false = true then n + 1 else n) n = n + args.countP fun a=>v.getD a.toNat false:=by
  intro args
  induction args with
  | nil=>intro n; simp
  | cons a l ih =>
    intro n
    rw [List.foldl_cons,ih,List.countP_cons]
    by_cases hf : v.getD a.toNat false = true
    ·rw [if_pos hf,if_pos hf]; omega
    ·rw [if_neg hf,if_neg hf]; omega
 intro args
 unfold oD
 rw [k1,Nat.zero_add]

theorem cB_cntT {T : Tb} {t : Int -> Bool} {to : List Int} {u : List Bool} : ∀ {args : List Int},(∀ a ∈ args,ev T.nodes t (to.getD a.toNat 0) = u.getD a.toNat false) -> cB T t (args.map (CU to)) = oD u args:=by
 intro args h
 rw [Dl]
 unfold cB
 rw [List.countP_map]
 induction args with
 | nil=>rfl
 | cons a l ih =>
   rw [List.countP_cons,List.countP_cons,ih fun b hb=>h b (by simp [hb])]
   have e : ((fun r=>ev T.nodes t r) ∘ CU to) a = u.getD a.toNat false:=h a (by simp)
   rw [e]

structure BdI (g : Fo) (T0 : Tb) (Z : Nat) (k : Nat) (s : ImS) : Prop where
 good : bJ s.T
 ext : Xt T0 s.T
 len : s.refs.length = g.vars.toNat + g.nodes.length
 all : ∀ j : Nat,j < k -> s.T.Rf (s.refs.getD j 0) /\ ∀ t,ev s.T.nodes t (s.refs.getD j 0) = (jh (l0 g.vars.toNat t) g.nodes).getD j false
 size : s.T.nodes.length <= Z

def BdR1 (k : Nat) (s s' : ImS) : Prop:=∃ x,aA Tryz.prog 129 [.ptr 0 [] 0,.int .i64 (k : Int)] (iG s.T) (.int .i64 x) (iG s'.T) /\ s'.refs = s.refs.set k x

theorem YA {g : Fo} {T0 : Tb} {Z k : Nat} {s : ImS} (hZ : Z <= 100000000) (hk : k < g.vars.toNat) (hn : T0.n = g.vars.toNat) (h : BdI g T0 Z k s) : ∃ s',BdI g T0 (Z + 1) (k + 1) s' /\ BdR1 k s s':=by
 obtain ⟨hg,hx,hl,ha,hz⟩:=h
 have hnn : s.T.n = g.vars.toNat:=by rw [hx.n,hn]
 have hp:=hg.Y4 (k : Int) (by omega) (by omega)
 have hl0 : s.T.lvl 0 = s.T.n:=if_pos (by omega)
 have hl1 : s.T.lvl 1 = s.T.n:=if_pos (by omega)
 obtain ⟨m1,m2,m3,m4,m5,m6,m7⟩:=wY hg (v:=(k : Int)) (lo:=0) (hi:=1) ⟨by omega,by omega⟩ (.zero _) (.one _) (by omega) (by omega)
 have c:=Oq s.T (k : Int) (by omega)
 generalize s.T.make (k : Int) 0 1 = q at *
 refine ⟨⟨q.1,s.refs.set k q.2⟩,⟨m1,hx.trans m2,by simp [hl],fun j hj=>?_,by show q.1.nodes.length <= _; omega⟩,q.2,c,rfl⟩
 dsimp only
 rw [jv (by omega)]
 split
 ·rename_i e
  subst e
  refine ⟨m3,fun t=>?_⟩
  have:=jU (l0 g.vars.toNat t) [] g.nodes (j:=j) (by rw [KH]; simpa using hk)
  rw [m7,oC,yL]
  rw [List.nil_append] at this
  rw [this]
  show _ = (l0 g.vars.toNat t).getD j false
  rw [l0_get _ _ hk]
  cases t (j : Int) <;> rfl
 ·have:=ha j (by omega)
  exact ⟨m2.rf this.1,fun t=>by rw [m2.ev this.1]; exact this.2 t⟩

def BdR2 (g : Fo) (i : Nat) (s s' : ImS) : Prop :=
 ∃ x,aA Tryz.prog 130 [.ptr 0 [] 0,(g.nodes.getD i default).av,iL ((g.nodes.getD i default).args.map (CU s.refs))] (iG s.T) (.int .i64 x) (iG s'.T) /\ s'.refs = s.refs.set (g.vars.toNat + i) x /\
   aA Tryz.prog 54 [.ptr 0 [] 0,.int .i64 x,.int .i64 4096] (iG s'.T) .tt (iG s'.T)

theorem Yz {g : Fo} (hok : qB g) {N : Nat} (hN : N <= 12) (hv : g.vars <= N) {T0 : Tb} {Z i : Nat} {s : ImS} (hZ : Z + 600 * 2 ^ N <= 1000000000) (hi : i < g.nodes.length) (hn : T0.n = g.vars.toNat) (h : BdI g T0 Z (g.vars.toNat + i) s) :
  ∃ s',BdI g T0 (Z + 600 * 2 ^ N) (g.vars.toNat + i + 1) s' /\ BdR2 g i s s':=by
 obtain ⟨hg,hx,hl,ha,hz⟩:=h
 have hvs:=hok.vars
 have hnn : s.T.n = g.vars.toNat:=by rw [hx.n,hn]
 have nk:=hok.nodes i hi
 have ex : g.nodes.getD i default = g.nodes[i]:=by rw [List.getD_eq_getElem?_getD,List.getElem?_eq_getElem hi]; rfl
 have hrf : ∀ a ∈ g.nodes[i].args,a.toNat < g.vars.toNat + i:=fun a haa=>by have:=nk.args a haa; omega
 obtain ⟨T',r,c,p⟩:=c_dnode N s.T hg (by omega) g.vars i g.nodes[i] nk (g.nodes[i].args.map (CU s.refs)) (by simp) (fun r hr=>by
  obtain ⟨a,haa,rfl⟩:=List.mem_map.1 hr
  exact (ha a.toNat (hrf a haa)).1) (by omega)
 have p5:=p.size
 have csm:=Om N hN T' p.good (by omega) (by rw [p.ext.n]; omega) r p.rf
 refine ⟨⟨T',s.refs.set (g.vars.toNat + i) r⟩,⟨p.good,hx.trans p.ext,by simp [hl],fun j hj=>?_,by show T'.nodes.length <= _; omega⟩,r,by rw [ex]; exact c,rfl,csm⟩
 dsimp only
 rw [jv (by omega)]
 split
 ·rename_i e
  subst e
  refine ⟨p.rf,fun t=>?_⟩
  have h1:=EC (l0 g.vars.toNat t) g.nodes hi
  rw [KH] at h1
  rw [p.val t,h1]
  congr 1
  refine cB_cntT fun a haa=>?_
  rw [(ha a.toNat (hrf a haa)).2 t]
  exact (Ez (l0 g.vars.toNat t) g.nodes (by rw [KH]; exact hrf a haa) (by omega)).symm
 ·have:=ha j (by omega)
  exact ⟨p.ext.rf this.1,fun t=>by rw [p.ext.ev this.1]; exact this.2 t⟩

theorem lF.tr {T T' : Tb} (h : Xt T T') {ns : List Node} {k : Nat} {x : Node} (g : lF T' ns k x) : lF T ns k x:=by
 have e : ∀ r,lW T' ns r = lW T ns r:=fun r=>by unfold lW; rw [h.n,h.pl]
 obtain ⟨a,b,c,d,f⟩:=g
 rw [h.n] at a
 rw [h.pl,e] at d f
 exact ⟨a,b,c,d,f⟩

structure NrF (f g : Fo) : Prop where
 ok : qB g
 vars : g.vars = f.vars
 val : ∀ l0 : List Bool,l0.length = f.vars.toNat -> (jh l0 g.nodes).getD g.top.toNat false = (jh l0 f.nodes).getD f.top.toNat false

theorem IX (v : Nat) (l : List Nd) (d : List Bool) : ∀ n,(lS v l d n).1 = 0 -> ∀ i < n,d.getD (v + i) false = false
 | 0,_,i,hi=>absurd hi (Nat.not_lt_zero _)
 | n + 1,h,i,hi=>by
   rw [EN] at h
   split at h
   ·simp at h
   ·rename_i hm
    by_cases e : i = n
    ·subst e; simpa using hm
    ·exact IX v l d n h i (by omega)

theorem Zt (f : Fo) (h : qB f) : NrF f (trimF f):=⟨(QY f h).1,rfl,(QY f h).2⟩
theorem nr_nil (f : Fo) (h : qB f) (hz : (lS f.vars.toNat f.nodes (AO f) f.nodes.length).1 = 0) : NrF f ⟨f.vars,[],f.top⟩:=by
 have h1:=h.vars
 have h4:=h.top
 have hb:=fun j=>GZ (v:=f.vars.toNat) (l:=f.nodes) (top:=f.top.toNat) (by omega) h.args j
 have ht : f.top.toNat < f.vars.toNat:=by
  apply Classical.byContradiction
  intro hn
  have:=IX _ _ _ _ hz (f.top.toNat - f.vars.toNat) (by omega)
  rw [show f.vars.toNat + (f.top.toNat - f.vars.toNat) = f.top.toNat by omega] at this
  have h2:=(hb f.top.toNat).2 .root
  unfold AO at this
  rw [h2] at this
  cases this
 refine ⟨⟨h1,by simp,fun i hi=>absurd hi (Nat.not_lt_zero _),h4.1,by show f.top < f.vars + 0; omega⟩,rfl,fun l0 hl=>?_⟩
 have:=jU l0 [] f.nodes (j:=f.top.toNat) (by rw [hl,List.length_nil]; omega)
 exact this.symm

abbrev bdX (v : Nat) (refs : List Int) : Nat × HO:=(7,.arr 1 v (refs.map (.int .i64)))

theorem GK {N : Nat} (hN : N <= 7) (f : Fo) (h : qB f) (hv : f.vars <= N) {o : List Int} (ho : sH o f.vars.toNat) :
  ∃ ns x,aA Tryz.prog 51 [f.av,iL o] [] (.dV [yg o ns x,.dN]) [] /\ (∀ (k : Nat) (h : k < ns.length),lF (Tb.new o) ns k ns[k]) /\ 0 <= x /\ x < 2 + (ns.length : Int) /\ (∀ t,ev ns t x = (jh (l0 f.vars.toNat t) f.nodes).getD f.top.toNat false) /\ ns.length <= 128:=by
 have hvs:=h.vars
 have hol:=ho.len
 have key : ∃ (g : Fo) (b : Bool),NrF f g /\ (if b = true then g = trimF f /\ 0 < (lS f.vars.toNat f.nodes (AO f) f.nodes.length).1 else g = ⟨f.vars,[],f.top⟩ /\ (lS f.vars.toNat f.nodes (AO f) f.nodes.length).1 = 0):=by
  by_cases hz : (lS f.vars.toNat f.nodes (AO f) f.nodes.length).1 = 0
  ·exact ⟨_,false,nr_nil f h hz,by simp [hz]⟩
  ·exact ⟨_,true,Zt f h,by simp; omega⟩
 obtain ⟨g,b,nr,hb⟩:=key
 have hgv:=nr.vars
 have hgl:=nr.ok.len
 have hpow : 2 ^ N <= 2 ^ 7:=Nat.pow_le_pow_right (by decide) hN
 have hT0 : bJ (Tb.new o):=Fj ho (by omega)
 have hn0 : (Tb.new o).n = g.vars.toNat:=by show (o.length : Int) = _; omega
 obtain ⟨F,F0,F1,F2⟩:=pK (fun k s=>BdI g (Tb.new o) k k s) BdR1 g.vars.toNat ⟨Tb.new o,List.replicate (g.vars.toNat + g.nodes.length) 0⟩
  ⟨hT0,.refl _,by simp,fun j hj=>absurd hj (Nat.not_lt_zero _),Nat.le_refl _⟩ (fun k s hk hs=>YA (by omega) hk hn0 hs)
 obtain ⟨G,G0,G1,G2⟩:=pK (fun k s=>BdI g (Tb.new o) (g.vars.toNat + k * (600 * 2 ^ N)) (g.vars.toNat + k) s) (BdR2 g) g.nodes.length (F g.vars.toNat)
  (by have:=F1 g.vars.toNat (Nat.le_refl _); simpa using this) (fun k s hk hs=>by
   have h1 : k * (600 * 2 ^ N) <= 128 * (600 * 2 ^ 7):=Nat.mul_le_mul (by omega) (by omega)
   have:=Yz (N:=N) nr.ok (by omega) (by omega) (by omega) hk hn0 hs
   rw [show g.vars.toNat + (k + 1) * (600 * 2 ^ N) = g.vars.toNat + k * (600 * 2 ^ N) + 600 * 2 ^ N by rw [Nat.add_mul]; omega]
   exact this)
 have last:=G1 g.nodes.length (Nat.le_refl _)
 have hsz:=last.size
 have h1 : g.nodes.length * (600 * 2 ^ N) <= 128 * (600 * 2 ^ 7):=Nat.mul_le_mul (by omega) (by omega)
 have gtop:=nr.ok.top
 have gvars:=nr.ok.vars
 have lt:=last.all g.top.toNat (by omega)
 have hnG : (G g.nodes.length).T.n = g.vars.toNat:=by rw [last.ext.n,hn0]
 obtain ⟨ns,x,c,c1,c2,c3,c4,c5⟩:=UW (G g.nodes.length).T last.good (by omega) (by
  rw [hnG,Int.toNat_natCast]
  have : 2 ^ g.vars.toNat <= 2 ^ 7:=Nat.pow_le_pow_right (by decide) (by omega)
  omega) _ lt.1
 have hord : (G g.nodes.length).T.order = o:=last.ext.order
 rw [hord] at c
 refine ⟨ns,x,?_,fun k hk=>(c1 k hk).tr last.ext,c2,c3,fun t=>?_,?_⟩
 ·have cs:=c_fSize f h
  have ct:=c_fTrim f h
  have co:=Yj ho (by omega)
  have cn:=X5 ho (by omega)
  have hFG:=G0.symm
  have hbelO : belF f.vars.toNat f.nodes f.top.toNat = AO f:=rfl
  rw [hbelO] at cs
  generalize lS f.vars.toNat f.nodes (AO f) f.nodes.length = sz at *
  rw [show (f.vars.toNat : Int) = f.vars by omega] at co
  refine aA.intro lay mixed Tryz.func51 (by kernel_rfl) rfl (by kernel_rfl) rfl fun hok=>?_
  (try dsimp only[aZ,aN]);(try dsimp only[ak]);conv=>whnf
  refine .pure _ _ ?_ ⟨rfl,rfl⟩ cs fun _=>?_
  ·exact aj _
  (try dsimp only[ak]);conv=>whnf
  refine .pure _ _ ?_ ⟨rfl,rfl⟩ co fun _=>?_
  ·exact aj _
  (try dsimp only[ak]);conv=>whnf
  refine And.intro (fun g1=>?_) (fun g1=>?_)
  ·cases b with
   | false=>exfalso; simp at hb; omega
   | true =>
     obtain ⟨rfl,hb⟩:=hb
     generalize trimF f = g at *
     (try dsimp only[ak]);conv=>whnf
     refine .pure _ _ ?_ ⟨rfl,rfl⟩ ct fun _=>?_
     ·exact aj _
     (try dsimp only[ak]);conv=>whnf
     refine .gen _ _ (aA.frame [] cn ⟨rfl,rfl,rfl,rfl⟩ trivial (aj _)) fun _=>?_
     (try dsimp only[ak]);conv=>whnf
     rw [List.length_map]
     refine ⟨bD (by omega) (by omega),?_⟩
     (try dsimp only[ak]);conv=>whnf
     rw [show g.vars + (g.nodes.length : Int) = ((g.vars.toNat + g.nodes.length : Nat) : Int) by omega]
     refine ⟨⟨by omega,Int.le_refl _,by show ((g.vars.toNat + g.nodes.length : Nat) : Int) * ((8 : Nat) : Int) <= 281474976710656; omega,by omega⟩,.wr ?_⟩
     rw [Int.toNat_natCast]
     (try dsimp only[ak]);conv=>whnf
     refine aK.of <| (aB.inv (.refl _ _) (fun k : Nat=>k <= g.vars.toNat) (fun k=>[(59,.int .i64 k)]) (fun k=>bdX (g.vars.toNat + g.nodes.length) (F k).refs :: tb2 (F k).T [(1,.box O1),(0,.box g.av)]) (fun k=>g.vars.toNat - k) 0 (Nat.zero_le _) ?_ ?_ ?_)
     ·exact fun _=>rfl
     ·rw [F0]
      refine ⟨?_,.mk ?_ (by simp [ay])⟩
      ·all_goals exact wk
      ·repeat' first|exact rfl|exact trivial|exact wR|exact lR _|apply aI
       all_goals first | (rw [List.eq_nil_of_length_eq_zero hgn]; rfl) | (show bW (List.replicate _ _) (List.map _ (List.replicate _ 0)); rw [List.map_replicate]; exact aF _) | (show le0 _ (AV.ms 2 0 (oq o o.length).length (oq o o.length).length 1); rw [jL]; rfl) | exact jL _ _ | exact (jL _ _).symm | skip
     intro k hk _
     have fk:=F1 k hk
     have fkl:=fk.len
     (try dsimp only[ak]);conv=>whnf
     refine And.intro (fun h=>?_) (fun h=>?_)
     ·have hlt : k < g.vars.toNat:=by omega
      obtain ⟨x,q,e⟩:=F2 k hlt
      (try dsimp only[ak]);conv=>whnf
      refine .gen _ _ (NM [(7,_)] (by simp) q (fun _=>rfl) (fun _=>rfl) rfl) fun _=>?_
      (try dsimp only[ak]);conv=>whnf
      refine ⟨⟨by omega,by omega⟩,?_⟩
      (try dsimp only[ak]);conv=>whnf
      refine ⟨by rw [List.length_map]; omega,rfl,?_⟩
      (try dsimp only[ak]);conv=>whnf
      refine zA ?_;conv=>whnf
      refine ⟨k + 1,?_,?_,?_⟩
      ·exact hlt
      ·rw [e]
       refine ⟨?_,.mk ?_ (by simp [ay])⟩
       ·all_goals exact wk
       ·repeat' first|exact rfl|exact trivial|exact wR|exact lR _|apply aI
        all_goals first | exact aJ _ | exact aC _ _ | (rw [Nat.zero_add,Int.toNat_natCast,List.map_set]; exact aF _) | skip
      ·omega
     have hk : k = g.vars.toNat:=by omega
     subst hk
     clear h fkl fk
     rw [hFG]
     (try dsimp only[ak]);conv=>whnf
     refine aK.of <| (aB.inv (.refl _ _) (fun k : Nat=>k <= g.nodes.length) (fun k=>[(72,.int .i64 k)]) (fun k=>bdX (g.vars.toNat + g.nodes.length) (G k).refs :: tb2 (G k).T [(1,.box O1),(0,.box g.av)]) (fun k=>g.nodes.length - k) 0 (Nat.zero_le _) ?_ ?_ ?_)
     ·exact fun _=>rfl
     ·refine ⟨?_,.mk ?_ (by simp [ay])⟩
      ·all_goals exact wk
      ·repeat' first|exact rfl|exact trivial|exact wR|exact lR _|apply aI
       all_goals first | exact aJ _ | exact aC _ _ | skip
     intro k hk _
     have fk:=G1 k hk
     have fkl:=fk.len
     refine And.intro (fun h=>?_) (fun h=>?_)
     ·have hlt : k < g.nodes.length:=by simp at h; omega
      obtain ⟨x,q,e,qs⟩:=G2 k hlt
      have ex : g.nodes.getD k default = g.nodes[k]:=by rw [List.getD_eq_getElem?_getD,List.getElem?_eq_getElem hlt]; rfl
      have nk:=nr.ok.nodes k hlt
      have hnl : (g.nodes[k]).args.length <= 16:=by
       have hal:=nk.num
       split at hal
       ·omega
       ·split at hal <;> omega
      have hna:=nk.args
      rw [ex] at q
      (try dsimp only[ak]);conv=>whnf
      refine jq hlt ?_
      generalize g.nodes[k] = nd at *
      generalize G k = s at *
      (try dsimp only[ak]);conv=>whnf
      refine aK.of <| (aB.inv (.grow 15 1 [] .aG rfl (.inl ⟨rfl,rfl⟩) (.refl _ _)) (fun j : Nat=>j <= nd.args.length) (fun j=>[(80,.int .i64 j),(15,.sl 1 (((nd.args.take j).map (CU s.refs)).map (.int .i64)) (.own 9))]) (fun j=>(9,.tok 1 j) :: (8,.box nd.av) :: bdX (g.vars.toNat + g.nodes.length) s.refs :: tb2 s.T [(1,.box O1),(0,.box g.av)]) (fun j=>nd.args.length - j) 0 (Nat.zero_le _) ?_ ?_ ?_)
      ·exact fun _=>rfl
      ·refine ⟨?_,.mk ?_ (by simp [ay])⟩
       ·all_goals exact wk
       ·repeat' first|exact rfl|exact trivial|exact wR|exact lR _|apply aI
        all_goals first | exact aJ _ | exact aC _ _ | skip
      intro j hj _
      have htl : ((nd.args.take j).map (CU s.refs)).length = j:=by rw [List.length_map,List.length_take]; omega
      (try dsimp only[ak]);conv=>whnf
      refine And.intro (fun g3=>?_) (fun g3=>?_)
      ·have hjl : j < nd.args.length:=by simpa using g3
       have ha:=hna _ (List.getElem_mem hjl)
       have ht1 : (nd.args.take (j + 1)).map (CU s.refs) = (nd.args.take j).map (CU s.refs) ++ [CU s.refs nd.args[j]]:=by rw [List.take_succ_eq_append_getElem hjl,List.map_append]; rfl
       (try dsimp only[ak]);conv=>whnf
       refine jq hjl ?_
       generalize nd.args[j] = a at *
       (try dsimp only[ak]);conv=>whnf
       refine ⟨⟨by omega,by omega⟩,?_⟩
       (try dsimp only[ak]);conv=>whnf
       rw [Nat.zero_add]
       refine dI 0 ⟨by omega,by omega⟩ ?_
       (try dsimp only[ak]);conv=>whnf
       refine ⟨rfl,?_⟩
       (try dsimp only[ak]);conv=>whnf
       refine ⟨by rw [List.length_map,htl],.mk (by simp [maxL]; omega) (by simp; omega) ?_⟩
       (try dsimp only[ak]);conv=>whnf
       refine zA ?_;conv=>whnf
       refine ⟨j + 1,?_,?_,?_⟩
       ·exact hjl
       ·rw [ht1]
        refine ⟨?_,.mk ?_ (by simp [ay])⟩
        ·repeat' first|exact rfl|exact trivial|exact wR|exact lR _|apply aI
         all_goals first | (show bW _ (List.map _ (_ ++ [_])); rw [List.map_append]; exact aF _) | skip
        ·repeat' first|exact rfl|exact trivial|exact wR|exact lR _|apply aI
         all_goals first | exact aJ _ | exact aC _ _ | (simp; omega) | skip
       ·omega
      have hjl : j = nd.args.length:=by (have : ¬ j < nd.args.length:=by simpa using g3); omega
      subst hjl
      rw [List.take_length]
      (try dsimp only[ak]);conv=>whnf
      refine aO.late [2] ⟨[true,true,false,true,true,true,false,true,false,true,false],by kernel_rfl,?_⟩
      conv=>whnf
      refine ⟨bD (by omega) (by omega),?_⟩
      conv=>whnf
      refine .gen _ _ (fnLe (NM (As:=[.ptr 5 [] 0,nd.av,iL (nd.args.map (CU s.refs))]) [(9,_),(8,_),(7,_)] (by simp) q (fun _=>rfl) (fun _=>rfl) rfl) ?_) fun _=>?_
      ·all_goals exact wk
      conv=>whnf
      (refine aI (by (conv=>whnf)<;>exact rfl) ?_;(conv=>whnf))
      refine ⟨⟨by omega,by omega⟩,?_⟩
      conv=>whnf
      refine ⟨by rw [List.length_map]; omega,rfl,?_⟩
      conv=>whnf
      (refine aI (by (conv=>whnf)<;>exact rfl) ?_;(conv=>whnf))
      refine ⟨bD (by omega) (by omega),?_⟩
      (try dsimp only[ak]);conv=>whnf
      refine ⟨⟨by omega,by omega⟩,?_⟩
      rw [show (List.map (AV.int .i64) s.refs).set (0 + (g.vars + (k : Int)).toNat) (strip (.int .i64 x)) = (s.refs.set (g.vars.toNat + k) x).map (.int .i64) from by rw [List.map_set,Nat.zero_add,show (g.vars + (k : Int)).toNat = g.vars.toNat + k by omega]; rfl]
      rw [<- e]
      (try dsimp only[ak]);conv=>whnf
      have fk1:=(G1 (k + 1) hlt).len
      have ev1 : (G (k + 1)).refs.getD (g.vars.toNat + k) 0 = x:=by rw [e,jv (by omega),if_pos rfl]
      rw [show 0 + (g.vars + (k : Int)).toNat = g.vars.toNat + k by omega]
      refine dI 0 ⟨by omega,by omega⟩ ?_
      rw [Int.toNat_natCast,ev1]
      (try dsimp only[ak]);conv=>whnf
      refine ⟨rfl,?_⟩
      (try dsimp only[ak]);conv=>whnf
      refine .gen _ _ (NM (As:=[.ptr 5 [] 0,.int .i64 x,.int .i64 4096]) [(9,_),(8,_),(7,_)] (by simp) qs (fun _=>rfl) (fun _=>rfl) rfl) fun _=>?_
      (try dsimp only[ak]);conv=>whnf
      refine zA ?_;conv=>whnf
      refine ⟨k + 1,?_,?_,?_⟩
      ·exact hlt
      ·refine ⟨?_,.mk ?_ (by simp [ay])⟩
       ·all_goals exact wk
       ·repeat' first|exact rfl|exact trivial|exact wR|exact lR _|apply aI
        all_goals first | exact aJ _ | exact aC _ _ | skip
      ·omega
     have hk : k = g.nodes.length:=by simp at h; omega
     subst hk
     generalize G g.nodes.length = s at *
     (try dsimp only[ak]);conv=>whnf
     refine ⟨⟨by omega,by omega⟩,?_⟩
     (try dsimp only[ak]);conv=>whnf
     rw [Nat.zero_add]
     refine dI 0 ⟨by omega,by omega⟩ ?_
     rw [Int.toNat_natCast]
     (try dsimp only[ak]);conv=>whnf
     refine ⟨rfl,?_⟩
     (try dsimp only[ak]);conv=>whnf
     refine .gen _ _ (NM (As:=[.ptr 5 [] 0,.int .i64 (s.refs.getD g.top.toNat 0)]) (R':=yg o ns x) [(7,_)] (by simp) c (fun _=>rfl) (fun _=>rfl) rfl) fun _=>?_
     (try dsimp only[ak]);conv=>whnf
     refine ⟨⟨_,_,.refl _ _,?_⟩⟩
     conv=>whnf
     refine ⟨?_,rfl,by simp [nextId],.mk ?_ (by simp [ay])⟩
     ·all_goals exact wk
     ·all_goals exact wk
  ·cases b with
   | true=>exfalso; simp at hb; omega
   | false =>
     obtain ⟨hge,hb⟩:=hb
     have hgn : g.nodes.length = 0:=by rw [hge]; rfl
     have hnil : AV.ag [.int .i64 f.vars,.aG,.int .i64 f.top] = AV.ag [.int .i64 g.vars,.aG,.int .i64 g.top]:=by rw [hge]
     (try dsimp only[ak]);conv=>whnf
     refine .gen _ _ (aA.frame [] cn ⟨rfl,rfl,rfl,rfl⟩ trivial (aj _)) fun _=>?_
     (try dsimp only[ak]);conv=>whnf
     refine ⟨bD (by omega) (by omega),?_⟩
     (try dsimp only[ak]);conv=>whnf
     rw [show f.vars + (0 : Int) = ((g.vars.toNat + g.nodes.length : Nat) : Int) by omega]
     refine ⟨⟨by omega,Int.le_refl _,by show ((g.vars.toNat + g.nodes.length : Nat) : Int) * ((8 : Nat) : Int) <= 281474976710656; omega,by omega⟩,.wr ?_⟩
     rw [Int.toNat_natCast]
     rw [hnil]
     (try dsimp only[ak]);conv=>whnf
     refine aK.of <| (aB.inv (.refl _ _) (fun k : Nat=>k <= g.vars.toNat) (fun k=>[(59,.int .i64 k)]) (fun k=>bdX (g.vars.toNat + g.nodes.length) (F k).refs :: tb2 (F k).T [(1,.box O1),(0,.box g.av)]) (fun k=>g.vars.toNat - k) 0 (Nat.zero_le _) ?_ ?_ ?_)
     ·exact fun _=>rfl
     ·rw [F0]
      refine ⟨?_,.mk ?_ (by simp [ay])⟩
      ·all_goals exact wk
      ·repeat' first|exact rfl|exact trivial|exact wR|exact lR _|apply aI
       all_goals first | (rw [List.eq_nil_of_length_eq_zero hgn]; rfl) | (show bW (List.replicate _ _) (List.map _ (List.replicate _ 0)); rw [List.map_replicate]; exact aF _) | (show le0 _ (AV.ms 2 0 (oq o o.length).length (oq o o.length).length 1); rw [jL]; rfl) | exact jL _ _ | exact (jL _ _).symm | skip
     intro k hk _
     have fk:=F1 k hk
     have fkl:=fk.len
     (try dsimp only[ak]);conv=>whnf
     refine And.intro (fun h=>?_) (fun h=>?_)
     ·have hlt : k < g.vars.toNat:=by omega
      obtain ⟨x,q,e⟩:=F2 k hlt
      (try dsimp only[ak]);conv=>whnf
      refine .gen _ _ (NM [(7,_)] (by simp) q (fun _=>rfl) (fun _=>rfl) rfl) fun _=>?_
      (try dsimp only[ak]);conv=>whnf
      refine ⟨⟨by omega,by omega⟩,?_⟩
      (try dsimp only[ak]);conv=>whnf
      refine ⟨by rw [List.length_map]; omega,rfl,?_⟩
      (try dsimp only[ak]);conv=>whnf
      refine zA ?_;conv=>whnf
      refine ⟨k + 1,?_,?_,?_⟩
      ·exact hlt
      ·rw [e]
       refine ⟨?_,.mk ?_ (by simp [ay])⟩
       ·all_goals exact wk
       ·repeat' first|exact rfl|exact trivial|exact wR|exact lR _|apply aI
        all_goals first | exact aJ _ | exact aC _ _ | (rw [Nat.zero_add,Int.toNat_natCast,List.map_set]; exact aF _) | skip
      ·omega
     have hk : k = g.vars.toNat:=by omega
     subst hk
     clear h fkl fk
     rw [hFG]
     (try dsimp only[ak]);conv=>whnf
     refine aK.of <| (aB.inv (.refl _ _) (fun k : Nat=>k <= g.nodes.length) (fun k=>[(72,.int .i64 k)]) (fun k=>bdX (g.vars.toNat + g.nodes.length) (G k).refs :: tb2 (G k).T [(1,.box O1),(0,.box g.av)]) (fun k=>g.nodes.length - k) 0 (Nat.zero_le _) ?_ ?_ ?_)
     ·exact fun _=>rfl
     ·refine ⟨?_,.mk ?_ (by simp [ay])⟩
      ·all_goals exact wk
      ·repeat' first|exact rfl|exact trivial|exact wR|exact lR _|apply aI
       all_goals first | exact aJ _ | exact aC _ _ | skip
     intro k hk _
     have fk:=G1 k hk
     have fkl:=fk.len
     refine And.intro (fun h=>?_) (fun h=>?_)
     ·have hlt : k < g.nodes.length:=by simp at h; omega
      obtain ⟨x,q,e,qs⟩:=G2 k hlt
      have ex : g.nodes.getD k default = g.nodes[k]:=by rw [List.getD_eq_getElem?_getD,List.getElem?_eq_getElem hlt]; rfl
      have nk:=nr.ok.nodes k hlt
      have hnl : (g.nodes[k]).args.length <= 16:=by
       have hal:=nk.num
       split at hal
       ·omega
       ·split at hal <;> omega
      have hna:=nk.args
      rw [ex] at q
      (try dsimp only[ak]);conv=>whnf
      refine jq hlt ?_
      generalize g.nodes[k] = nd at *
      generalize G k = s at *
      (try dsimp only[ak]);conv=>whnf
      refine aK.of <| (aB.inv (.grow 15 1 [] .aG rfl (.inl ⟨rfl,rfl⟩) (.refl _ _)) (fun j : Nat=>j <= nd.args.length) (fun j=>[(80,.int .i64 j),(15,.sl 1 (((nd.args.take j).map (CU s.refs)).map (.int .i64)) (.own 9))]) (fun j=>(9,.tok 1 j) :: (8,.box nd.av) :: bdX (g.vars.toNat + g.nodes.length) s.refs :: tb2 s.T [(1,.box O1),(0,.box g.av)]) (fun j=>nd.args.length - j) 0 (Nat.zero_le _) ?_ ?_ ?_)
      ·exact fun _=>rfl
      ·refine ⟨?_,.mk ?_ (by simp [ay])⟩
       ·all_goals exact wk
       ·repeat' first|exact rfl|exact trivial|exact wR|exact lR _|apply aI
        all_goals first | exact aJ _ | exact aC _ _ | skip
      intro j hj _
      have htl : ((nd.args.take j).map (CU s.refs)).length = j:=by rw [List.length_map,List.length_take]; omega
      (try dsimp only[ak]);conv=>whnf
      refine And.intro (fun g3=>?_) (fun g3=>?_)
      ·have hjl : j < nd.args.length:=by simpa using g3
       have ha:=hna _ (List.getElem_mem hjl)
       have ht1 : (nd.args.take (j + 1)).map (CU s.refs) = (nd.args.take j).map (CU s.refs) ++ [CU s.refs nd.args[j]]:=by rw [List.take_succ_eq_append_getElem hjl,List.map_append]; rfl
       (try dsimp only[ak]);conv=>whnf
       refine jq hjl ?_
       generalize nd.args[j] = a at *
       (try dsimp only[ak]);conv=>whnf
       refine ⟨⟨by omega,by omega⟩,?_⟩
       (try dsimp only[ak]);conv=>whnf
       rw [Nat.zero_add]
       refine dI 0 ⟨by omega,by omega⟩ ?_
       (try dsimp only[ak]);conv=>whnf
       refine ⟨rfl,?_⟩
       (try dsimp only[ak]);conv=>whnf
       refine ⟨by rw [List.length_map,htl],.mk (by simp [maxL]; omega) (by simp; omega) ?_⟩
       (try dsimp only[ak]);conv=>whnf
       refine zA ?_;conv=>whnf
       refine ⟨j + 1,?_,?_,?_⟩
       ·exact hjl
       ·rw [ht1]
        refine ⟨?_,.mk ?_ (by simp [ay])⟩
        ·repeat' first|exact rfl|exact trivial|exact wR|exact lR _|apply aI
         all_goals first | (show bW _ (List.map _ (_ ++ [_])); rw [List.map_append]; exact aF _) | skip
        ·repeat' first|exact rfl|exact trivial|exact wR|exact lR _|apply aI
         all_goals first | exact aJ _ | exact aC _ _ | (simp; omega) | skip
       ·omega
      have hjl : j = nd.args.length:=by (have : ¬ j < nd.args.length:=by simpa using g3); omega
      subst hjl
      rw [List.take_length]
      (try dsimp only[ak]);conv=>whnf
      refine aO.late [2] ⟨[true,true,false,true,true,true,false,true,false,true,false],by kernel_rfl,?_⟩
      conv=>whnf
      refine ⟨bD (by omega) (by omega),?_⟩
      conv=>whnf
      refine .gen _ _ (fnLe (NM (As:=[.ptr 5 [] 0,nd.av,iL (nd.args.map (CU s.refs))]) [(9,_),(8,_),(7,_)] (by simp) q (fun _=>rfl) (fun _=>rfl) rfl) ?_) fun _=>?_
      ·all_goals exact wk
      conv=>whnf
      (refine aI (by (conv=>whnf)<;>exact rfl) ?_;(conv=>whnf))
      refine ⟨⟨by omega,by omega⟩,?_⟩
      conv=>whnf
      refine ⟨by rw [List.length_map]; omega,rfl,?_⟩
      conv=>whnf
      (refine aI (by (conv=>whnf)<;>exact rfl) ?_;(conv=>whnf))
      refine ⟨bD (by omega) (by omega),?_⟩
      (try dsimp only[ak]);conv=>whnf
      refine ⟨⟨by omega,by omega⟩,?_⟩
      rw [show (List.map (AV.int .i64) s.refs).set (0 + (g.vars + (k : Int)).toNat) (strip (.int .i64 x)) = (s.refs.set (g.vars.toNat + k) x).map (.int .i64) from by rw [List.map_set,Nat.zero_add,show (g.vars + (k : Int)).toNat = g.vars.toNat + k by omega]; rfl]
      rw [<- e]
      (try dsimp only[ak]);conv=>whnf
      have fk1:=(G1 (k + 1) hlt).len
      have ev1 : (G (k + 1)).refs.getD (g.vars.toNat + k) 0 = x:=by rw [e,jv (by omega),if_pos rfl]
      rw [show 0 + (g.vars + (k : Int)).toNat = g.vars.toNat + k by omega]
      refine dI 0 ⟨by omega,by omega⟩ ?_
      rw [Int.toNat_natCast,ev1]
      (try dsimp only[ak]);conv=>whnf
      refine ⟨rfl,?_⟩
      (try dsimp only[ak]);conv=>whnf
      refine .gen _ _ (NM (As:=[.ptr 5 [] 0,.int .i64 x,.int .i64 4096]) [(9,_),(8,_),(7,_)] (by simp) qs (fun _=>rfl) (fun _=>rfl) rfl) fun _=>?_
      (try dsimp only[ak]);conv=>whnf
      refine zA ?_;conv=>whnf
      refine ⟨k + 1,?_,?_,?_⟩
      ·exact hlt
      ·refine ⟨?_,.mk ?_ (by simp [ay])⟩
       ·all_goals exact wk
       ·repeat' first|exact rfl|exact trivial|exact wR|exact lR _|apply aI
        all_goals first | exact aJ _ | exact aC _ _ | skip
      ·omega
     have hk : k = g.nodes.length:=by simp at h; omega
     subst hk
     generalize G g.nodes.length = s at *
     (try dsimp only[ak]);conv=>whnf
     refine ⟨⟨by omega,by omega⟩,?_⟩
     (try dsimp only[ak]);conv=>whnf
     rw [Nat.zero_add]
     refine dI 0 ⟨by omega,by omega⟩ ?_
     rw [Int.toNat_natCast]
     (try dsimp only[ak]);conv=>whnf
     refine ⟨rfl,?_⟩
     (try dsimp only[ak]);conv=>whnf
     refine .gen _ _ (NM (As:=[.ptr 5 [] 0,.int .i64 (s.refs.getD g.top.toNat 0)]) (R':=yg o ns x) [(7,_)] (by simp) c (fun _=>rfl) (fun _=>rfl) rfl) fun _=>?_
     (try dsimp only[ak]);conv=>whnf
     refine ⟨⟨_,_,.refl _ _,?_⟩⟩
     conv=>whnf
     refine ⟨?_,rfl,by simp [nextId],.mk ?_ (by simp [ay])⟩
     ·all_goals exact wk
     ·all_goals exact wk
 ·rw [c4,lt.2,<- nr.val (l0 f.vars.toNat t) (KH _ _),hgv]
 ·have : 2 ^ (G g.nodes.length).T.n.toNat <= 2 ^ 7:=Nat.pow_le_pow_right (by decide) (by rw [hnG]; omega)
  omega

def xM (k : Int) (n : Nat) : Bool:=if k = 0 then decide (n = 0) else if k = 1 then decide (n = 1) else decide (1 <= n /\ n <= 16)
def rZ (v : Int) (i : Nat) (a : Int) : Bool:=decide (a < 0 \/ v + i <= a)
def nN (x : Nd) : Int:=if x.kind = 0 then (if x.k ≠ 0 /\ x.k ≠ 1 then 3 else 0) else if x.kind = 4 then (if x.k < 1 \/ (x.args.length : Int) < x.k then 3 else 0) else if x.k ≠ 0 then 2 else 0
def aV (v : Int) (i : Nat) (x : Nd) : Int:=if x.kind < 0 \/ 5 < x.kind then 7 else if xM x.kind x.args.length = false then 11 else if x.args.any (rZ v i) = true then 10 else nN x
def jM (v : Int) : Nat -> List Nd -> Int
 | _,[]=>0
 | i,x :: l=>if aV v i x ≠ 0 then aV v i x else jM v (i + 1) l
def iq (f : Fo) : Int:=if f.vars < 0 \/ 24 < f.vars then 3 else if 128 < f.nodes.length then 4 else if jM f.vars 0 f.nodes ≠ 0 then jM f.vars 0 f.nodes else if ¬ (0 <= f.top /\ f.top < f.vars + f.nodes.length) then 10 else 0

theorem WX {v : Int} {i : Nat} {x : Nd} (h : aV v i x = 0) : A8 v i x:=by
 unfold aV at h
 split at h
 ·cases h
 rename_i h1
 split at h
 ·cases h
 rename_i h2
 split at h
 ·cases h
 rename_i h3
 have h2 : xM x.kind x.args.length = true:=by simpa using h2
 have h3 : ∀ a ∈ x.args,0 <= a /\ a < v + i:=fun a ha=>by
  have : rZ v i a = false:=by
   cases hb : rZ v i a with
   | false=>rfl
   | true=>exact absurd (List.any_eq_true.2 ⟨a,ha,hb⟩) h3
  unfold rZ at this
  have:=of_decide_eq_false this
  omega
 refine ⟨by omega,?_,h3,?_⟩
 ·unfold xM at h2
  split
  ·rename_i e; rw [if_pos e] at h2; simpa using h2
  ·rename_i e; rw [if_neg e] at h2
   split
   ·rename_i e; rw [if_pos e] at h2; simpa using h2
   ·rename_i e; rw [if_neg e] at h2; simpa using h2
 ·unfold nN at h
  split
  ·rename_i e
   rw [if_pos e] at h
   split at h
   ·cases h
   ·omega
  ·rename_i e
   rw [if_neg e] at h
   split
   ·rename_i e
    rw [if_pos e] at h
    split at h
    ·cases h
    ·omega
   ·rename_i e
    rw [if_neg e] at h
    split at h
    ·cases h
    ·omega

theorem Jd {v : Int} : ∀ (l : List Nd) (i : Nat),jM v i l = 0 -> ∀ (k : Nat) (h : k < l.length),A8 v (i + k) l[k]
 | [],_,_,k,h=>absurd h (Nat.not_lt_zero _)
 | x :: l,i,he,k,h=>by
   unfold jM at he
   split at he
   ·contradiction
   rename_i e
   have e : aV v i x = 0:=by simpa using e
   cases k with
   | zero=>exact WX e
   | succ k =>
     have:=Jd l (i + 1) he k (by simpa using h)
     rw [show i + 1 + k = i + (k + 1) by omega] at this
     exact this

theorem NP {f : Fo} (h : iq f = 0) : qB f:=by
 unfold iq at h
 split at h
 ·cases h
 split at h
 ·cases h
 split at h
 ·contradiction
 split at h
 ·cases h
 rename_i h1 h2 h3 h4
 refine ⟨by omega,by omega,fun i hi=>?_,by omega⟩
 have:=Jd f.nodes 0 (by simpa using h3) i hi
 rw [Nat.zero_add] at this
 exact this

theorem CY {v : Int} {l : List Nd} {i : Nat} (h : i < l.length) : jM v i (l.drop i) = if aV v i l[i] ≠ 0 then aV v i l[i] else jM v (i + 1) (l.drop (i + 1)):=by
 rw [List.drop_eq_getElem_cons h]; rfl

theorem c_farg (k : Int) (n : Nat) : aA Tryz.prog 250 [.int .i64 k,.int .i64 n] [] (.bool (xM k n)) []:=by
 refine aA.intro lay mixed Tryz.func250 (by kernel_rfl) rfl (by kernel_rfl) rfl fun hok=>?_
 (try dsimp only[aZ,aN]);(try dsimp only[ak]);conv=>whnf
 refine And.intro (fun g=>?_) (fun g=>?_)
 ·rw [show xM k n = decide (n = 0) from if_pos g]
  (try dsimp only[ak]);conv=>whnf
  refine fM ?_;(conv=>whnf);refine ⟨?_,rfl⟩;conv=>whnf
  show ((n : Int) = 0) ↔ _
  simp
 rw [show xM k n = if k = 1 then decide (n = 1) else decide (1 <= n /\ n <= 16) from if_neg g]
 (try dsimp only[ak]);conv=>whnf
 refine And.intro (fun g=>?_) (fun g=>?_)
 ·rw [if_pos g]
  (try dsimp only[ak]);conv=>whnf
  refine fM ?_;(conv=>whnf);refine ⟨?_,rfl⟩;conv=>whnf
  show ((n : Int) = 1) ↔ _
  simp; omega
 rw [if_neg g]
 (try dsimp only[ak]);conv=>whnf
 refine And.intro (fun g=>?_) (fun g=>?_)
 ·(try dsimp only[ak]);conv=>whnf
  refine fM ?_;(conv=>whnf);refine ⟨?_,rfl⟩;conv=>whnf
  show ((n : Int) <= 16) ↔ _
  simp; omega
 ·(try dsimp only[ak]);conv=>whnf
  refine fM ?_;(conv=>whnf);refine ⟨?_,rfl⟩;conv=>whnf
  show decide (1 <= n /\ n <= 16) = false
  exact decide_eq_false (by omega)

theorem mF {p : Int -> Bool} {l : List Int} {j : Nat} (h : j < l.length) (h1 : (l.take j).any p = false) (h2 : p l[j] = false) : (l.take (j + 1)).any p = false:=by
 rw [List.take_succ_eq_append_getElem h,List.any_append,h1]; simp [h2]

theorem IC (f : Fo) (hv : 0 <= f.vars /\ f.vars <= 24) (i : Nat) (hi : i < f.nodes.length) (hl : f.nodes.length <= 128) (R : AV) (hR : R = x9 (aV f.vars i f.nodes[i])) : aA Tryz.prog 186 [f.av,.int .i64 i] [] R []:=by
 refine aA.intro lay mixed Tryz.func186 (by kernel_rfl) rfl (by kernel_rfl) rfl fun hok=>?_
 (try dsimp only[aZ,aN]);(try dsimp only[ak]);conv=>whnf
 refine jq hi ?_
 generalize f.nodes[i] = x at *
 have ca:=c_farg x.kind x.args.length
 (try dsimp only[ak]);conv=>whnf
 refine And.intro (fun g=>?_) (fun g=>?_)
 ·have hE : aV f.vars i x = 7:=if_pos (.inl g)
  obtain rfl : R = .jm 111 (.int .i64 7):=by rw [hR]; first | (rw [show aV f.vars i x = 7 from hE]; rfl) | rfl
  (try dsimp only[ak]);conv=>whnf
  refine fM ?_;(conv=>whnf);refine ⟨?_,rfl⟩;conv=>whnf
  all_goals exact wk
 (try dsimp only[ak]);conv=>whnf
 refine And.intro (fun g'=>?_) (fun g'=>?_)
 ·have hE : aV f.vars i x = 7:=if_pos (.inr g')
  obtain rfl : R = .jm 111 (.int .i64 7):=by rw [hR]; first | (rw [show aV f.vars i x = 7 from hE]; rfl) | rfl
  (try dsimp only[ak]);conv=>whnf
  refine fM ?_;(conv=>whnf);refine ⟨?_,rfl⟩;conv=>whnf
  all_goals exact wk
 have hE1 : aV f.vars i x = if xM x.kind x.args.length = false then 11 else if x.args.any (rZ f.vars i) = true then 10 else nN x:=if_neg (by omega)
 (try dsimp only[ak]);conv=>whnf
 rw [show (((x.args.map (AV.int .i64)).length : Nat) : Int) = (x.args.length : Int) by simp]
 refine .pure _ _ ?_ ⟨rfl,rfl⟩ ca fun _=>?_
 ·all_goals exact wk
 (try dsimp only[ak]);conv=>whnf
 refine And.intro (fun g=>?_) (fun g=>?_)
 ·have hE:=hE1.trans (if_pos (by simpa using g))
  obtain rfl : R = .jm 111 (.int .i64 11):=by rw [hR]; first | (rw [show aV f.vars i x = 11 from hE]; rfl) | rfl
  (try dsimp only[ak]);conv=>whnf
  refine fM ?_;(conv=>whnf);refine ⟨?_,rfl⟩;conv=>whnf
  all_goals exact wk
 have hE2:=hE1.trans (if_neg (by simpa using g))
 have hal : x.args.length <= 16:=by
  have : xM x.kind x.args.length = true:=by simpa using g
  unfold xM at this
  split at this
  ·have:=of_decide_eq_true this; omega
  ·split at this
   ·have:=of_decide_eq_true this; omega
   ·have:=of_decide_eq_true this; omega
 clear hE1
 (try dsimp only[ak]);conv=>whnf
 refine aK.of <| aB.inv (.refl _ _) (fun (j : Nat)=>j <= x.args.length /\ (x.args.take j).any (rZ f.vars i) = false) (fun (j : Nat)=>[(33,.int .i64 j)]) (fun _=>_) (fun (j : Nat)=>x.args.length - j) 0 ?_ (fun _=>rfl) ?_ ?_
 ·exact ⟨Nat.zero_le _,rfl⟩
 ·all_goals exact wk
 rintro j ⟨hj,hany⟩ _
 (try dsimp only[ak]);conv=>whnf
 refine And.intro (fun g1=>?_) (fun g1=>?_)
 ·have hjl : j < x.args.length:=by simpa using g1
  have hat:=mF hjl hany
  have hin:=List.getElem_mem hjl
  (try dsimp only[ak]);conv=>whnf
  refine jq hjl ?_
  generalize x.args[j] = a at *
  have bad : rZ f.vars i a = true -> aV f.vars i x = 10:=fun hb=>hE2.trans (if_pos (List.any_eq_true.2 ⟨a,hin,hb⟩))
  (try dsimp only[ak]);conv=>whnf
  refine And.intro (fun g=>?_) (fun g=>?_)
  ·have hE:=bad (decide_eq_true (.inl g))
   obtain rfl : R = .jm 111 (.int .i64 10):=by rw [hR]; first | (rw [show aV f.vars i x = 10 from hE]; rfl) | rfl
   (try dsimp only[ak]);conv=>whnf
   refine fM ?_;(conv=>whnf);refine ⟨?_,rfl⟩;conv=>whnf
   all_goals exact wk
  (try dsimp only[ak]);conv=>whnf
  refine zA ?_;conv=>whnf
  refine And.intro (fun g'=>?_) (fun g'=>?_)
  ·have hE:=bad (decide_eq_true (.inr g'))
   obtain rfl : R = .jm 111 (.int .i64 10):=by rw [hR]; first | (rw [show aV f.vars i x = 10 from hE]; rfl) | rfl
   (try dsimp only[ak]);conv=>whnf
   refine fM ?_;(conv=>whnf);refine ⟨?_,rfl⟩;conv=>whnf
   all_goals exact wk
  (try dsimp only[ak]);conv=>whnf
  refine zA ?_;conv=>whnf
  refine ⟨j + 1,?_,?_,?_⟩
  ·exact ⟨hjl,hat (decide_eq_false (by omega))⟩
  ·all_goals exact wk
  ·omega
 have hjl : j = x.args.length:=by (have : ¬ j < x.args.length:=by simpa using g1); omega
 subst hjl
 rw [List.take_length] at hany
 have hK:=hE2.trans (if_neg (by rw [hany]; simp))
 (try dsimp only[ak]);conv=>whnf
 refine And.intro (fun g=>?_) (fun g=>?_)
 ·rw [show nN x = if x.k ≠ 0 /\ x.k ≠ 1 then 3 else 0 from if_pos g] at hK
  (try dsimp only[ak]);conv=>whnf
  refine And.intro (fun g=>?_) (fun g=>?_)
  ·(try dsimp only[ak]);conv=>whnf
   refine And.intro (fun g'=>?_) (fun g'=>?_)
   ·have hE:=hK.trans (if_pos ⟨g,g'⟩)
    obtain rfl : R = .jm 111 (.int .i64 3):=by rw [hR]; first | (rw [show aV f.vars i x = 3 from hE]; rfl) | rfl
    (try dsimp only[ak]);conv=>whnf
    refine fM ?_;(conv=>whnf);refine ⟨?_,rfl⟩;conv=>whnf
    all_goals exact wk
   ·have hE:=hK.trans (if_neg (fun h=>g' h.2))
    obtain rfl : R = .dN:=by rw [hR,show aV f.vars i x = 0 from hE]; rfl
    (try dsimp only[ak]);conv=>whnf
    refine fM ?_;(conv=>whnf);refine ⟨?_,rfl⟩;conv=>whnf
    all_goals exact wk
  ·have hE:=hK.trans (if_neg (fun h=>g h.1))
   obtain rfl : R = .dN:=by rw [hR,show aV f.vars i x = 0 from hE]; rfl
   (try dsimp only[ak]);conv=>whnf
   refine fM ?_;(conv=>whnf);refine ⟨?_,rfl⟩;conv=>whnf
   all_goals exact wk
 have gk:=g
 (try dsimp only[ak]);conv=>whnf
 refine And.intro (fun g=>?_) (fun g=>?_)
 ·rw [show nN x = if x.k < 1 \/ (x.args.length : Int) < x.k then 3 else 0 from (if_neg gk).trans (if_pos g)] at hK
  (try dsimp only[ak]);conv=>whnf
  refine And.intro (fun g=>?_) (fun g=>?_)
  ·have hE:=hK.trans (if_pos (.inl g))
   obtain rfl : R = .jm 111 (.int .i64 3):=by rw [hR]; first | (rw [show aV f.vars i x = 3 from hE]; rfl) | rfl
   (try dsimp only[ak]);conv=>whnf
   refine fM ?_;(conv=>whnf);refine ⟨?_,rfl⟩;conv=>whnf
   all_goals exact wk
  ·(try dsimp only[ak]);conv=>whnf
   refine And.intro (fun g'=>?_) (fun g'=>?_)
   ·have hE:=hK.trans (if_pos (.inr (by simpa using g')))
    obtain rfl : R = .jm 111 (.int .i64 3):=by rw [hR]; first | (rw [show aV f.vars i x = 3 from hE]; rfl) | rfl
    (try dsimp only[ak]);conv=>whnf
    refine fM ?_;(conv=>whnf);refine ⟨?_,rfl⟩;conv=>whnf
    all_goals exact wk
   ·have hE:=hK.trans (if_neg (fun h=>h.elim g (fun h=>g' (by simpa using h))))
    obtain rfl : R = .dN:=by rw [hR,show aV f.vars i x = 0 from hE]; rfl
    (try dsimp only[ak]);conv=>whnf
    refine fM ?_;(conv=>whnf);refine ⟨?_,rfl⟩;conv=>whnf
    all_goals exact wk
 rw [show nN x = if x.k ≠ 0 then 2 else 0 from (if_neg gk).trans (if_neg g)] at hK
 (try dsimp only[ak]);conv=>whnf
 refine And.intro (fun g=>?_) (fun g=>?_)
 ·have hE:=hK.trans (if_pos g)
  obtain rfl : R = .jm 111 (.int .i64 2):=by rw [hR]; first | (rw [show aV f.vars i x = 2 from hE]; rfl) | rfl
  (try dsimp only[ak]);conv=>whnf
  refine fM ?_;(conv=>whnf);refine ⟨?_,rfl⟩;conv=>whnf
  all_goals exact wk
 ·have hE:=hK.trans (if_neg g)
  obtain rfl : R = .dN:=by rw [hR,show aV f.vars i x = 0 from hE]; rfl
  (try dsimp only[ak]);conv=>whnf
  refine fM ?_;(conv=>whnf);refine ⟨?_,rfl⟩;conv=>whnf
  all_goals exact wk

theorem U6 (f : Fo) (hv : 0 <= f.vars /\ f.vars <= 24) : aA Tryz.prog 187 [f.av,.int .i64 f.top] [] (.bool (decide (0 <= f.top /\ f.top < f.vars + f.nodes.length))) []:=by
 refine aA.intro lay mixed Tryz.func187 (by kernel_rfl) rfl (by kernel_rfl) rfl fun hok=>?_
 have hi1 : -9223372036854775808 <= f.top /\ f.top <= 9223372036854775807:=hok.1.2.2.1
 (try dsimp only[aZ,aN]);(try dsimp only[ak]);conv=>whnf
 refine And.intro (fun _=>?_) (fun g=>by exfalso; omega)
 (try dsimp only[ak]);conv=>whnf
 refine And.intro (fun g0=>?_) (fun g0=>?_)
 ·(try dsimp only[ak]);conv=>whnf
  refine And.intro (fun g=>?_) (fun g=>?_)
  ·(try dsimp only[ak]);conv=>whnf
   refine fM ?_;(conv=>whnf);refine ⟨?_,rfl⟩;conv=>whnf
   exact decide_eq_true (by omega)
  ·(try dsimp only[ak]);conv=>whnf
   refine zA ?_;conv=>whnf
   refine fM ?_;(conv=>whnf);refine ⟨?_,rfl⟩;conv=>whnf
   show (f.top - f.vars < (((f.nodes.map Nd.av).length : Nat) : Int)) ↔ _
   rw [decide_eq_true_iff,List.length_map]
   omega
 ·(try dsimp only[ak]);conv=>whnf
  refine fM ?_;(conv=>whnf);refine ⟨?_,rfl⟩;conv=>whnf
  exact decide_eq_false (by omega)

theorem JC (f : Fo) (R : AV) (hR : R = x9 (iq f)) : aA Tryz.prog 98 [f.av] [] R []:=by
 refine aA.intro lay mixed Tryz.func98 (by kernel_rfl) rfl (by kernel_rfl) rfl fun hok=>?_
 (try dsimp only[aZ,aN]);(try dsimp only[ak]);conv=>whnf
 refine And.intro (fun g=>?_) (fun g=>?_)
 ·have hE : iq f = 3:=if_pos (.inl g)
  obtain rfl : R = .jm 111 (.int .i64 3):=by rw [hR,show iq f = 3 from hE]; rfl
  (try dsimp only[ak]);conv=>whnf
  refine fM ?_;(conv=>whnf);refine ⟨?_,rfl⟩;conv=>whnf
  all_goals exact wk
 (try dsimp only[ak]);conv=>whnf
 refine And.intro (fun g'=>?_) (fun g'=>?_)
 ·have hE : iq f = 3:=if_pos (.inr g')
  obtain rfl : R = .jm 111 (.int .i64 3):=by rw [hR,show iq f = 3 from hE]; rfl
  (try dsimp only[ak]);conv=>whnf
  refine fM ?_;(conv=>whnf);refine ⟨?_,rfl⟩;conv=>whnf
  all_goals exact wk
 have hE1 : iq f = if 128 < f.nodes.length then 4 else if jM f.vars 0 f.nodes ≠ 0 then jM f.vars 0 f.nodes else if ¬ (0 <= f.top /\ f.top < f.vars + f.nodes.length) then 10 else 0:=if_neg (by omega)
 (try dsimp only[ak]);conv=>whnf
 rw [List.length_map]
 refine And.intro (fun g2=>?_) (fun g2=>?_)
 ·have hE:=hE1.trans (if_pos (by omega))
  obtain rfl : R = .jm 111 (.int .i64 4):=by rw [hR,show iq f = 4 from hE]; rfl
  (try dsimp only[ak]);conv=>whnf
  refine fM ?_;(conv=>whnf);refine ⟨?_,rfl⟩;conv=>whnf
  all_goals exact wk
 have hE2:=hE1.trans (if_neg (by omega))
 clear hE1
 have cv:=U6 f (by omega)
 have cn:=fun i hi=>IC f (by omega) i hi (by omega)
 (try dsimp only[ak]);conv=>whnf
 refine aK.of <| aB.inv (.refl _ _) (fun (i : Nat)=>i <= f.nodes.length /\ jM f.vars 0 f.nodes = jM f.vars i (f.nodes.drop i)) (fun (i : Nat)=>[(22,.int .i64 i)]) (fun _=>_) (fun (i : Nat)=>f.nodes.length - i) 0 ?_ (fun _=>rfl) ?_ ?_
 ·exact ⟨Nat.zero_le _,rfl⟩
 ·all_goals exact wk
 rintro i ⟨hi,hnd⟩ _
 (try dsimp only[ak]);conv=>whnf
 refine And.intro (fun g1=>?_) (fun g1=>?_)
 ·have hil : i < f.nodes.length:=by simpa using g1
  have cni:=cn i hil _ rfl
  rw [CY hil] at hnd
  by_cases he : aV f.vars i f.nodes[i] ≠ 0
  ·rw [if_pos he] at hnd
   rw [jB he] at cni
   have hE:=hE2.trans (if_pos (by rw [hnd]; exact he))
   rw [hnd] at hE
   generalize aV f.vars i f.nodes[i] = ee at *
   obtain rfl : R = .jm 111 (.int .i64 ee):=by rw [hR,hE,jB he]
   (try dsimp only[ak]);conv=>whnf
   refine .pure _ _ ?_ ⟨rfl,rfl⟩ cni fun _=>?_
   ·exact aj _
   (try dsimp only[ak]);conv=>whnf
   refine fM ?_;(conv=>whnf);refine ⟨?_,rfl⟩;conv=>whnf
   all_goals exact wk
  ·rw [if_neg he] at hnd
   have he0 : aV f.vars i f.nodes[i] = 0:=by simpa using he
   rw [he0,gu] at cni
   (try dsimp only[ak]);conv=>whnf
   refine .pure _ _ ?_ ⟨rfl,rfl⟩ cni fun _=>?_
   ·exact aj _
   (try dsimp only[ak]);conv=>whnf
   refine zA ?_;conv=>whnf
   refine ⟨i + 1,?_,?_,?_⟩
   ·exact ⟨hil,hnd⟩
   ·all_goals exact wk
   ·omega
 have hil : i = f.nodes.length:=by (have : ¬ i < f.nodes.length:=by simpa using g1); omega
 subst hil
 rw [List.drop_length] at hnd
 have hE3:=hE2.trans (if_neg (by rw [hnd]; simp [jM]))
 (try dsimp only[ak]);conv=>whnf
 refine .pure _ _ ?_ ⟨rfl,rfl⟩ cv fun _=>?_
 ·exact aj _
 (try dsimp only[ak]);conv=>whnf
 refine And.intro (fun g4=>?_) (fun g4=>?_)
 ·have hE:=hE3.trans (if_pos (fun h=>by rw [decide_eq_true h] at g4; cases g4))
  obtain rfl : R = .jm 111 (.int .i64 10):=by rw [hR,show iq f = 10 from hE]; rfl
  (try dsimp only[ak]);conv=>whnf
  refine fM ?_;(conv=>whnf);refine ⟨?_,rfl⟩;conv=>whnf
  all_goals exact wk
 ·have hE:=hE3.trans (if_neg (fun h=>by rw [decide_eq_false h] at g4; cases g4))
  obtain rfl : R = .dN:=by rw [hR,hE]; rfl
  (try dsimp only[ak]);conv=>whnf
  refine fM ?_;(conv=>whnf);refine ⟨?_,rfl⟩;conv=>whnf
  all_goals exact wk

theorem U2 (f : Fo) (hv : 0 <= f.vars /\ f.vars <= 24) (i : Nat) (hi : i < f.nodes.length) (hl : f.nodes.length <= 128) : aA Tryz.prog 138 [f.av,.int .i64 i] [] (.int .i64 (aV f.vars i f.nodes[i])) []:=by
 refine aA.intro lay mixed Tryz.func138 (by kernel_rfl) rfl (by kernel_rfl) rfl fun hok=>?_
 have hlen:=LK hok.1.2.1.2 _ (List.getElem_mem hi)
 have hal : (f.nodes[i]).args.length <= 9223372036854775807:=by have:=hlen.2.2.1.1; simpa [maxL] using this
 clear hok hlen
 (try dsimp only[aZ,aN]);(try dsimp only[ak]);conv=>whnf
 refine jq hi ?_
 generalize f.nodes[i] = x at *
 have hE1 : 0 <= x.kind /\ x.kind <= 5 -> aV f.vars i x = if xM x.kind x.args.length = false then 11 else if x.args.any (rZ f.vars i) = true then 10 else nN x:=fun h=>if_neg (by omega)
 (try dsimp only[ak]);conv=>whnf
 refine And.intro (fun g0=>?_) (fun g0=>?_)
 ·have hN : xM x.kind x.args.length = false ↔ ((x.args.length : Int) < 0 \/ 0 < (x.args.length : Int)):=by
   unfold xM; rw [if_pos g0,decide_eq_false_iff_not]; omega
  replace hE1:=hE1 (by omega)
  (try dsimp only[ak]);conv=>whnf
  rw [List.length_map]
  refine And.intro (fun g=>?_) (fun g=>?_)
  ·have hE:=hE1.trans (if_pos (hN.2 (.inl g)))
   rw [show aV f.vars i x = 11 from hE]
   (try dsimp only[ak]);conv=>whnf
   refine fM ?_;(conv=>whnf);refine ⟨?_,rfl⟩;conv=>whnf
   all_goals exact wk
  (try dsimp only[ak]);conv=>whnf
  rw [List.length_map]
  refine And.intro (fun g'=>?_) (fun g'=>?_)
  ·have hE:=hE1.trans (if_pos (hN.2 (.inr g')))
   rw [show aV f.vars i x = 11 from hE]
   (try dsimp only[ak]);conv=>whnf
   refine fM ?_;(conv=>whnf);refine ⟨?_,rfl⟩;conv=>whnf
   all_goals exact wk
  have hE2:=hE1.trans (if_neg (fun h=>(hN.1 h).elim g g'))
  clear hE1
  (try dsimp only[ak]);conv=>whnf
  refine aK.of <| aB.inv (.refl _ _) (fun (j : Nat)=>j <= x.args.length /\ (x.args.take j).any (rZ f.vars i) = false) (fun (j : Nat)=>[(41,.int .i64 j)]) (fun _=>_) (fun (j : Nat)=>x.args.length - j) 0 ?_ (fun _=>rfl) ?_ ?_
  ·exact ⟨Nat.zero_le _,rfl⟩
  ·all_goals exact wk
  rintro j ⟨hj,hany⟩ _
  (try dsimp only[ak]);conv=>whnf
  refine And.intro (fun g1=>?_) (fun g1=>?_)
  ·have hjl : j < x.args.length:=by simpa using g1
   have hat:=mF hjl hany
   have hin:=List.getElem_mem hjl
   (try dsimp only[ak]);conv=>whnf
   refine jq hjl ?_
   generalize x.args[j] = a at *
   have bad : rZ f.vars i a = true -> aV f.vars i x = 10:=fun hb=>hE2.trans (if_pos (List.any_eq_true.2 ⟨a,hin,hb⟩))
   (try dsimp only[ak]);conv=>whnf
   refine And.intro (fun g=>?_) (fun g=>?_)
   ·have hE:=bad (decide_eq_true (.inl g))
    rw [show aV f.vars i x = 10 from hE]
    (try dsimp only[ak]);conv=>whnf
    refine fM ?_;(conv=>whnf);refine ⟨?_,rfl⟩;conv=>whnf
    all_goals exact wk
   (try dsimp only[ak]);conv=>whnf
   refine zA ?_;conv=>whnf
   refine And.intro (fun g'=>?_) (fun g'=>?_)
   ·have hE:=bad (decide_eq_true (.inr g'))
    rw [show aV f.vars i x = 10 from hE]
    (try dsimp only[ak]);conv=>whnf
    refine fM ?_;(conv=>whnf);refine ⟨?_,rfl⟩;conv=>whnf
    all_goals exact wk
   (try dsimp only[ak]);conv=>whnf
   refine zA ?_;conv=>whnf
   refine ⟨j + 1,?_,?_,?_⟩
   ·exact ⟨hjl,hat (decide_eq_false (by omega))⟩
   ·all_goals exact wk
   ·omega
  have hjl : j = x.args.length:=by (have : ¬ j < x.args.length:=by simpa using g1); omega
  subst hjl
  rw [List.take_length] at hany
  have hK:=hE2.trans (if_neg (by rw [hany]; simp))
  clear hE2 g g' hN
  (try dsimp only[ak]);conv=>whnf
  refine And.intro (fun g=>?_) (fun g=>?_)
  ·rw [show nN x = if x.k ≠ 0 /\ x.k ≠ 1 then 3 else 0 from if_pos g] at hK
   (try dsimp only[ak]);conv=>whnf
   refine And.intro (fun g=>?_) (fun g=>?_)
   ·(try dsimp only[ak]);conv=>whnf
    refine And.intro (fun g'=>?_) (fun g'=>?_)
    ·have hE:=hK.trans (if_pos ⟨g,g'⟩)
     rw [show aV f.vars i x = 3 from hE]
     (try dsimp only[ak]);conv=>whnf
     refine fM ?_;(conv=>whnf);refine ⟨?_,rfl⟩;conv=>whnf
     all_goals exact wk
    ·have hE:=hK.trans (if_neg (fun h=>g' h.2))
     rw [show aV f.vars i x = 0 from hE]
     (try dsimp only[ak]);conv=>whnf
     refine fM ?_;(conv=>whnf);refine ⟨?_,rfl⟩;conv=>whnf
     all_goals exact wk
   ·have hE:=hK.trans (if_neg (fun h=>g h.1))
    rw [show aV f.vars i x = 0 from hE]
    (try dsimp only[ak]);conv=>whnf
    refine fM ?_;(conv=>whnf);refine ⟨?_,rfl⟩;conv=>whnf
    all_goals exact wk
  have gk:=g
  (try dsimp only[ak]);conv=>whnf
  refine And.intro (fun g=>?_) (fun g=>?_)
  ·rw [show nN x = if x.k < 1 \/ (x.args.length : Int) < x.k then 3 else 0 from (if_neg gk).trans (if_pos g)] at hK
   (try dsimp only[ak]);conv=>whnf
   refine And.intro (fun g=>?_) (fun g=>?_)
   ·have hE:=hK.trans (if_pos (.inl g))
    rw [show aV f.vars i x = 3 from hE]
    (try dsimp only[ak]);conv=>whnf
    refine fM ?_;(conv=>whnf);refine ⟨?_,rfl⟩;conv=>whnf
    all_goals exact wk
   ·(try dsimp only[ak]);conv=>whnf
    refine And.intro (fun g'=>?_) (fun g'=>?_)
    ·have hE:=hK.trans (if_pos (.inr (by simpa using g')))
     rw [show aV f.vars i x = 3 from hE]
     (try dsimp only[ak]);conv=>whnf
     refine fM ?_;(conv=>whnf);refine ⟨?_,rfl⟩;conv=>whnf
     all_goals exact wk
    ·have hE:=hK.trans (if_neg (fun h=>h.elim g (fun h=>g' (by simpa using h))))
     rw [show aV f.vars i x = 0 from hE]
     (try dsimp only[ak]);conv=>whnf
     refine fM ?_;(conv=>whnf);refine ⟨?_,rfl⟩;conv=>whnf
     all_goals exact wk
  rw [show nN x = if x.k ≠ 0 then 2 else 0 from (if_neg gk).trans (if_neg g)] at hK
  (try dsimp only[ak]);conv=>whnf
  refine And.intro (fun g=>?_) (fun g=>?_)
  ·have hE:=hK.trans (if_pos g)
   rw [show aV f.vars i x = 2 from hE]
   (try dsimp only[ak]);conv=>whnf
   refine fM ?_;(conv=>whnf);refine ⟨?_,rfl⟩;conv=>whnf
   all_goals exact wk
  ·have hE:=hK.trans (if_neg g)
   rw [show aV f.vars i x = 0 from hE]
   (try dsimp only[ak]);conv=>whnf
   refine fM ?_;(conv=>whnf);refine ⟨?_,rfl⟩;conv=>whnf
   all_goals exact wk
 (try dsimp only[ak]);conv=>whnf
 refine And.intro (fun g1=>?_) (fun g1=>?_)
 ·have hN : xM x.kind x.args.length = false ↔ ((x.args.length : Int) < 1 \/ 1 < (x.args.length : Int)):=by
   unfold xM; rw [if_neg g0,if_pos g1,decide_eq_false_iff_not]; omega
  replace hE1:=hE1 (by omega)
  (try dsimp only[ak]);conv=>whnf
  rw [List.length_map]
  refine And.intro (fun g=>?_) (fun g=>?_)
  ·have hE:=hE1.trans (if_pos (hN.2 (.inl g)))
   rw [show aV f.vars i x = 11 from hE]
   (try dsimp only[ak]);conv=>whnf
   refine fM ?_;(conv=>whnf);refine ⟨?_,rfl⟩;conv=>whnf
   all_goals exact wk
  (try dsimp only[ak]);conv=>whnf
  rw [List.length_map]
  refine And.intro (fun g'=>?_) (fun g'=>?_)
  ·have hE:=hE1.trans (if_pos (hN.2 (.inr g')))
   rw [show aV f.vars i x = 11 from hE]
   (try dsimp only[ak]);conv=>whnf
   refine fM ?_;(conv=>whnf);refine ⟨?_,rfl⟩;conv=>whnf
   all_goals exact wk
  have hE2:=hE1.trans (if_neg (fun h=>(hN.1 h).elim g g'))
  clear hE1
  (try dsimp only[ak]);conv=>whnf
  refine aK.of <| aB.inv (.refl _ _) (fun (j : Nat)=>j <= x.args.length /\ (x.args.take j).any (rZ f.vars i) = false) (fun (j : Nat)=>[(41,.int .i64 j)]) (fun _=>_) (fun (j : Nat)=>x.args.length - j) 0 ?_ (fun _=>rfl) ?_ ?_
  ·exact ⟨Nat.zero_le _,rfl⟩
  ·all_goals exact wk
  rintro j ⟨hj,hany⟩ _
  (try dsimp only[ak]);conv=>whnf
  refine And.intro (fun g1=>?_) (fun g1=>?_)
  ·have hjl : j < x.args.length:=by simpa using g1
   have hat:=mF hjl hany
   have hin:=List.getElem_mem hjl
   (try dsimp only[ak]);conv=>whnf
   refine jq hjl ?_
   generalize x.args[j] = a at *
   have bad : rZ f.vars i a = true -> aV f.vars i x = 10:=fun hb=>hE2.trans (if_pos (List.any_eq_true.2 ⟨a,hin,hb⟩))
   (try dsimp only[ak]);conv=>whnf
   refine And.intro (fun g=>?_) (fun g=>?_)
   ·have hE:=bad (decide_eq_true (.inl g))
    rw [show aV f.vars i x = 10 from hE]
    (try dsimp only[ak]);conv=>whnf
    refine fM ?_;(conv=>whnf);refine ⟨?_,rfl⟩;conv=>whnf
    all_goals exact wk
   (try dsimp only[ak]);conv=>whnf
   refine zA ?_;conv=>whnf
   refine And.intro (fun g'=>?_) (fun g'=>?_)
   ·have hE:=bad (decide_eq_true (.inr g'))
    rw [show aV f.vars i x = 10 from hE]
    (try dsimp only[ak]);conv=>whnf
    refine fM ?_;(conv=>whnf);refine ⟨?_,rfl⟩;conv=>whnf
    all_goals exact wk
   (try dsimp only[ak]);conv=>whnf
   refine zA ?_;conv=>whnf
   refine ⟨j + 1,?_,?_,?_⟩
   ·exact ⟨hjl,hat (decide_eq_false (by omega))⟩
   ·all_goals exact wk
   ·omega
  have hjl : j = x.args.length:=by (have : ¬ j < x.args.length:=by simpa using g1); omega
  subst hjl
  rw [List.take_length] at hany
  have hK:=hE2.trans (if_neg (by rw [hany]; simp))
  clear hE2 g g' hN
  (try dsimp only[ak]);conv=>whnf
  refine And.intro (fun g=>?_) (fun g=>?_)
  ·rw [show nN x = if x.k ≠ 0 /\ x.k ≠ 1 then 3 else 0 from if_pos g] at hK
   (try dsimp only[ak]);conv=>whnf
   refine And.intro (fun g=>?_) (fun g=>?_)
   ·(try dsimp only[ak]);conv=>whnf
    refine And.intro (fun g'=>?_) (fun g'=>?_)
    ·have hE:=hK.trans (if_pos ⟨g,g'⟩)
     rw [show aV f.vars i x = 3 from hE]
     (try dsimp only[ak]);conv=>whnf
     refine fM ?_;(conv=>whnf);refine ⟨?_,rfl⟩;conv=>whnf
     all_goals exact wk
    ·have hE:=hK.trans (if_neg (fun h=>g' h.2))
     rw [show aV f.vars i x = 0 from hE]
     (try dsimp only[ak]);conv=>whnf
     refine fM ?_;(conv=>whnf);refine ⟨?_,rfl⟩;conv=>whnf
     all_goals exact wk
   ·have hE:=hK.trans (if_neg (fun h=>g h.1))
    rw [show aV f.vars i x = 0 from hE]
    (try dsimp only[ak]);conv=>whnf
    refine fM ?_;(conv=>whnf);refine ⟨?_,rfl⟩;conv=>whnf
    all_goals exact wk
  have gk:=g
  (try dsimp only[ak]);conv=>whnf
  refine And.intro (fun g=>?_) (fun g=>?_)
  ·rw [show nN x = if x.k < 1 \/ (x.args.length : Int) < x.k then 3 else 0 from (if_neg gk).trans (if_pos g)] at hK
   (try dsimp only[ak]);conv=>whnf
   refine And.intro (fun g=>?_) (fun g=>?_)
   ·have hE:=hK.trans (if_pos (.inl g))
    rw [show aV f.vars i x = 3 from hE]
    (try dsimp only[ak]);conv=>whnf
    refine fM ?_;(conv=>whnf);refine ⟨?_,rfl⟩;conv=>whnf
    all_goals exact wk
   ·(try dsimp only[ak]);conv=>whnf
    refine And.intro (fun g'=>?_) (fun g'=>?_)
    ·have hE:=hK.trans (if_pos (.inr (by simpa using g')))
     rw [show aV f.vars i x = 3 from hE]
     (try dsimp only[ak]);conv=>whnf
     refine fM ?_;(conv=>whnf);refine ⟨?_,rfl⟩;conv=>whnf
     all_goals exact wk
    ·have hE:=hK.trans (if_neg (fun h=>h.elim g (fun h=>g' (by simpa using h))))
     rw [show aV f.vars i x = 0 from hE]
     (try dsimp only[ak]);conv=>whnf
     refine fM ?_;(conv=>whnf);refine ⟨?_,rfl⟩;conv=>whnf
     all_goals exact wk
  rw [show nN x = if x.k ≠ 0 then 2 else 0 from (if_neg gk).trans (if_neg g)] at hK
  (try dsimp only[ak]);conv=>whnf
  refine And.intro (fun g=>?_) (fun g=>?_)
  ·have hE:=hK.trans (if_pos g)
   rw [show aV f.vars i x = 2 from hE]
   (try dsimp only[ak]);conv=>whnf
   refine fM ?_;(conv=>whnf);refine ⟨?_,rfl⟩;conv=>whnf
   all_goals exact wk
  ·have hE:=hK.trans (if_neg g)
   rw [show aV f.vars i x = 0 from hE]
   (try dsimp only[ak]);conv=>whnf
   refine fM ?_;(conv=>whnf);refine ⟨?_,rfl⟩;conv=>whnf
   all_goals exact wk
 have hN : xM x.kind x.args.length = false ↔ ((x.args.length : Int) < 1 \/ 16 < (x.args.length : Int)):=by
  unfold xM; rw [if_neg g0,if_neg g1,decide_eq_false_iff_not]; omega
 (try dsimp only[ak]);conv=>whnf
 refine And.intro (fun g2=>?_) (fun g2=>?_)
 ·replace hE1:=hE1 (by omega)
  (try dsimp only[ak]);conv=>whnf
  refine And.intro (fun _=>?_) (fun h=>absurd g2 h)
  (try dsimp only[ak]);conv=>whnf
  rw [List.length_map]
  refine And.intro (fun g=>?_) (fun g=>?_)
  ·have hE:=hE1.trans (if_pos (hN.2 (.inl g)))
   rw [show aV f.vars i x = 11 from hE]
   (try dsimp only[ak]);conv=>whnf
   refine fM ?_;(conv=>whnf);refine ⟨?_,rfl⟩;conv=>whnf
   all_goals exact wk
  (try dsimp only[ak]);conv=>whnf
  rw [List.length_map]
  refine And.intro (fun g'=>?_) (fun g'=>?_)
  ·have hE:=hE1.trans (if_pos (hN.2 (.inr g')))
   rw [show aV f.vars i x = 11 from hE]
   (try dsimp only[ak]);conv=>whnf
   refine fM ?_;(conv=>whnf);refine ⟨?_,rfl⟩;conv=>whnf
   all_goals exact wk
  have hE2:=hE1.trans (if_neg (fun h=>(hN.1 h).elim g g'))
  clear hE1
  (try dsimp only[ak]);conv=>whnf
  refine aK.of <| aB.inv (.refl _ _) (fun (j : Nat)=>j <= x.args.length /\ (x.args.take j).any (rZ f.vars i) = false) (fun (j : Nat)=>[(41,.int .i64 j)]) (fun _=>_) (fun (j : Nat)=>x.args.length - j) 0 ?_ (fun _=>rfl) ?_ ?_
  ·exact ⟨Nat.zero_le _,rfl⟩
  ·all_goals exact wk
  rintro j ⟨hj,hany⟩ _
  (try dsimp only[ak]);conv=>whnf
  refine And.intro (fun g1=>?_) (fun g1=>?_)
  ·have hjl : j < x.args.length:=by simpa using g1
   have hat:=mF hjl hany
   have hin:=List.getElem_mem hjl
   (try dsimp only[ak]);conv=>whnf
   refine jq hjl ?_
   generalize x.args[j] = a at *
   have bad : rZ f.vars i a = true -> aV f.vars i x = 10:=fun hb=>hE2.trans (if_pos (List.any_eq_true.2 ⟨a,hin,hb⟩))
   (try dsimp only[ak]);conv=>whnf
   refine And.intro (fun g=>?_) (fun g=>?_)
   ·have hE:=bad (decide_eq_true (.inl g))
    rw [show aV f.vars i x = 10 from hE]
    (try dsimp only[ak]);conv=>whnf
    refine fM ?_;(conv=>whnf);refine ⟨?_,rfl⟩;conv=>whnf
    all_goals exact wk
   (try dsimp only[ak]);conv=>whnf
   refine zA ?_;conv=>whnf
   refine And.intro (fun g'=>?_) (fun g'=>?_)
   ·have hE:=bad (decide_eq_true (.inr g'))
    rw [show aV f.vars i x = 10 from hE]
    (try dsimp only[ak]);conv=>whnf
    refine fM ?_;(conv=>whnf);refine ⟨?_,rfl⟩;conv=>whnf
    all_goals exact wk
   (try dsimp only[ak]);conv=>whnf
   refine zA ?_;conv=>whnf
   refine ⟨j + 1,?_,?_,?_⟩
   ·exact ⟨hjl,hat (decide_eq_false (by omega))⟩
   ·all_goals exact wk
   ·omega
  have hjl : j = x.args.length:=by (have : ¬ j < x.args.length:=by simpa using g1); omega
  subst hjl
  rw [List.take_length] at hany
  have hK:=hE2.trans (if_neg (by rw [hany]; simp))
  clear hE2 g g' hN
  (try dsimp only[ak]);conv=>whnf
  refine And.intro (fun g=>?_) (fun g=>?_)
  ·rw [show nN x = if x.k ≠ 0 /\ x.k ≠ 1 then 3 else 0 from if_pos g] at hK
   (try dsimp only[ak]);conv=>whnf
   refine And.intro (fun g=>?_) (fun g=>?_)
   ·(try dsimp only[ak]);conv=>whnf
    refine And.intro (fun g'=>?_) (fun g'=>?_)
    ·have hE:=hK.trans (if_pos ⟨g,g'⟩)
     rw [show aV f.vars i x = 3 from hE]
     (try dsimp only[ak]);conv=>whnf
     refine fM ?_;(conv=>whnf);refine ⟨?_,rfl⟩;conv=>whnf
     all_goals exact wk
    ·have hE:=hK.trans (if_neg (fun h=>g' h.2))
     rw [show aV f.vars i x = 0 from hE]
     (try dsimp only[ak]);conv=>whnf
     refine fM ?_;(conv=>whnf);refine ⟨?_,rfl⟩;conv=>whnf
     all_goals exact wk
   ·have hE:=hK.trans (if_neg (fun h=>g h.1))
    rw [show aV f.vars i x = 0 from hE]
    (try dsimp only[ak]);conv=>whnf
    refine fM ?_;(conv=>whnf);refine ⟨?_,rfl⟩;conv=>whnf
    all_goals exact wk
  have gk:=g
  (try dsimp only[ak]);conv=>whnf
  refine And.intro (fun g=>?_) (fun g=>?_)
  ·rw [show nN x = if x.k < 1 \/ (x.args.length : Int) < x.k then 3 else 0 from (if_neg gk).trans (if_pos g)] at hK
   (try dsimp only[ak]);conv=>whnf
   refine And.intro (fun g=>?_) (fun g=>?_)
   ·have hE:=hK.trans (if_pos (.inl g))
    rw [show aV f.vars i x = 3 from hE]
    (try dsimp only[ak]);conv=>whnf
    refine fM ?_;(conv=>whnf);refine ⟨?_,rfl⟩;conv=>whnf
    all_goals exact wk
   ·(try dsimp only[ak]);conv=>whnf
    refine And.intro (fun g'=>?_) (fun g'=>?_)
    ·have hE:=hK.trans (if_pos (.inr (by simpa using g')))
     rw [show aV f.vars i x = 3 from hE]
     (try dsimp only[ak]);conv=>whnf
     refine fM ?_;(conv=>whnf);refine ⟨?_,rfl⟩;conv=>whnf
     all_goals exact wk
    ·have hE:=hK.trans (if_neg (fun h=>h.elim g (fun h=>g' (by simpa using h))))
     rw [show aV f.vars i x = 0 from hE]
     (try dsimp only[ak]);conv=>whnf
     refine fM ?_;(conv=>whnf);refine ⟨?_,rfl⟩;conv=>whnf
     all_goals exact wk
  rw [show nN x = if x.k ≠ 0 then 2 else 0 from (if_neg gk).trans (if_neg g)] at hK
  (try dsimp only[ak]);conv=>whnf
  refine And.intro (fun g=>?_) (fun g=>?_)
  ·have hE:=hK.trans (if_pos g)
   rw [show aV f.vars i x = 2 from hE]
   (try dsimp only[ak]);conv=>whnf
   refine fM ?_;(conv=>whnf);refine ⟨?_,rfl⟩;conv=>whnf
   all_goals exact wk
  ·have hE:=hK.trans (if_neg g)
   rw [show aV f.vars i x = 0 from hE]
   (try dsimp only[ak]);conv=>whnf
   refine fM ?_;(conv=>whnf);refine ⟨?_,rfl⟩;conv=>whnf
   all_goals exact wk
 (try dsimp only[ak]);conv=>whnf
 refine And.intro (fun g3=>?_) (fun g3=>?_)
 ·replace hE1:=hE1 (by omega)
  (try dsimp only[ak]);conv=>whnf
  refine And.intro (fun _=>?_) (fun h=>absurd g3 h)
  (try dsimp only[ak]);conv=>whnf
  rw [List.length_map]
  refine And.intro (fun g=>?_) (fun g=>?_)
  ·have hE:=hE1.trans (if_pos (hN.2 (.inl g)))
   rw [show aV f.vars i x = 11 from hE]
   (try dsimp only[ak]);conv=>whnf
   refine fM ?_;(conv=>whnf);refine ⟨?_,rfl⟩;conv=>whnf
   all_goals exact wk
  (try dsimp only[ak]);conv=>whnf
  rw [List.length_map]
  refine And.intro (fun g'=>?_) (fun g'=>?_)
  ·have hE:=hE1.trans (if_pos (hN.2 (.inr g')))
   rw [show aV f.vars i x = 11 from hE]
   (try dsimp only[ak]);conv=>whnf
   refine fM ?_;(conv=>whnf);refine ⟨?_,rfl⟩;conv=>whnf
   all_goals exact wk
  have hE2:=hE1.trans (if_neg (fun h=>(hN.1 h).elim g g'))
  clear hE1
  (try dsimp only[ak]);conv=>whnf
  refine aK.of <| aB.inv (.refl _ _) (fun (j : Nat)=>j <= x.args.length /\ (x.args.take j).any (rZ f.vars i) = false) (fun (j : Nat)=>[(41,.int .i64 j)]) (fun _=>_) (fun (j : Nat)=>x.args.length - j) 0 ?_ (fun _=>rfl) ?_ ?_
  ·exact ⟨Nat.zero_le _,rfl⟩
  ·all_goals exact wk
  rintro j ⟨hj,hany⟩ _
  (try dsimp only[ak]);conv=>whnf
  refine And.intro (fun g1=>?_) (fun g1=>?_)
  ·have hjl : j < x.args.length:=by simpa using g1
   have hat:=mF hjl hany
   have hin:=List.getElem_mem hjl
   (try dsimp only[ak]);conv=>whnf
   refine jq hjl ?_
   generalize x.args[j] = a at *
   have bad : rZ f.vars i a = true -> aV f.vars i x = 10:=fun hb=>hE2.trans (if_pos (List.any_eq_true.2 ⟨a,hin,hb⟩))
   (try dsimp only[ak]);conv=>whnf
   refine And.intro (fun g=>?_) (fun g=>?_)
   ·have hE:=bad (decide_eq_true (.inl g))
    rw [show aV f.vars i x = 10 from hE]
    (try dsimp only[ak]);conv=>whnf
    refine fM ?_;(conv=>whnf);refine ⟨?_,rfl⟩;conv=>whnf
    all_goals exact wk
   (try dsimp only[ak]);conv=>whnf
   refine zA ?_;conv=>whnf
   refine And.intro (fun g'=>?_) (fun g'=>?_)
   ·have hE:=bad (decide_eq_true (.inr g'))
    rw [show aV f.vars i x = 10 from hE]
    (try dsimp only[ak]);conv=>whnf
    refine fM ?_;(conv=>whnf);refine ⟨?_,rfl⟩;conv=>whnf
    all_goals exact wk
   (try dsimp only[ak]);conv=>whnf
   refine zA ?_;conv=>whnf
   refine ⟨j + 1,?_,?_,?_⟩
   ·exact ⟨hjl,hat (decide_eq_false (by omega))⟩
   ·all_goals exact wk
   ·omega
  have hjl : j = x.args.length:=by (have : ¬ j < x.args.length:=by simpa using g1); omega
  subst hjl
  rw [List.take_length] at hany
  have hK:=hE2.trans (if_neg (by rw [hany]; simp))
  clear hE2 g g' hN
  (try dsimp only[ak]);conv=>whnf
  refine And.intro (fun g=>?_) (fun g=>?_)
  ·rw [show nN x = if x.k ≠ 0 /\ x.k ≠ 1 then 3 else 0 from if_pos g] at hK
   (try dsimp only[ak]);conv=>whnf
   refine And.intro (fun g=>?_) (fun g=>?_)
   ·(try dsimp only[ak]);conv=>whnf
    refine And.intro (fun g'=>?_) (fun g'=>?_)
    ·have hE:=hK.trans (if_pos ⟨g,g'⟩)
     rw [show aV f.vars i x = 3 from hE]
     (try dsimp only[ak]);conv=>whnf
     refine fM ?_;(conv=>whnf);refine ⟨?_,rfl⟩;conv=>whnf
     all_goals exact wk
    ·have hE:=hK.trans (if_neg (fun h=>g' h.2))
     rw [show aV f.vars i x = 0 from hE]
     (try dsimp only[ak]);conv=>whnf
     refine fM ?_;(conv=>whnf);refine ⟨?_,rfl⟩;conv=>whnf
     all_goals exact wk
   ·have hE:=hK.trans (if_neg (fun h=>g h.1))
    rw [show aV f.vars i x = 0 from hE]
    (try dsimp only[ak]);conv=>whnf
    refine fM ?_;(conv=>whnf);refine ⟨?_,rfl⟩;conv=>whnf
    all_goals exact wk
  have gk:=g
  (try dsimp only[ak]);conv=>whnf
  refine And.intro (fun g=>?_) (fun g=>?_)
  ·rw [show nN x = if x.k < 1 \/ (x.args.length : Int) < x.k then 3 else 0 from (if_neg gk).trans (if_pos g)] at hK
   (try dsimp only[ak]);conv=>whnf
   refine And.intro (fun g=>?_) (fun g=>?_)
   ·have hE:=hK.trans (if_pos (.inl g))
    rw [show aV f.vars i x = 3 from hE]
    (try dsimp only[ak]);conv=>whnf
    refine fM ?_;(conv=>whnf);refine ⟨?_,rfl⟩;conv=>whnf
    all_goals exact wk
   ·(try dsimp only[ak]);conv=>whnf
    refine And.intro (fun g'=>?_) (fun g'=>?_)
    ·have hE:=hK.trans (if_pos (.inr (by simpa using g')))
     rw [show aV f.vars i x = 3 from hE]
     (try dsimp only[ak]);conv=>whnf
     refine fM ?_;(conv=>whnf);refine ⟨?_,rfl⟩;conv=>whnf
     all_goals exact wk
    ·have hE:=hK.trans (if_neg (fun h=>h.elim g (fun h=>g' (by simpa using h))))
     rw [show aV f.vars i x = 0 from hE]
     (try dsimp only[ak]);conv=>whnf
     refine fM ?_;(conv=>whnf);refine ⟨?_,rfl⟩;conv=>whnf
     all_goals exact wk
  rw [show nN x = if x.k ≠ 0 then 2 else 0 from (if_neg gk).trans (if_neg g)] at hK
  (try dsimp only[ak]);conv=>whnf
  refine And.intro (fun g=>?_) (fun g=>?_)
  ·have hE:=hK.trans (if_pos g)
   rw [show aV f.vars i x = 2 from hE]
   (try dsimp only[ak]);conv=>whnf
   refine fM ?_;(conv=>whnf);refine ⟨?_,rfl⟩;conv=>whnf
   all_goals exact wk
  ·have hE:=hK.trans (if_neg g)
   rw [show aV f.vars i x = 0 from hE]
   (try dsimp only[ak]);conv=>whnf
   refine fM ?_;(conv=>whnf);refine ⟨?_,rfl⟩;conv=>whnf
   all_goals exact wk
 (try dsimp only[ak]);conv=>whnf
 refine And.intro (fun g4=>?_) (fun g4=>?_)
 ·replace hE1:=hE1 (by omega)
  (try dsimp only[ak]);conv=>whnf
  refine And.intro (fun _=>?_) (fun h=>absurd g4 h)
  (try dsimp only[ak]);conv=>whnf
  rw [List.length_map]
  refine And.intro (fun g=>?_) (fun g=>?_)
  ·have hE:=hE1.trans (if_pos (hN.2 (.inl g)))
   rw [show aV f.vars i x = 11 from hE]
   (try dsimp only[ak]);conv=>whnf
   refine fM ?_;(conv=>whnf);refine ⟨?_,rfl⟩;conv=>whnf
   all_goals exact wk
  (try dsimp only[ak]);conv=>whnf
  rw [List.length_map]
  refine And.intro (fun g'=>?_) (fun g'=>?_)
  ·have hE:=hE1.trans (if_pos (hN.2 (.inr g')))
   rw [show aV f.vars i x = 11 from hE]
   (try dsimp only[ak]);conv=>whnf
   refine fM ?_;(conv=>whnf);refine ⟨?_,rfl⟩;conv=>whnf
   all_goals exact wk
  have hE2:=hE1.trans (if_neg (fun h=>(hN.1 h).elim g g'))
  clear hE1
  (try dsimp only[ak]);conv=>whnf
  refine aK.of <| aB.inv (.refl _ _) (fun (j : Nat)=>j <= x.args.length /\ (x.args.take j).any (rZ f.vars i) = false) (fun (j : Nat)=>[(41,.int .i64 j)]) (fun _=>_) (fun (j : Nat)=>x.args.length - j) 0 ?_ (fun _=>rfl) ?_ ?_
  ·exact ⟨Nat.zero_le _,rfl⟩
  ·all_goals exact wk
  rintro j ⟨hj,hany⟩ _
  (try dsimp only[ak]);conv=>whnf
  refine And.intro (fun g1=>?_) (fun g1=>?_)
  ·have hjl : j < x.args.length:=by simpa using g1
   have hat:=mF hjl hany
   have hin:=List.getElem_mem hjl
   (try dsimp only[ak]);conv=>whnf
   refine jq hjl ?_
   generalize x.args[j] = a at *
   have bad : rZ f.vars i a = true -> aV f.vars i x = 10:=fun hb=>hE2.trans (if_pos (List.any_eq_true.2 ⟨a,hin,hb⟩))
   (try dsimp only[ak]);conv=>whnf
   refine And.intro (fun g=>?_) (fun g=>?_)
   ·have hE:=bad (decide_eq_true (.inl g))
    rw [show aV f.vars i x = 10 from hE]
    (try dsimp only[ak]);conv=>whnf
    refine fM ?_;(conv=>whnf);refine ⟨?_,rfl⟩;conv=>whnf
    all_goals exact wk
   (try dsimp only[ak]);conv=>whnf
   refine zA ?_;conv=>whnf
   refine And.intro (fun g'=>?_) (fun g'=>?_)
   ·have hE:=bad (decide_eq_true (.inr g'))
    rw [show aV f.vars i x = 10 from hE]
    (try dsimp only[ak]);conv=>whnf
    refine fM ?_;(conv=>whnf);refine ⟨?_,rfl⟩;conv=>whnf
    all_goals exact wk
   (try dsimp only[ak]);conv=>whnf
   refine zA ?_;conv=>whnf
   refine ⟨j + 1,?_,?_,?_⟩
   ·exact ⟨hjl,hat (decide_eq_false (by omega))⟩
   ·all_goals exact wk
   ·omega
  have hjl : j = x.args.length:=by (have : ¬ j < x.args.length:=by simpa using g1); omega
  subst hjl
  rw [List.take_length] at hany
  have hK:=hE2.trans (if_neg (by rw [hany]; simp))
  clear hE2 g g' hN
  (try dsimp only[ak]);conv=>whnf
  refine And.intro (fun g=>?_) (fun g=>?_)
  ·rw [show nN x = if x.k ≠ 0 /\ x.k ≠ 1 then 3 else 0 from if_pos g] at hK
   (try dsimp only[ak]);conv=>whnf
   refine And.intro (fun g=>?_) (fun g=>?_)
   ·(try dsimp only[ak]);conv=>whnf
    refine And.intro (fun g'=>?_) (fun g'=>?_)
    ·have hE:=hK.trans (if_pos ⟨g,g'⟩)
     rw [show aV f.vars i x = 3 from hE]
     (try dsimp only[ak]);conv=>whnf
     refine fM ?_;(conv=>whnf);refine ⟨?_,rfl⟩;conv=>whnf
     all_goals exact wk
    ·have hE:=hK.trans (if_neg (fun h=>g' h.2))
     rw [show aV f.vars i x = 0 from hE]
     (try dsimp only[ak]);conv=>whnf
     refine fM ?_;(conv=>whnf);refine ⟨?_,rfl⟩;conv=>whnf
     all_goals exact wk
   ·have hE:=hK.trans (if_neg (fun h=>g h.1))
    rw [show aV f.vars i x = 0 from hE]
    (try dsimp only[ak]);conv=>whnf
    refine fM ?_;(conv=>whnf);refine ⟨?_,rfl⟩;conv=>whnf
    all_goals exact wk
  have gk:=g
  (try dsimp only[ak]);conv=>whnf
  refine And.intro (fun g=>?_) (fun g=>?_)
  ·rw [show nN x = if x.k < 1 \/ (x.args.length : Int) < x.k then 3 else 0 from (if_neg gk).trans (if_pos g)] at hK
   (try dsimp only[ak]);conv=>whnf
   refine And.intro (fun g=>?_) (fun g=>?_)
   ·have hE:=hK.trans (if_pos (.inl g))
    rw [show aV f.vars i x = 3 from hE]
    (try dsimp only[ak]);conv=>whnf
    refine fM ?_;(conv=>whnf);refine ⟨?_,rfl⟩;conv=>whnf
    all_goals exact wk
   ·(try dsimp only[ak]);conv=>whnf
    refine And.intro (fun g'=>?_) (fun g'=>?_)
    ·have hE:=hK.trans (if_pos (.inr (by simpa using g')))
     rw [show aV f.vars i x = 3 from hE]
     (try dsimp only[ak]);conv=>whnf
     refine fM ?_;(conv=>whnf);refine ⟨?_,rfl⟩;conv=>whnf
     all_goals exact wk
    ·have hE:=hK.trans (if_neg (fun h=>h.elim g (fun h=>g' (by simpa using h))))
     rw [show aV f.vars i x = 0 from hE]
     (try dsimp only[ak]);conv=>whnf
     refine fM ?_;(conv=>whnf);refine ⟨?_,rfl⟩;conv=>whnf
     all_goals exact wk
  rw [show nN x = if x.k ≠ 0 then 2 else 0 from (if_neg gk).trans (if_neg g)] at hK
  (try dsimp only[ak]);conv=>whnf
  refine And.intro (fun g=>?_) (fun g=>?_)
  ·have hE:=hK.trans (if_pos g)
   rw [show aV f.vars i x = 2 from hE]
   (try dsimp only[ak]);conv=>whnf
   refine fM ?_;(conv=>whnf);refine ⟨?_,rfl⟩;conv=>whnf
   all_goals exact wk
  ·have hE:=hK.trans (if_neg g)
   rw [show aV f.vars i x = 0 from hE]
   (try dsimp only[ak]);conv=>whnf
   refine fM ?_;(conv=>whnf);refine ⟨?_,rfl⟩;conv=>whnf
   all_goals exact wk
 (try dsimp only[ak]);conv=>whnf
 refine And.intro (fun g5=>?_) (fun g5=>?_)
 ·replace hE1:=hE1 (by omega)
  (try dsimp only[ak]);conv=>whnf
  rw [List.length_map]
  refine And.intro (fun g=>?_) (fun g=>?_)
  ·have hE:=hE1.trans (if_pos (hN.2 (.inl g)))
   rw [show aV f.vars i x = 11 from hE]
   (try dsimp only[ak]);conv=>whnf
   refine fM ?_;(conv=>whnf);refine ⟨?_,rfl⟩;conv=>whnf
   all_goals exact wk
  (try dsimp only[ak]);conv=>whnf
  rw [List.length_map]
  refine And.intro (fun g'=>?_) (fun g'=>?_)
  ·have hE:=hE1.trans (if_pos (hN.2 (.inr g')))
   rw [show aV f.vars i x = 11 from hE]
   (try dsimp only[ak]);conv=>whnf
   refine fM ?_;(conv=>whnf);refine ⟨?_,rfl⟩;conv=>whnf
   all_goals exact wk
  have hE2:=hE1.trans (if_neg (fun h=>(hN.1 h).elim g g'))
  clear hE1
  (try dsimp only[ak]);conv=>whnf
  refine aK.of <| aB.inv (.refl _ _) (fun (j : Nat)=>j <= x.args.length /\ (x.args.take j).any (rZ f.vars i) = false) (fun (j : Nat)=>[(41,.int .i64 j)]) (fun _=>_) (fun (j : Nat)=>x.args.length - j) 0 ?_ (fun _=>rfl) ?_ ?_
  ·exact ⟨Nat.zero_le _,rfl⟩
  ·all_goals exact wk
  rintro j ⟨hj,hany⟩ _
  (try dsimp only[ak]);conv=>whnf
  refine And.intro (fun g1=>?_) (fun g1=>?_)
  ·have hjl : j < x.args.length:=by simpa using g1
   have hat:=mF hjl hany
   have hin:=List.getElem_mem hjl
   (try dsimp only[ak]);conv=>whnf
   refine jq hjl ?_
   generalize x.args[j] = a at *
   have bad : rZ f.vars i a = true -> aV f.vars i x = 10:=fun hb=>hE2.trans (if_pos (List.any_eq_true.2 ⟨a,hin,hb⟩))
   (try dsimp only[ak]);conv=>whnf
   refine And.intro (fun g=>?_) (fun g=>?_)
   ·have hE:=bad (decide_eq_true (.inl g))
    rw [show aV f.vars i x = 10 from hE]
    (try dsimp only[ak]);conv=>whnf
    refine fM ?_;(conv=>whnf);refine ⟨?_,rfl⟩;conv=>whnf
    all_goals exact wk
   (try dsimp only[ak]);conv=>whnf
   refine zA ?_;conv=>whnf
   refine And.intro (fun g'=>?_) (fun g'=>?_)
   ·have hE:=bad (decide_eq_true (.inr g'))
    rw [show aV f.vars i x = 10 from hE]
    (try dsimp only[ak]);conv=>whnf
    refine fM ?_;(conv=>whnf);refine ⟨?_,rfl⟩;conv=>whnf
    all_goals exact wk
   (try dsimp only[ak]);conv=>whnf
   refine zA ?_;conv=>whnf
   refine ⟨j + 1,?_,?_,?_⟩
   ·exact ⟨hjl,hat (decide_eq_false (by omega))⟩
   ·all_goals exact wk
   ·omega
  have hjl : j = x.args.length:=by (have : ¬ j < x.args.length:=by simpa using g1); omega
  subst hjl
  rw [List.take_length] at hany
  have hK:=hE2.trans (if_neg (by rw [hany]; simp))
  clear hE2 g g' hN
  (try dsimp only[ak]);conv=>whnf
  refine And.intro (fun g=>?_) (fun g=>?_)
  ·rw [show nN x = if x.k ≠ 0 /\ x.k ≠ 1 then 3 else 0 from if_pos g] at hK
   (try dsimp only[ak]);conv=>whnf
   refine And.intro (fun g=>?_) (fun g=>?_)
   ·(try dsimp only[ak]);conv=>whnf
    refine And.intro (fun g'=>?_) (fun g'=>?_)
    ·have hE:=hK.trans (if_pos ⟨g,g'⟩)
     rw [show aV f.vars i x = 3 from hE]
     (try dsimp only[ak]);conv=>whnf
     refine fM ?_;(conv=>whnf);refine ⟨?_,rfl⟩;conv=>whnf
     all_goals exact wk
    ·have hE:=hK.trans (if_neg (fun h=>g' h.2))
     rw [show aV f.vars i x = 0 from hE]
     (try dsimp only[ak]);conv=>whnf
     refine fM ?_;(conv=>whnf);refine ⟨?_,rfl⟩;conv=>whnf
     all_goals exact wk
   ·have hE:=hK.trans (if_neg (fun h=>g h.1))
    rw [show aV f.vars i x = 0 from hE]
    (try dsimp only[ak]);conv=>whnf
    refine fM ?_;(conv=>whnf);refine ⟨?_,rfl⟩;conv=>whnf
    all_goals exact wk
  have gk:=g
  (try dsimp only[ak]);conv=>whnf
  refine And.intro (fun g=>?_) (fun g=>?_)
  ·rw [show nN x = if x.k < 1 \/ (x.args.length : Int) < x.k then 3 else 0 from (if_neg gk).trans (if_pos g)] at hK
   (try dsimp only[ak]);conv=>whnf
   refine And.intro (fun g=>?_) (fun g=>?_)
   ·have hE:=hK.trans (if_pos (.inl g))
    rw [show aV f.vars i x = 3 from hE]
    (try dsimp only[ak]);conv=>whnf
    refine fM ?_;(conv=>whnf);refine ⟨?_,rfl⟩;conv=>whnf
    all_goals exact wk
   ·(try dsimp only[ak]);conv=>whnf
    refine And.intro (fun g'=>?_) (fun g'=>?_)
    ·have hE:=hK.trans (if_pos (.inr (by simpa using g')))
     rw [show aV f.vars i x = 3 from hE]
     (try dsimp only[ak]);conv=>whnf
     refine fM ?_;(conv=>whnf);refine ⟨?_,rfl⟩;conv=>whnf
     all_goals exact wk
    ·have hE:=hK.trans (if_neg (fun h=>h.elim g (fun h=>g' (by simpa using h))))
     rw [show aV f.vars i x = 0 from hE]
     (try dsimp only[ak]);conv=>whnf
     refine fM ?_;(conv=>whnf);refine ⟨?_,rfl⟩;conv=>whnf
     all_goals exact wk
  rw [show nN x = if x.k ≠ 0 then 2 else 0 from (if_neg gk).trans (if_neg g)] at hK
  (try dsimp only[ak]);conv=>whnf
  refine And.intro (fun g=>?_) (fun g=>?_)
  ·have hE:=hK.trans (if_pos g)
   rw [show aV f.vars i x = 2 from hE]
   (try dsimp only[ak]);conv=>whnf
   refine fM ?_;(conv=>whnf);refine ⟨?_,rfl⟩;conv=>whnf
   all_goals exact wk
  ·have hE:=hK.trans (if_neg g)
   rw [show aV f.vars i x = 0 from hE]
   (try dsimp only[ak]);conv=>whnf
   refine fM ?_;(conv=>whnf);refine ⟨?_,rfl⟩;conv=>whnf
   all_goals exact wk
 ·have hE : aV f.vars i x = 7:=if_pos (by omega)
  rw [show aV f.vars i x = 7 from hE]
  (try dsimp only[ak]);conv=>whnf
  refine fM ?_;(conv=>whnf);refine ⟨?_,rfl⟩;conv=>whnf
  all_goals exact wk

theorem Qr (f : Fo) (hv : 0 <= f.vars /\ f.vars <= 24) : aA Tryz.prog 139 [f.av,.int .i64 f.top] [] (.bool (decide (0 <= f.top /\ f.top < f.vars + f.nodes.length))) []:=by
 refine aA.intro lay mixed Tryz.func139 (by kernel_rfl) rfl (by kernel_rfl) rfl fun hok=>?_
 have hi1 : -9223372036854775808 <= f.top /\ f.top <= 9223372036854775807:=hok.1.2.2.1
 (try dsimp only[aZ,aN]);(try dsimp only[ak]);conv=>whnf
 refine And.intro (fun _=>?_) (fun g=>by exfalso; omega)
 (try dsimp only[ak]);conv=>whnf
 refine And.intro (fun g0=>?_) (fun g0=>?_)
 ·(try dsimp only[ak]);conv=>whnf
  refine And.intro (fun g=>?_) (fun g=>?_)
  ·(try dsimp only[ak]);conv=>whnf
   refine fM ?_;(conv=>whnf);refine ⟨?_,rfl⟩;conv=>whnf
   exact decide_eq_true (by omega)
  ·(try dsimp only[ak]);conv=>whnf
   refine zA ?_;conv=>whnf
   refine fM ?_;(conv=>whnf);refine ⟨?_,rfl⟩;conv=>whnf
   show (f.top - f.vars < (((f.nodes.map Nd.av).length : Nat) : Int)) ↔ _
   rw [decide_eq_true_iff,List.length_map]
   omega
 ·(try dsimp only[ak]);conv=>whnf
  refine fM ?_;(conv=>whnf);refine ⟨?_,rfl⟩;conv=>whnf
  exact decide_eq_false (by omega)

theorem Gz (f : Fo) : aA Tryz.prog 58 [f.av] [] (.int .i64 (iq f)) []:=by
 refine aA.intro lay mixed Tryz.func58 (by kernel_rfl) rfl (by kernel_rfl) rfl fun hok=>?_
 (try dsimp only[aZ,aN]);(try dsimp only[ak]);conv=>whnf
 refine And.intro (fun g=>?_) (fun g=>?_)
 ·have hE : iq f = 3:=if_pos (.inl g)
  rw [show iq f = 3 from hE]
  (try dsimp only[ak]);conv=>whnf
  refine fM ?_;(conv=>whnf);refine ⟨?_,rfl⟩;conv=>whnf
  all_goals exact wk
 (try dsimp only[ak]);conv=>whnf
 refine And.intro (fun g'=>?_) (fun g'=>?_)
 ·have hE : iq f = 3:=if_pos (.inr g')
  rw [show iq f = 3 from hE]
  (try dsimp only[ak]);conv=>whnf
  refine fM ?_;(conv=>whnf);refine ⟨?_,rfl⟩;conv=>whnf
  all_goals exact wk
 have hE1 : iq f = if 128 < f.nodes.length then 4 else if jM f.vars 0 f.nodes ≠ 0 then jM f.vars 0 f.nodes else if ¬ (0 <= f.top /\ f.top < f.vars + f.nodes.length) then 10 else 0:=if_neg (by omega)
 (try dsimp only[ak]);conv=>whnf
 rw [List.length_map]
 refine And.intro (fun g2=>?_) (fun g2=>?_)
 ·have hE:=hE1.trans (if_pos (by omega))
  rw [show iq f = 4 from hE]
  (try dsimp only[ak]);conv=>whnf
  refine fM ?_;(conv=>whnf);refine ⟨?_,rfl⟩;conv=>whnf
  all_goals exact wk
 have hE2:=hE1.trans (if_neg (by omega))
 clear hE1
 have cv:=Qr f (by omega)
 have cn:=fun i hi=>U2 f (by omega) i hi (by omega)
 (try dsimp only[ak]);conv=>whnf
 refine aK.of <| aB.inv (.refl _ _) (fun (i : Nat)=>i <= f.nodes.length /\ jM f.vars 0 f.nodes = jM f.vars i (f.nodes.drop i)) (fun (i : Nat)=>[(20,.int .i64 i)]) (fun _=>_) (fun (i : Nat)=>f.nodes.length - i) 0 ?_ (fun _=>rfl) ?_ ?_
 ·exact ⟨Nat.zero_le _,rfl⟩
 ·all_goals exact wk
 rintro i ⟨hi,hnd⟩ _
 (try dsimp only[ak]);conv=>whnf
 refine And.intro (fun g1=>?_) (fun g1=>?_)
 ·have hil : i < f.nodes.length:=by simpa using g1
  have cni:=cn i hil
  rw [CY hil] at hnd
  by_cases he : aV f.vars i f.nodes[i] ≠ 0
  ·rw [if_pos he] at hnd
   have hE:=hE2.trans (if_pos (by rw [hnd]; exact he))
   rw [hnd] at hE
   rw [hE]
   generalize aV f.vars i f.nodes[i] = ee at *
   (try dsimp only[ak]);conv=>whnf
   refine .pure _ _ ?_ ⟨rfl,rfl⟩ cni fun _=>?_
   ·exact aj _
   (try dsimp only[ak]);conv=>whnf
   refine And.intro (fun _=>?_) (fun h=>absurd he h)
   (try dsimp only[ak]);conv=>whnf
   refine fM ?_;(conv=>whnf);refine ⟨?_,rfl⟩;conv=>whnf
   all_goals exact wk
  ·rw [if_neg he] at hnd
   have he0 : aV f.vars i f.nodes[i] = 0:=by simpa using he
   rw [he0] at cni
   (try dsimp only[ak]);conv=>whnf
   refine .pure _ _ ?_ ⟨rfl,rfl⟩ cni fun _=>?_
   ·exact aj _
   (try dsimp only[ak]);conv=>whnf
   refine And.intro (fun h=>absurd rfl h) (fun _=>?_)
   (try dsimp only[ak]);conv=>whnf
   refine zA ?_;conv=>whnf
   refine ⟨i + 1,?_,?_,?_⟩
   ·exact ⟨hil,hnd⟩
   ·all_goals exact wk
   ·omega
 have hil : i = f.nodes.length:=by (have : ¬ i < f.nodes.length:=by simpa using g1); omega
 subst hil
 rw [List.drop_length] at hnd
 have hE3:=hE2.trans (if_neg (by rw [hnd]; simp [jM]))
 (try dsimp only[ak]);conv=>whnf
 refine .pure _ _ ?_ ⟨rfl,rfl⟩ cv fun _=>?_
 ·exact aj _
 (try dsimp only[ak]);conv=>whnf
 refine And.intro (fun g4=>?_) (fun g4=>?_)
 ·have hE:=hE3.trans (if_pos (fun h=>by rw [decide_eq_true h] at g4; cases g4))
  rw [show iq f = 10 from hE]
  (try dsimp only[ak]);conv=>whnf
  refine fM ?_;(conv=>whnf);refine ⟨?_,rfl⟩;conv=>whnf
  all_goals exact wk
 ·have hE:=hE3.trans (if_neg (fun h=>by rw [decide_eq_false h] at g4; cases g4))
  rw [show iq f = 0 from hE]
  (try dsimp only[ak]);conv=>whnf
  refine fM ?_;(conv=>whnf);refine ⟨?_,rfl⟩;conv=>whnf
  all_goals exact wk

def eP (a b : Fo) : Int:=if iq a ≠ 0 then iq a else if iq b ≠ 0 then iq b else if a.vars ≠ b.vars then 11 else 0

theorem lZ {a b : Fo} (h : eP a b = 0) : qB a /\ qB b /\ a.vars = b.vars:=by
 unfold eP at h
 split at h
 ·contradiction
 split at h
 ·contradiction
 split at h
 ·cases h
 rename_i h1 h2 h3
 exact ⟨NP (by simpa using h1),NP (by simpa using h2),by simpa using h3⟩

theorem uj (a b : Fo) (R : AV) (hR : R = x9 (eP a b)) : aA Tryz.prog 48 [a.av,b.av] [] R []:=by
 have ca:=JC a _ rfl
 have cb:=JC b _ rfl
 refine aA.intro lay mixed Tryz.func48 (by kernel_rfl) rfl (by kernel_rfl) rfl fun hok=>?_
 (try dsimp only[aZ,aN]);(try dsimp only[ak]);conv=>whnf
 refine aK.step 2 ?_
 (try dsimp only[ak]);conv=>whnf
 refine And.intro (fun _=>?_) (fun h=>absurd (by simp) h)
 (try dsimp only[ak]);conv=>whnf
 refine dh.mk ⟨_,⟨by decide,rfl⟩,?_⟩
 (try dsimp only[ak]);conv=>whnf
 by_cases ha : iq a ≠ 0
 ·rw [jB ha] at ca
  rw [show eP a b = iq a from if_pos ha,jB ha] at hR
  subst hR
  refine .pure _ _ ?_ ⟨rfl,rfl⟩ ca fun _=>?_
  ·exact aj _
  (try dsimp only[ak]);conv=>whnf
  refine fM ?_;(conv=>whnf);refine ⟨?_,rfl⟩;conv=>whnf
  all_goals exact wk
 rw [show iq a = 0 by simpa using ha,gu] at ca
 rw [show eP a b = if iq b ≠ 0 then iq b else if a.vars ≠ b.vars then 11 else 0 from if_neg ha] at hR
 refine .pure _ _ ?_ ⟨rfl,rfl⟩ ca fun _=>?_
 ·exact aj _
 (try dsimp only[ak]);conv=>whnf
 refine zA ?_;conv=>whnf
 refine And.intro (fun _=>?_) (fun h=>absurd (by simp) h)
 (try dsimp only[ak]);conv=>whnf
 refine dh.mk ⟨_,⟨by decide,rfl⟩,?_⟩
 (try dsimp only[ak]);conv=>whnf
 by_cases hb : iq b ≠ 0
 ·rw [jB hb] at cb
  rw [if_pos hb,jB hb] at hR
  subst hR
  refine .pure _ _ ?_ ⟨rfl,rfl⟩ cb fun _=>?_
  ·exact aj _
  (try dsimp only[ak]);conv=>whnf
  refine fM ?_;(conv=>whnf);refine ⟨?_,rfl⟩;conv=>whnf
  all_goals exact wk
 rw [show iq b = 0 by simpa using hb,gu] at cb
 rw [if_neg hb] at hR
 refine .pure _ _ ?_ ⟨rfl,rfl⟩ cb fun _=>?_
 ·exact aj _
 (try dsimp only[ak]);conv=>whnf
 refine zA ?_;conv=>whnf
 refine And.intro (fun h=>absurd h (by simp)) (fun _=>?_)
 (try dsimp only[ak]);conv=>whnf
 refine And.intro (fun g=>?_) (fun g=>?_)
 ·rw [if_pos g] at hR
  obtain rfl : R = .jm 111 (.int .i64 11):=by rw [hR]; rfl
  (try dsimp only[ak]);conv=>whnf
  refine fM ?_;(conv=>whnf);refine ⟨?_,rfl⟩;conv=>whnf
  all_goals exact wk
 ·rw [if_neg g] at hR
  obtain rfl : R = .dN:=by rw [hR]; rfl
  (try dsimp only[ak]);conv=>whnf
  refine fM ?_;(conv=>whnf);refine ⟨?_,rfl⟩;conv=>whnf
  all_goals exact wk

theorem Gy (a b : Fo) : aA Tryz.prog 15 [a.av,b.av] [] (.int .i64 (eP a b)) []:=by
 have ca:=Gz a
 have cb:=Gz b
 refine aA.intro lay mixed Tryz.func15 (by kernel_rfl) rfl (by kernel_rfl) rfl fun hok=>?_
 (try dsimp only[aZ,aN]);(try dsimp only[ak]);conv=>whnf
 refine .pure _ _ ?_ ⟨rfl,rfl⟩ ca fun _=>?_
 ·exact aj _
 (try dsimp only[ak]);conv=>whnf
 refine And.intro (fun ha=>?_) (fun ha=>?_)
 ·rw [show eP a b = iq a from if_pos ha]
  (try dsimp only[ak]);conv=>whnf
  refine fM ?_;(conv=>whnf);refine ⟨?_,rfl⟩;conv=>whnf
  all_goals exact wk
 rw [show eP a b = if iq b ≠ 0 then iq b else if a.vars ≠ b.vars then 11 else 0 from if_neg ha]
 (try dsimp only[ak]);conv=>whnf
 refine .pure _ _ ?_ ⟨rfl,rfl⟩ cb fun _=>?_
 ·exact aj _
 (try dsimp only[ak]);conv=>whnf
 refine And.intro (fun hb=>?_) (fun hb=>?_)
 ·rw [if_pos hb]
  (try dsimp only[ak]);conv=>whnf
  refine fM ?_;(conv=>whnf);refine ⟨?_,rfl⟩;conv=>whnf
  all_goals exact wk
 rw [if_neg hb]
 (try dsimp only[ak]);conv=>whnf
 refine And.intro (fun g=>?_) (fun g=>?_)
 ·rw [if_pos g]
  (try dsimp only[ak]);conv=>whnf
  refine fM ?_;(conv=>whnf);refine ⟨?_,rfl⟩;conv=>whnf
  all_goals exact wk
 ·rw [if_neg g]
  (try dsimp only[ak]);conv=>whnf
  refine fM ?_;(conv=>whnf);refine ⟨?_,rfl⟩;conv=>whnf
  all_goals exact wk

structure Df where
 eq : Bool
 st : Nat
 cnt : Nat
 ga : Nat
 lo : Nat
 deriving DecidableEq

def Df.av (d : Df) : AV:=.ag [.bool d.eq,.int .i64 d.st,.int .i64 d.cnt,.int .i64 d.ga,.int .i64 d.lo]

def BQ (va vb : Nat -> Bool) : Nat -> Df
 | 0=>⟨true,0,0,0,0⟩
 | s + 1=>if va s = vb s then BQ va vb s else ⟨false,if (BQ va vb s).eq = true then s else (BQ va vb s).st,(BQ va vb s).cnt + 1,if vb s = true then (BQ va vb s).ga + 1 else (BQ va vb s).ga,if vb s = true then (BQ va vb s).lo else (BQ va vb s).lo + 1⟩

def xP (f : Fo) (m : Nat) : Bool:=(jh (l0 f.vars.toNat (pO m)) f.nodes).getD f.top.toNat false
def l7 (a b : Fo) : Df:=BQ (xP a) (xP b) (2 ^ a.vars.toNat)

theorem vS (va vb : Nat -> Bool) : ∀ n,((BQ va vb n).eq = true ↔ ∀ m < n,va m = vb m) /\ ((BQ va vb n).eq = true -> (BQ va vb n).st = 0) /\
  ((BQ va vb n).eq = false -> (BQ va vb n).st < n /\ va (BQ va vb n).st ≠ vb (BQ va vb n).st /\ ∀ m < n,va m ≠ vb m -> (BQ va vb n).st <= m) /\
  (BQ va vb n).cnt = (List.range n).countP (fun m=>va m ^^ vb m) /\ (BQ va vb n).ga = (List.range n).countP (fun m=>(va m ^^ vb m) && vb m) /\ (BQ va vb n).lo = (List.range n).countP (fun m=>(va m ^^ vb m) && va m)
 | 0=>by simp [BQ]
 | n + 1=>by
   obtain ⟨h1,h2,h3,h4,h5,h6⟩:=vS va vb n
   unfold BQ
   generalize BQ va vb n = d at *
   rw [List.range_succ,List.countP_append,List.countP_append,List.countP_append]
   split
   ·rename_i e
    refine ⟨h1.trans ⟨fun h m hm=>?_,fun h m hm=>h m (by omega)⟩,h2,fun h=>?_,?_,?_,?_⟩
    ·by_cases hmn : m = n
     ·rw [hmn]; exact e
     ·exact h m (by omega)
    ·obtain ⟨q1,q2,q3⟩:=h3 h
     refine ⟨by omega,q2,fun m hm hne=>?_⟩
     by_cases hmn : m = n
     ·rw [hmn] at hne; exact absurd e hne
     ·exact q3 m (by omega) hne
    ·rw [h4]; simp [e]
    ·rw [h5]; simp [e]
    ·rw [h6]; simp [e]
   ·rename_i e
    have hx : (va n ^^ vb n) = true:=by cases hv : va n <;> cases hw : vb n <;> simp_all
    refine ⟨⟨fun h=>(by cases h),fun h=>absurd (h n (by omega)) e⟩,fun h=>(by cases h),fun _=>?_,?_,?_,?_⟩
    ·dsimp only
     split
     ·rename_i hd
      refine ⟨by omega,e,fun m hm hne=>?_⟩
      by_cases hmn : m = n
      ·omega
      ·exact absurd (h1.1 hd m (by omega)) hne
     ·rename_i hd
      obtain ⟨q1,q2,q3⟩:=h3 (by simpa using hd)
      refine ⟨by omega,q2,fun m hm hne=>?_⟩
      by_cases hmn : m = n
      ·omega
      ·exact q3 m (by omega) hne
    ·dsimp only
     rw [h4]; simp [hx]
    ·dsimp only
     rw [h5]
     cases hv : vb n <;> cases hw : va n <;> simp_all
    ·dsimp only
     rw [h6]
     cases hv : va n <;> cases hw : vb n <;> simp_all

theorem lF.to {T T' : Tb} (h : Xt T T') {ns : List Node} {k : Nat} {x : Node} (g : lF T ns k x) : lF T' ns k x:=by
 have e : ∀ r,lW T' ns r = lW T ns r:=fun r=>by unfold lW; rw [h.n,h.pl]
 obtain ⟨a,b,c,d,f⟩:=g
 rw [<- h.n] at a
 rw [<- h.pl,<- e] at d f
 exact ⟨a,b,c,d,f⟩

theorem ni {α : Type} {p q : α -> Bool} : ∀ {l : List α},(∀ x ∈ l,p x = q x) -> l.countP p = l.countP q
 | [],_=>rfl
 | x :: l,h=>by
   rw [List.countP_cons,List.countP_cons,ni fun y hy=>h y (by simp [hy]),h x (by simp)]

theorem Gt {T : Tb} (hT : bJ T) {r : Int} (hr : T.Rf r) : T.cnt r = (List.range (2 ^ T.n.toNat)).countP fun m=>ev T.nodes (pO m) r:=by
 unfold Tb.cnt
 rw [yN]
 refine ni fun m _=>?_
 refine vP hT r.toNat r hr (by have:=hr.1; omega) _ _ fun j h0 h1 _=>?_
 rw [if_pos ⟨h0,by omega⟩]
 rfl

theorem c_tNew3 {o : List Int} {n : Nat} (h : sH o n) (hn : n <= 60) (o2 o1 o0 : HO) : aA Tryz.prog 50 [iL o] [(2,o2),(1,o1),(0,o0)] (.ptr 6 [] 0) (VT (Tb.new o) [(2,o2),(1,o1),(0,o0)]):=by
 have c:=X5 h hn
 have:=aA.frame (H:=[(2,o2),(1,o1),(0,o0)]) (args:=[iL o]) [] c ⟨rfl,rfl,rfl,rfl⟩ trivial (aj _)
 have e : Iy [] (hpN o) [(2,o2),(1,o1),(0,o0)] = VT (Tb.new o) [(2,o2),(1,o1),(0,o0)]:=by
  show (7,HO.tok 3 0) :: (6,HO.box (.ag [.sl 1 (o.map (.int .i64)) .no,.ms 3 0 o.length o.length 1,.sl 3 [] (.own 7),.mp 4,.mp 5])) :: (5,HO.dU IZ []) :: (4,HO.dU IZ []) :: (3,.arr 1 o.length ((oq o o.length).map (.int .i64))) :: _ =
   (7,HO.tok 3 0) :: (6,HO.box (.ag [.sl 1 (o.map (.int .i64)) .no,.ms 3 0 (oq o o.length).length (oq o o.length).length 1,.sl 3 [] (.own 7),.mp 4,.mp 5])) :: (5,HO.dU IZ []) :: (4,HO.dU IZ []) :: (3,.arr 1 (oq o o.length).length ((oq o o.length).map (.int .i64))) :: _
  rw [jL]; rfl
 rw [e] at this
 exact this

theorem Oa {va vb : Nat -> Bool} : ∀ {n : Nat},(∀ m < n,va m = vb m) -> BQ va vb n = ⟨true,0,0,0,0⟩
 | 0,_=>rfl
 | n + 1,h=>by
   unfold BQ
   rw [if_pos (h n (by omega))]
   exact Oa fun m hm=>h m (by omega)

theorem df_ext {d : Df} {e : Bool} {s c g l : Nat} (h1 : d.eq = e) (h2 : d.st = s) (h3 : d.cnt = c) (h4 : d.ga = g) (h5 : d.lo = l) : d = ⟨e,s,c,g,l⟩:=by
 obtain ⟨_,_,_,_,_⟩:=d
 dsimp only at *
 subst h1 h2 h3 h4 h5
 rfl

abbrev zDf : AV:=.ag [.ff,.int .i64 0,.int .i64 0,.int .i64 0,.int .i64 0]

theorem JE (a b : Fo) (h0 : eP a b = 0) (h7 : a.vars <= 7) : aA Tryz.prog 14 [a.av,b.av] [] (.dV [(l7 a b).av,.dN]) []:=by
 obtain ⟨ha,hb,hab⟩:=lZ h0
 have cc:=uj a b _ rfl
 rw [h0,gu] at cc
 have hav:=ha.vars
 have hp:=xC a ha
 have cd:=GI a ha
 generalize uV a = o at *
 have hpb : sH o b.vars.toNat:=by rw [<- hab]; exact hp
 have hT0 : bJ (Tb.new o):=Fj hp (by omega)
 have hn0 : (Tb.new o).n = a.vars:=by show (o.length : Int) = _; rw [hp.len]; omega
 obtain ⟨nsa,xa,ba,ga,ra0,ra1,va,la⟩:=GK (N:=7) (by omega) a ha (by omega) hp
 obtain ⟨nsb,xb,bb,gb,rb0,rb1,vb,lb⟩:=GK (N:=7) (by omega) b hb (by omega) hpb
 have hz : (Tb.new o).nodes.length = 0:=rfl
 obtain ⟨T1,ya,ia,g1,x1,r1,v1,s1⟩:=JB (Tb.new o) o nsa xa hT0 ga (by omega) ⟨ra0,ra1⟩
 obtain ⟨T2,yb,ib,g2,x2,r2,v2,s2⟩:=JB T1 o nsb xb g1 (fun k hk=>(gb k hk).to x1) (by omega) ⟨rb0,rb1⟩
 have hn2 : T2.n = a.vars:=by rw [x2.n,x1.n,hn0]
 have r12:=x2.rf r1
 obtain ⟨T3,d,xo,p3⟩:=X3 7 T2 g2 (by omega) ya yb r12 r2 (by omega)
 have s3:=p3.size
 have hn3 : T3.n = a.vars:=by rw [p3.ext.n,hn2]
 have sm:=Om 7 (by omega) T3 p3.good (by omega) (by omega) d p3.rf
 have cn:=fun o2 o1 o0=>c_tNew3 hp (by omega) o2 o1 o0
 have ea : ∀ t,ev T2.nodes t ya = (jh (l0 a.vars.toNat t) a.nodes).getD a.top.toNat false:=fun t=>by rw [x2.ev r1,v1,va]
 have eb : ∀ t,ev T2.nodes t yb = (jh (l0 b.vars.toNat t) b.nodes).getD b.top.toNat false:=fun t=>by rw [v2,vb]
 have ed : ∀ m,ev T3.nodes (pO m) d = (xP a m ^^ xP b m):=fun m=>by rw [p3.val,ea,eb]; rfl
 have spec:=vS (xP a) (xP b) (2 ^ a.vars.toNat)
 have hcmp : l7 a b = BQ (xP a) (xP b) (2 ^ a.vars.toNat):=rfl
 rw [<- hcmp] at spec
 have iR : ∀ (m : Nat) (t : Int -> Bool),(∀ j,0 <= j -> j < T3.n -> pO m j = t j) -> ev T3.nodes t d = ev T3.nodes (pO m) d:=fun m t ht =>
  vP p3.good d.toNat d p3.rf (by have:=p3.rf.1; omega) _ _ fun j h0 h1 _=>(ht j h0 h1).symm
 refine aA.intro lay mixed Tryz.func14 (by kernel_rfl) rfl (by kernel_rfl) rfl fun hok=>?_
 (try dsimp only[aZ,aN]);(try dsimp only[ak]);conv=>whnf
 refine .pure _ _ ?_ ⟨rfl,rfl⟩ cc fun _=>?_
 ·exact aj _
 (try dsimp only[ak]);conv=>whnf
 refine .pure _ _ ?_ ⟨rfl,rfl⟩ cd fun _=>?_
 ·exact aj _
 (try dsimp only[ak]);conv=>whnf
 refine .gen _ _ (cn _ _ _) fun _=>?_
 (try dsimp only[ak]);conv=>whnf
 refine aK.step 2 ?_
 (try dsimp only[ak]);conv=>whnf
 refine And.intro (fun _=>?_) (fun h=>absurd (by simp) h)
 (try dsimp only[ak]);conv=>whnf
 refine dh.mk ⟨_,⟨by decide,rfl⟩,?_⟩
 (try dsimp only[ak]);conv=>whnf
 refine .pure _ _ ?_ ⟨rfl,rfl⟩ ba fun _=>?_
 ·exact aj _
 (try dsimp only[ak]);conv=>whnf
 refine .gen _ _ (Iz (As:=[.ptr 6 [] 0,yg o nsa xa]) (R':=.int .i64 ya) [(10,_),(9,_),(8,_)] (by simp) ia (fun _=>rfl) (fun _=>rfl) rfl) fun _=>?_
 (try dsimp only[ak]);conv=>whnf
 refine ⟨by decide,?_⟩
 (try dsimp only[ak]);conv=>whnf
 refine zA ?_;conv=>whnf
 refine And.intro (fun _=>?_) (fun h=>absurd (by simp) h)
 (try dsimp only[ak]);conv=>whnf
 refine dh.mk ⟨_,⟨by decide,rfl⟩,?_⟩
 (try dsimp only[ak]);conv=>whnf
 refine .pure _ _ ?_ ⟨rfl,rfl⟩ bb fun _=>?_
 ·exact aj _
 (try dsimp only[ak]);conv=>whnf
 refine .gen _ _ (Iz (As:=[.ptr 6 [] 0,yg o nsb xb]) (R':=.int .i64 yb) [(12,_),(11,_),(10,_),(9,_),(8,_)] (by simp) ib (fun _=>rfl) (fun _=>rfl) rfl) fun _=>?_
 (try dsimp only[ak]);conv=>whnf
 refine ⟨by decide,?_⟩
 (try dsimp only[ak]);conv=>whnf
 refine zA ?_;conv=>whnf
 refine And.intro (fun h=>absurd h (by simp)) (fun _=>?_)
 (try dsimp only[ak]);conv=>whnf
 refine ⟨by decide,?_⟩
 (try dsimp only[ak]);conv=>whnf
 refine ⟨by decide,?_⟩
 (try dsimp only[ak]);conv=>whnf
 refine .gen _ _ (Iz (As:=[.ptr 6 [] 0,.int .i64 ya,.int .i64 yb]) (R':=.int .i64 d) [(12,_),(11,_),(10,_),(9,_),(8,_)] (by simp) xo (fun _=>rfl) (fun _=>rfl) rfl) fun _=>?_
 (try dsimp only[ak]);conv=>whnf
 refine .gen _ _ (Iz (As:=[.ptr 6 [] 0,.int .i64 d,.int .i64 4096]) (R':=.tt) [(12,_),(11,_),(10,_),(9,_),(8,_)] (by simp) sm (fun _=>rfl) (fun _=>rfl) rfl) fun _=>?_
 (try dsimp only[ak]);conv=>whnf
 refine And.intro (fun hd=>?_) (fun hd=>?_)
 ·have hsame : l7 a b = ⟨true,0,0,0,0⟩:=by
   rw [hcmp]
   refine Oa fun m _=>?_
   have:=ed m
   rw [hd,oC] at this
   cases hx : xP a m <;> cases hy : xP b m <;> rw [hx,hy] at this <;> first | rfl | cases this
  rw [hsame]
  (try dsimp only[ak]);conv=>whnf
  refine fM ?_;(conv=>whnf);refine ⟨?_,rfl⟩;conv=>whnf
  all_goals exact wk
 have hdr:=p3.rf
 obtain ⟨T4,q,l4,g4,x4,q1,q2,q3,s4⟩:=c_least 7 (by omega) T3 p3.good (by omega) d hdr hd 300000 (by omega) (by
  have : 2 * T3.n.toNat * (2 ^ 7 * (2 ^ 7 + 2)) <= 2 * 7 * (2 ^ 7 * (2 ^ 7 + 2)):=Nat.mul_le_mul (by omega) (Nat.le_refl _)
  omega)
 rw [hn3] at l4
 have hn4 : T4.n = a.vars:=by rw [x4.n,hn3]
 have hd4:=x4.rf hdr
 have ct1:=Gx T4 g4 (by omega) d hd4
 have hyb4:=x4.rf (p3.ext.rf r2)
 have hya4:=x4.rf (p3.ext.rf r12)
 obtain ⟨T5,e1,an1,p5⟩:=Qn 7 T4 g4 (by omega) d yb hd4 hyb4 (by omega)
 have s5:=p5.size
 have hn5 : T5.n = a.vars:=by rw [p5.ext.n,hn4]
 have ct2:=Gx T5 p5.good (by omega) e1 p5.rf
 obtain ⟨T6,e2,an2,p6⟩:=Qn 7 T5 p5.good (by omega) d ya (p5.ext.rf hd4) (p5.ext.rf hya4) (by omega)
 have s6:=p6.size
 have hn6 : T6.n = a.vars:=by rw [p6.ext.n,hn5]
 have ct3:=Gx T6 p6.good (by omega) e2 p6.rf
 have eb3 : ∀ m,ev T3.nodes (pO m) yb = xP b m:=fun m=>by rw [p3.ext.ev r2,eb]; rfl
 have ea3 : ∀ m,ev T3.nodes (pO m) ya = xP a m:=fun m=>by rw [p3.ext.ev r12,ea]; rfl
 have k1 : T4.cnt d = (l7 a b).cnt:=by
  rw [Gt g4 hd4,spec.2.2.2.1,hn4]
  exact ni fun m _=>by rw [x4.ev hdr,ed]
 have k2 : T5.cnt e1 = (l7 a b).ga:=by
  rw [Gt p5.good p5.rf,spec.2.2.2.2.1,hn5]
  exact ni fun m _=>by rw [p5.val,x4.ev hdr,x4.ev (p3.ext.rf r2),ed,eb3]
 have k3 : T6.cnt e2 = (l7 a b).lo:=by
  rw [Gt p6.good p6.rf,spec.2.2.2.2.2,hn6]
  exact ni fun m _=>by rw [p6.val,p5.ext.ev hd4,p5.ext.ev hya4,x4.ev hdr,x4.ev (p3.ext.rf r12),ed,ea3]
 have k4 : (l7 a b).eq = false:=by
  cases he : (l7 a b).eq with
  | false=>rfl
  | true =>
    have h1:=spec.1.1 he q (by rw [<- hn3]; exact q3)
    rw [ed,h1] at q1
    cases hy : xP b q <;> simp [hy] at q1
 have k5 : (l7 a b).st = q:=by
  obtain ⟨w1,w2,w3⟩:=spec.2.2.1 k4
  have h1:=w3 q (by rw [<- hn3]; exact q3) (fun h1=>by
   rw [ed,h1] at q1
   cases hy : xP b q <;> simp [hy] at q1)
  have h2:=q2 (l7 a b).st (by
   rw [ed]
   cases hx : xP a (l7 a b).st <;> cases hy : xP b (l7 a b).st <;> simp_all)
  omega
 have hfin : l7 a b = ⟨false,q,T4.cnt d,T5.cnt e1,T6.cnt e2⟩:=df_ext k4 k5 k1.symm k2.symm k3.symm
 rw [hfin]
 clear hfin k1 k2 k3 k4 k5 spec
 refine aO.both [] [12,19] ⟨[true,true,true,false,false,true,true,false,true,true,true,true,false,false,false,true,true,true,true,false,false,false,true,false,true],by kernel_rfl,?_⟩
 conv=>whnf
 refine .gen _ _ (Iz (As:=[.ptr 6 [] 0,.int .i64 d,.int .i64 a.vars]) (R':=.int .i64 q) [(12,_),(11,_),(10,_),(9,_),(8,_)] (by simp) l4 (fun _=>rfl) (fun _=>rfl) rfl) fun _=>?_
 conv=>whnf
 refine .gen _ _ (Iz (As:=[.ptr 6 [] 0,.int .i64 d]) (R':=.int .i64 (T4.cnt d : Nat)) [(12,_),(11,_),(10,_),(9,_),(8,_)] (by simp) ct1 (fun _=>rfl) (fun _=>rfl) rfl) fun _=>?_
 conv=>whnf
 refine ⟨by decide,?_⟩
 conv=>whnf
 (repeat (refine aI (by (conv=>whnf)<;>exact rfl) ?_;(conv=>whnf)))
 refine .gen _ _ (Iz (As:=[.ptr 6 [] 0,.int .i64 d,.int .i64 yb]) (R':=.int .i64 e1) [(12,_),(11,_),(10,_),(9,_),(8,_)] (by simp) an1 (fun _=>rfl) (fun _=>rfl) rfl) fun _=>?_
 conv=>whnf
 refine .gen _ _ (Iz (As:=[.ptr 6 [] 0,.int .i64 e1]) (R':=.int .i64 (T5.cnt e1 : Nat)) [(12,_),(11,_),(10,_),(9,_),(8,_)] (by simp) ct2 (fun _=>rfl) (fun _=>rfl) rfl) fun _=>?_
 conv=>whnf
 refine ⟨by decide,?_⟩
 conv=>whnf
 (repeat (refine aI (by (conv=>whnf)<;>exact rfl) ?_;(conv=>whnf)))
 refine .gen _ _ (Iz (As:=[.ptr 6 [] 0,.int .i64 d,.int .i64 ya]) (R':=.int .i64 e2) [(12,_),(11,_),(10,_),(9,_),(8,_)] (by simp) an2 (fun _=>rfl) (fun _=>rfl) rfl) fun _=>?_
 conv=>whnf
 refine .gen _ _ (Iz (As:=[.ptr 6 [] 0,.int .i64 e2]) (R':=.int .i64 (T6.cnt e2 : Nat)) [(12,_),(11,_),(10,_),(9,_),(8,_)] (by simp) ct3 (fun _=>rfl) (fun _=>rfl) rfl) fun _=>?_
 conv=>whnf
 refine fM ?_;(conv=>whnf);refine ⟨?_,rfl⟩;conv=>whnf
 all_goals exact wk

theorem XF {v set a : Nat} (h : a < v) : (evs v set).getD a false = set.testBit a:=by
 unfold evs
 rw [List.getD_eq_getElem?_getD,List.getElem?_map,List.getElem?_range h]; rfl


def lvl (y n : Bool) : Int:=if y = true then 1 else if n = true then 0 else 2
def c3 (V : List Int) (k : Int) (l : List Int) : Nat:=l.countP fun a=>decide (V.getD a.toNat 0 = k)
def MK (x : Nd) (a b c : Nat) : Int :=
 if x.kind = 0 then x.k
 else if x.kind = 1 then lvl (decide (a = 1)) (decide (b = 1))
 else if x.kind = 2 then lvl (decide (b = x.args.length)) (decide (0 < a))
 else if x.kind = 3 then lvl (decide (0 < b)) (decide (a = x.args.length))
 else if x.kind = 4 then lvl (decide (x.k <= b)) (decide ((b : Int) + c < x.k))
 else lvl (decide (c = 0 /\ b % 2 = 1)) (decide (c = 0 /\ b % 2 = 0))
def Uw (v y n : Nat) : List Int:=(List.range v).map fun i=>lvl (y.testBit i) (n.testBit i)
def EG (V : List Int) (x : Nd) : Int:=MK x (c3 V 0 x.args) (c3 V 1 x.args) (c3 V 2 x.args)
def VI (V : List Int) (x : Nd) : List Int:=V ++ [EG V x]
def oV (v y n : Nat) (l : List Nd) : List Int:=l.foldl VI (Uw v y n)
def tri (f : Fo) (y n : Nat) : Int:=(oV f.vars.toNat y n f.nodes).getD f.top.toNat 0

theorem RF (y n : Bool) : 0 <= lvl y n /\ lvl y n <= 2:=by
 unfold lvl; split
 ·omega
 split <;> omega
theorem Jg {y n : Bool} : lvl y n = 1 ↔ y = true:=by
 unfold lvl
 cases y
 ·simp
  split <;> simp
 ·simp
theorem Jh {y n : Bool} : lvl y n = 0 ↔ y = false /\ n = true:=by
 unfold lvl
 cases y <;> cases n <;> simp
theorem Jf {y n : Bool} : lvl y n = 2 ↔ y = false /\ n = false:=by
 unfold lvl
 cases y <;> cases n <;> simp

theorem rC (v y n : Nat) (l : List Nd) : (oV v y n l).length = v + l.length:=by
 have key : ∀ (l : List Nd) (V : List Int),(l.foldl VI V).length = V.length + l.length:=by
  intro l
  induction l with
  | nil=>intro V; simp
  | cons x l ih=>intro V; rw [List.foldl_cons,ih]; simp [VI]; omega
 unfold oV
 rw [key]; simp [Uw]

theorem sQ {v y n : Nat} {l : List Nd} {i : Nat} (h : i < l.length) : oV v y n (l.take (i + 1)) = VI (oV v y n (l.take i)) l[i]:=by
 unfold oV
 rw [List.take_add_one,List.getElem?_eq_getElem h,List.foldl_append]; rfl

theorem O8 {v s : Nat} {l : List Nd} {i : Nat} (h : i < l.length) : valsF v s (l.take (i + 1)) = Bg (valsF v s (l.take i)) l[i]:=by
 unfold valsF
 rw [List.take_add_one,List.getElem?_eq_getElem h,List.foldl_append]; rfl

theorem Lh {V : List Int} {k : Int} {l : List Int} {j : Nat} (h : j < l.length) : c3 V k (l.take (j + 1)) = c3 V k (l.take j) + if V.getD (l[j]).toNat 0 = k then 1 else 0:=by
 unfold c3
 rw [List.take_succ_eq_append_getElem h,List.countP_append,List.countP_singleton]
 congr 1
 by_cases e : V.getD (l[j]).toNat 0 = k
 ·rw [if_pos e,if_pos (decide_eq_true e)]
 ·rw [if_neg e,if_neg (by rw [decide_eq_false e]; simp)]

theorem JG (V : List Int) (k : Int) (l : List Int) : c3 V k l <= l.length:=List.countP_le_length

def V3 (V : List Int) : Prop:=∀ x ∈ V,0 <= x /\ x <= 2

theorem V3.get {V : List Int} (h : V3 V) (i : Nat) : 0 <= V.getD i 0 /\ V.getD i 0 <= 2:=by
 rw [List.getD_eq_getElem?_getD]
 cases e : V[i]? with
 | none=>simp
 | some x=>exact h x (List.mem_of_getElem? e)

theorem Yt {V : List Int} (h : V3 V) (l : List Int) : c3 V 0 l + c3 V 1 l + c3 V 2 l = l.length:=by
 unfold c3
 induction l with
 | nil=>rfl
 | cons a l ih =>
   rw [List.countP_cons,List.countP_cons,List.countP_cons,List.length_cons]
   have:=h.get a.toNat
   generalize V.getD a.toNat 0 = z at *
   generalize List.countP _ l = p0 at *
   generalize List.countP _ l = p1 at *
   generalize List.countP _ l = p2 at *
   have hz : z = 0 \/ z = 1 \/ z = 2:=by omega
   rcases hz with rfl | rfl | rfl <;> simp <;> omega

theorem VO {V : List Int} {v : Int} {i : Nat} {x : Nd} (hx : A8 v i x) : 0 <= EG V x /\ EG V x <= 2:=by
 unfold EG MK
 split
 ·rename_i h
  have hk:=hx.k
  rw [if_pos h] at hk
  omega
 repeat' split
 all_goals exact RF _ _

theorem uY (v y n : Nat) {w : Int} {l : List Nd} (h : ∀ (i : Nat) (hi : i < l.length),A8 w i l[i]) : ∀ k,k <= l.length -> V3 (oV v y n (l.take k))
 | 0,_=>by
   intro x hx
   unfold oV Uw at hx
   rw [List.take_zero] at hx
   obtain ⟨i,_,rfl⟩:=List.mem_map.1 hx
   exact RF _ _
 | k + 1,hk=>by
   rw [sQ (by omega)]
   intro x hx
   rcases List.mem_append.1 hx with hx | hx
   ·exact uY v y n h k (by omega) x hx
   ·obtain rfl:=List.mem_singleton.1 hx
    exact VO (h k (by omega))

def Vp (V : List Int) (W : List Bool) : Prop:=∀ i,i < V.length -> (V.getD i 0 = 1 -> W.getD i false = true) /\ (V.getD i 0 = 0 -> W.getD i false = false)

theorem c3_cnt {V : List Int} {W : List Bool} (hS : Vp V W) {l : List Int} (hl : ∀ a ∈ l,a.toNat < V.length) : c3 V 1 l <= oD W l /\ c3 V 0 l + oD W l <= l.length:=by
 rw [Dl]
 unfold c3
 induction l with
 | nil=>simp
 | cons a l ih =>
   obtain ⟨h1,h2⟩:=ih fun b hb=>hl b (List.mem_cons_of_mem _ hb)
   obtain ⟨g1,g2⟩:=hS a.toNat (hl a (by simp))
   rw [List.countP_cons,List.countP_cons,List.countP_cons,List.length_cons]
   generalize V.getD a.toNat 0 = z at *
   generalize W.getD a.toNat false = w at *
   generalize List.countP _ l = p0 at *
   generalize List.countP _ l = p1 at *
   generalize List.countP _ l = p2 at *
   by_cases e1 : z = 1
   ·have:=g1 e1
    subst this; subst e1; simp; omega
   ·by_cases e0 : z = 0
    ·have:=g2 e0
     subst this; subst e0; simp; omega
    ·cases w <;> simp [e0,e1] <;> omega

theorem TF {V : List Int} {W : List Bool} (hS : Vp V W) (h3 : V3 V) {v : Int} {i : Nat} {x : Nd} (hx : A8 v i x) (hl : ∀ a ∈ x.args,a.toNat < V.length) :
  (EG V x = 1 -> jG x (oD W x.args) = true) /\ (EG V x = 0 -> jG x (oD W x.args) = false):=by
 obtain ⟨h1,h2⟩:=c3_cnt hS hl
 have hs:=Yt h3 x.args
 have hn:=hx.num
 have hk:=hx.kind
 unfold EG MK jG
 generalize c3 V 0 x.args = a at *
 generalize c3 V 1 x.args = b at *
 generalize c3 V 2 x.args = c at *
 generalize oD W x.args = m at *
 by_cases k0 : x.kind = 0
 ·have hk0:=hx.k
  rw [if_pos k0] at hk0
  rw [if_pos k0,if_pos k0]
  simp; omega
 rw [if_neg k0,if_neg k0]
 rw [if_neg k0] at hn
 by_cases k1 : x.kind = 1
 ·rw [if_pos k1] at hn
  rw [if_pos k1,if_pos k1]
  simp only [Jg,Jh,decide_eq_true_iff,decide_eq_false_iff_not]
  omega
 rw [if_neg k1,if_neg k1]
 by_cases k2 : x.kind = 2
 ·rw [if_pos k2,if_pos k2]
  simp only [Jg,Jh,decide_eq_true_iff,decide_eq_false_iff_not]
  omega
 rw [if_neg k2,if_neg k2]
 by_cases k3 : x.kind = 3
 ·rw [if_pos k3,if_pos k3]
  simp only [Jg,Jh,decide_eq_true_iff,decide_eq_false_iff_not]
  omega
 rw [if_neg k3,if_neg k3]
 by_cases k4 : x.kind = 4
 ·rw [if_pos k4,if_pos k4]
  simp only [Jg,Jh,decide_eq_true_iff,decide_eq_false_iff_not]
  omega
 rw [if_neg k4,if_neg k4,if_pos (by omega)]
 simp only [Jg,Jh,decide_eq_true_iff,decide_eq_false_iff_not]
 refine ⟨fun h=>?_,fun h=>?_⟩
 ·have : m = b:=by omega
  omega
 ·have : m = b:=by omega
  omega

structure InC (y n s : Nat) : Prop where
 yes : ∀ i,y.testBit i = true -> s.testBit i = true
 no : ∀ i,n.testBit i = true -> s.testBit i = false

theorem ZU {v y n i : Nat} (h : i < v) : (Uw v y n).getD i 0 = lvl (y.testBit i) (n.testBit i):=by
 unfold Uw
 rw [List.getD_eq_getElem?_getD,List.getElem?_map,List.getElem?_range h]; rfl

theorem Vp.snoc {V : List Int} {W : List Bool} (h : Vp V W) (hl : V.length = W.length) {z : Int} {w : Bool} (hz : (z = 1 -> w = true) /\ (z = 0 -> w = false)) : Vp (V ++ [z]) (W ++ [w]):=by
 intro i hi
 rw [List.length_append,List.length_singleton] at hi
 by_cases e : i = V.length
 ·subst e
  rw [List.getD_eq_getElem?_getD,List.getElem?_append_right (Nat.le_refl _),Nat.sub_self,List.getD_eq_getElem?_getD,List.getElem?_append_right (by omega),show V.length - W.length = 0 by omega]
  exact hz
 ·rw [List.getD_eq_getElem?_getD,List.getElem?_append_left (by omega),List.getD_eq_getElem?_getD,List.getElem?_append_left (by omega),<- List.getD_eq_getElem?_getD,<- List.getD_eq_getElem?_getD]
  exact h i (by omega)

theorem Ey {v y n s : Nat} (hc : InC y n s) {l : List Nd} (h : ∀ (i : Nat) (hi : i < l.length),A8 v i l[i]) : ∀ k,k <= l.length -> Vp (oV v y n (l.take k)) (valsF v s (l.take k))
 | 0,_=>by
   intro i hi
   rw [rC,List.take_zero] at hi
   have hi : i < v:=by simpa using hi
   rw [List.take_zero]
   show (((Uw v y n).getD i 0 = 1) -> (evs v s).getD i false = true) /\ (((Uw v y n).getD i 0 = 0) -> (evs v s).getD i false = false)
   rw [ZU hi,XF hi,Jg,Jh]
   exact ⟨fun h=>hc.yes i h,fun h=>hc.no i h.2⟩
 | k + 1,hk=>by
   have ih:=Ey hc h k (by omega)
   have hx:=h k (by omega)
   have h3:=uY v y n h k (by omega)
   have hlV:=rC v y n (l.take k)
   have hlW:=Ew v s (l.take k)
   rw [List.length_take,Nat.min_eq_left (by omega)] at hlV hlW
   rw [sQ (by omega),O8 (by omega)]
   exact ih.snoc (by omega) (TF ih h3 hx fun a ha=>by have:=hx.args a ha; omega)

theorem qB.BG {f : Fo} (h : qB f) : ∀ (i : Nat) (hi : i < f.nodes.length),A8 (f.vars.toNat : Int) i f.nodes[i]:=by
 have h1:=h.vars
 rw [show ((f.vars.toNat : Nat) : Int) = f.vars by omega]
 exact h.nodes

theorem y8 {f : Fo} (h : qB f) {y n s : Nat} (hc : InC y n s) : (tri f y n = 1 -> xP f s = true) /\ (tri f y n = 0 -> xP f s = false):=by
 have h4:=h.top
 have h1:=h.vars
 have:=Ey hc h.BG f.nodes.length (Nat.le_refl _)
 rw [List.take_length] at this
 exact this f.top.toNat (by rw [rC]; omega)

theorem wM {f : Fo} (h : qB f) (y n : Nat) : 0 <= tri f y n /\ tri f y n <= 2:=by
 have:=uY f.vars.toNat y n h.BG f.nodes.length (Nat.le_refl _)
 rw [List.take_length] at this
 exact this.get _

def N2 (V : List Int) : Prop:=∀ x ∈ V,x ≠ 2

theorem N2.get {V : List Int} (h : N2 V) (i : Nat) : V.getD i 0 ≠ 2:=by
 rw [List.getD_eq_getElem?_getD]
 cases e : V[i]? with
 | none=>simp
 | some x=>exact h x (List.mem_of_getElem? e)

theorem Za {V : List Int} (h2 : N2 V) (h3 : V3 V) {v : Int} {i : Nat} {x : Nd} (hx : A8 v i x) : EG V x ≠ 2:=by
 have hc : c3 V 2 x.args = 0:=by
  unfold c3
  rw [List.countP_eq_zero]
  intro a _
  simpa using h2.get a.toNat
 have hs:=Yt h3 x.args
 have hn:=hx.num
 have hk:=hx.kind
 unfold EG MK
 rw [hc] at hs ⊢
 generalize c3 V 0 x.args = a at *
 generalize c3 V 1 x.args = b at *
 by_cases k0 : x.kind = 0
 ·have hk0:=hx.k
  rw [if_pos k0] at hk0
  rw [if_pos k0]
  omega
 rw [if_neg k0]
 rw [if_neg k0] at hn
 by_cases k1 : x.kind = 1
 ·rw [if_pos k1] at hn
  rw [if_pos k1,Ne,Jf]
  simp only [decide_eq_false_iff_not]; omega
 rw [if_neg k1]
 by_cases k2 : x.kind = 2
 ·rw [if_pos k2,Ne,Jf]
  simp only [decide_eq_false_iff_not]; omega
 rw [if_neg k2]
 by_cases k3 : x.kind = 3
 ·rw [if_neg k1] at hn
  rw [if_pos k3,Ne,Jf]
  simp only [decide_eq_false_iff_not]; omega
 rw [if_neg k3]
 by_cases k4 : x.kind = 4
 ·rw [if_pos k4,Ne,Jf]
  rintro ⟨e1,e2⟩
  have e1:=of_decide_eq_false e1
  have e2:=of_decide_eq_false e2
  omega
 rw [if_neg k4,Ne,Jf]
 rintro ⟨e1,e2⟩
 have e1:=of_decide_eq_false e1
 have e2:=of_decide_eq_false e2
 omega

theorem y9 {f : Fo} (h : qB f) {y n : Nat} (hc : ∀ i < f.vars.toNat,y.testBit i = true \/ n.testBit i = true) : tri f y n ≠ 2:=by
 have key : ∀ k,k <= f.nodes.length -> N2 (oV f.vars.toNat y n (f.nodes.take k)):=by
  intro k
  induction k with
  | zero =>
    intro _ x hx
    unfold oV Uw at hx
    rw [List.take_zero] at hx
    obtain ⟨i,hi,rfl⟩:=List.mem_map.1 hx
    have hi:=List.mem_range.1 hi
    rw [Ne,Jf]
    rintro ⟨e1,e2⟩
    rcases hc i hi with e | e
    ·rw [e1] at e; cases e
    ·rw [e2] at e; cases e
  | succ k ih =>
    intro hk
    rw [sQ (by omega)]
    intro x hx
    rcases List.mem_append.1 hx with hx | hx
    ·exact ih (by omega) x hx
    ·obtain rfl:=List.mem_singleton.1 hx
     exact Za (ih (by omega)) (uY _ y n h.BG k (by omega)) (h.BG k (by omega))
 have:=key f.nodes.length (Nat.le_refl _)
 rw [List.take_length] at this
 exact this.get _
end S
