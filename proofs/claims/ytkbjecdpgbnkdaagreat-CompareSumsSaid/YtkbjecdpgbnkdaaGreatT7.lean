/-
  Contracts of functions of the program, over the logic of the texts before. Nothing is assumed.
-/
import Derived.Test.YtkbjecdpgbnkdaaGreatT6

open Go Go.AL Go.Proofs
namespace S
set_option maxRecDepth 100000

def markA (d : List Bool) (args : List Int) : List Bool:=args.foldl (fun d a=>d.set a.toNat true) d

theorem markA_len : ∀ (args : List Int) (d : List Bool),(markA d args).length = d.length
 | [],_=>rfl
 | a :: l,d=>by show (markA (d.set a.toNat true) l).length = _; rw [markA_len l]; simp

theorem getD_setT {d : List Bool} {i j : Nat} : (d.set i true).getD j false = true ↔ d.getD j false = true ∨ (j < d.length ∧ i = j):=by
 rw [List.getD_eq_getElem?_getD,List.getD_eq_getElem?_getD,List.getElem?_set]
 by_cases h : i = j
 ·subst h
  rw [if_pos rfl]
  by_cases hl : i < d.length
  ·rw [if_pos hl]; simp [hl]
  ·rw [if_neg hl]; simp [hl]
 ·rw [if_neg h]; simp [h]

theorem markA_get : ∀ (args : List Int) (d : List Bool) (j : Nat),(markA d args).getD j false = true ↔ d.getD j false = true ∨ (j < d.length ∧ ∃ a ∈ args,a.toNat = j)
 | [],d,j=>by simp [markA]
 | a :: l,d,j=>by
   show (markA (d.set a.toNat true) l).getD j false = true ↔ _
   rw [markA_get l,getD_setT]
   simp only [List.length_set,List.mem_cons]
   constructor
   ·rintro ((h | ⟨h1,h2⟩) | ⟨h1,b,h2,h3⟩)
    ·exact .inl h
    ·exact .inr ⟨h1,a,.inl rfl,h2⟩
    ·exact .inr ⟨h1,b,.inr h2,h3⟩
   ·rintro (h | ⟨h1,b,rfl | h2,h3⟩)
    ·exact .inl (.inl h)
    ·exact .inl (.inr ⟨h1,h3⟩)
    ·exact .inr ⟨h1,b,h2,h3⟩

theorem markA_take {d : List Bool} {args : List Int} {j : Nat} (h : j < args.length) : markA d (args.take (j + 1)) = (markA d (args.take j)).set args[j].toNat true:=by
 unfold markA
 rw [List.take_add_one,List.getElem?_eq_getElem h,List.foldl_append]; rfl

def argsAt (l : List Nd) (i : Nat) : List Int:=(l.getD i default).args

def belK (v : Nat) (l : List Nd) (top : Nat) : Nat → List Bool
 | 0=>(List.replicate (v + l.length) false).set top true
 | k + 1=>if (belK v l top k).getD (v + (l.length - 1 - k)) false = true then markA (belK v l top k) (argsAt l (l.length - 1 - k)) else belK v l top k

def belF (v : Nat) (l : List Nd) (top : Nat) : List Bool:=belK v l top l.length

theorem belK_len (v : Nat) (l : List Nd) (top : Nat) : ∀ k,(belK v l top k).length = v + l.length
 | 0=>by simp [belK]
 | k + 1=>by
   unfold belK
   split
   ·rw [markA_len,belK_len]
   ·exact belK_len v l top k

inductive Bel (v : Nat) (l : List Nd) (top : Nat) : Nat → Prop
 | root : Bel v l top top
 | step {i : Nat} {a : Int} (h : Bel v l top (v + i)) (hi : i < l.length) (ha : a ∈ argsAt l i) : Bel v l top a.toNat

theorem belK_inv {v : Nat} {l : List Nd} {top : Nat} (ht : top < v + l.length) (hw : ∀ i < l.length,∀ a ∈ argsAt l i,0 ≤ a ∧ a < (v : Int) + i) : ∀ k,k ≤ l.length →
  (∀ j,(belK v l top k).getD j false = true → Bel v l top j) ∧ (belK v l top k).getD top false = true ∧
  ∀ i,l.length ≤ i + k → i < l.length → (belK v l top k).getD (v + i) false = true → ∀ a ∈ argsAt l i,(belK v l top k).getD a.toNat false = true
 | 0,_=>by
   refine ⟨fun j h=>?_,?_,fun i h1 h2=>by omega⟩
   ·unfold belK at h
    rw [getD_setT] at h
    rcases h with h | ⟨_,rfl⟩
    ·rw [List.getD_eq_getElem?_getD,List.getElem?_replicate] at h
     split at h <;> cases h
    ·exact .root
   ·unfold belK
    rw [getD_setT]
    exact .inr ⟨by simpa using ht,rfl⟩
 | k + 1,hk=>by
   obtain ⟨h1,h2,h3⟩:=belK_inv ht hw k (by omega)
   have hl:=belK_len v l top k
   unfold belK
   split
   ·rename_i hm
    refine ⟨fun j h=>?_,?_,fun i g1 g2 g3 a ha=>?_⟩
    ·rw [markA_get] at h
     rcases h with h | ⟨_,a,ha,rfl⟩
     ·exact h1 j h
     ·exact .step (h1 _ hm) (by omega) ha
    ·rw [markA_get]; exact .inl h2
    ·rw [markA_get] at g3 ⊢
     by_cases e : i = l.length - 1 - k
     ·subst e
      have:=hw _ g2 a ha
      exact .inr ⟨by rw [hl]; omega,a,ha,rfl⟩
     ·rcases g3 with g3 | ⟨_,b,hb,g4⟩
      ·exact .inl (h3 i (by omega) g2 g3 a ha)
      ·have:=hw _ (by omega) b hb
       omega
   ·rename_i hm
    refine ⟨h1,h2,fun i g1 g2 g3 a ha=>?_⟩
    by_cases e : i = l.length - 1 - k
    ·subst e; exact absurd g3 hm
    ·exact h3 i (by omega) g2 g3 a ha

theorem belF_iff {v : Nat} {l : List Nd} {top : Nat} (ht : top < v + l.length) (hw : ∀ i < l.length,∀ a ∈ argsAt l i,0 ≤ a ∧ a < (v : Int) + i) (j : Nat) : (belF v l top).getD j false = true ↔ Bel v l top j:=by
 obtain ⟨h1,h2,h3⟩:=belK_inv ht hw l.length (Nat.le_refl _)
 refine ⟨h1 j,fun h=>?_⟩
 unfold belF
 induction h with
 | root=>exact h2
 | step _ hi ha ih=>exact h3 _ (by omega) hi ih _ ha

theorem FOk.args {f : Fo} (h : FOk f) : ∀ i < f.nodes.length,∀ a ∈ argsAt f.nodes i,0 ≤ a ∧ a < (f.vars.toNat : Int) + i:=by
 intro i hi a ha
 have hv:=h.vars
 unfold argsAt at ha
 rw [List.getD_eq_getElem?_getD,List.getElem?_eq_getElem hi] at ha
 have:=(h.nodes i hi).args a ha
 omega

theorem leRL_setT {A : AV} (h : leR A (.bool true)) : ∀ (d : List Bool) (i : Nat),leRL ((d.map AV.bool).set i A) ((d.set i true).map AV.bool)
 | [],_=>trivial
 | _ :: _,0=>⟨h,leRL_refl _⟩
 | _ :: d,i + 1=>⟨leR_refl _,leRL_setT h d i⟩
theorem leRL_setF {A : AV} (h : leR A (.bool true)) : ∀ (n i : Nat),leRL ((List.replicate n AV.ff).set i A) (((List.replicate n false).set i true).map AV.bool)
 | 0,_=>trivial
 | n + 1,0=>⟨h,by
     show leRL (List.replicate n AV.ff) ((List.replicate n false).map AV.bool)
     induction n with
     | zero=>trivial
     | succ n ih=>exact ⟨rfl,ih⟩⟩
 | n + 1,i + 1=>⟨rfl,leRL_setF h n i⟩

theorem c_fbelow (f : Fo) (h : FOk f) : FnH Tryz.prog 225 [f.av] [] (.sl 1 ((belF f.vars.toNat f.nodes f.top.toNat).map .bool) .no) []:=by
 have hw:=h.args
 obtain ⟨h1,h2,h3,h4⟩:=h
 have htn : f.top.toNat < f.vars.toNat + f.nodes.length:=by omega
 refine FnH.intro lay mixed Tryz.func225 (by kernel_rfl) rfl (by kernel_rfl) rfl fun hok=>?_
 (try dsimp only[argC,succC]);(try dsimp only[awp]);conv=>whnf
 refine ⟨inr64 (by simp; omega) (by simp; omega),?_⟩
 (try dsimp only[awp]);conv=>whnf
 refine ⟨by refine ⟨by omega,by omega,by simp; omega,by simp; omega⟩,?_⟩
 refine .wr ?_
 (try dsimp only[awp]);conv=>whnf
 refine ⟨⟨by omega,by simp; omega⟩,?_⟩
 (try dsimp only[awp]);conv=>whnf
 refine ⟨by simp; omega,rfl,?_⟩
 (try dsimp only[awp]);conv=>whnf
 refine ⟨inr64 (by simp; omega) (by simp; omega),?_⟩
 (try dsimp only[awp]);conv=>whnf
 refine LoopE.of <| LoopSpec.inv (.refl _ _) (fun k : Nat=>k ≤ f.nodes.length) (fun k=>[(4,.int .i64 ((f.nodes.length : Int) - 1 - k))]) (fun k=>[(1,.arr 1 (f.vars + ((f.nodes.map Nd.av).length : Int)).toNat ((belK f.vars.toNat f.nodes f.top.toNat k).map .bool)),(0,.box f.av)]) (fun k=>f.nodes.length - k) 0 ?_ (fun _=>rfl) ?_ ?_
 ·exact Nat.zero_le _
 ·refine ⟨?_,.mk ?_ ?_⟩
  ·repeat' first|exact rfl|exact trivial|exact wR|exact lR _|apply aI
   all_goals (simp; done)
  ·repeat' first|exact rfl|exact trivial|exact wR|exact lR _|apply aI
   all_goals (rw [Nat.zero_add,show (f.vars + ((f.nodes.map Nd.av).length : Int)).toNat = f.vars.toNat + f.nodes.length by simp; omega]; refine leRL_setF ?_ _ _; first | exact rfl | (show _ ↔ _; simp))
  ·exact ⟨by simp,by simp,trivial⟩
 intro k hk _
 have hbl:=belK_len f.vars.toNat f.nodes f.top.toNat k
 (try dsimp only[awp]);conv=>whnf
 refine And.intro (fun g1=>?_) (fun g1=>?_)
 ·have hlt : k < f.nodes.length:=by omega
  have hb1 : belK f.vars.toNat f.nodes f.top.toNat (k + 1) = if (belK f.vars.toNat f.nodes f.top.toNat k).getD (f.vars.toNat + (f.nodes.length - 1 - k)) false = true then markA (belK f.vars.toNat f.nodes f.top.toNat k) (argsAt f.nodes (f.nodes.length - 1 - k)) else belK f.vars.toNat f.nodes f.top.toNat k:=rfl
  have hai:=hw (f.nodes.length - 1 - k) (by omega)
  have hia : f.nodes.length - 1 - k < f.nodes.length:=by omega
  have hae : argsAt f.nodes (f.nodes.length - 1 - k) = (f.nodes[f.nodes.length - 1 - k]).args:=by unfold argsAt; rw [List.getD_eq_getElem?_getD,List.getElem?_eq_getElem hia]; rfl
  rw [hae] at hb1 hai
  have hnl : (f.nodes[f.nodes.length - 1 - k]).args.length ≤ 16:=by
   have hal:=(h3 _ hia).num
   split at hal
   ·omega
   ·split at hal <;> omega
  generalize belK f.vars.toNat f.nodes f.top.toNat k = d at *
  rw [show (f.nodes.length : Int) - 1 - k = ((f.nodes.length - 1 - k : Nat) : Int) by omega]
  (try dsimp only[awp]);conv=>whnf
  refine ⟨inr64 (by omega) (by omega),?_⟩
  (try dsimp only[awp]);conv=>whnf
  refine ⟨⟨by omega,by simp; omega⟩,?_⟩
  (try dsimp only[awp]);conv=>whnf
  rw [show 0 + (f.vars + ((f.nodes.length - 1 - k : Nat) : Int)).toNat = f.vars.toNat + (f.nodes.length - 1 - k) by omega]
  refine aidxD false (by simp; omega) ?_
  (try dsimp only[awp]);conv=>whnf
  refine ⟨rfl,?_⟩
  (try dsimp only[awp]);conv=>whnf
  refine And.intro (fun g2=>?_) (fun g2=>?_)
  ·rw [Int.toNat_natCast] at g2
   rw [if_pos g2] at hb1
   (try dsimp only[awp]);conv=>whnf
   refine aidx hia ?_
   generalize f.nodes[f.nodes.length - 1 - k] = x at *
   (try dsimp only[awp]);conv=>whnf
   refine LoopE.of <| LoopSpec.inv (.refl _ _) (fun j : Nat=>j ≤ x.args.length) (fun j=>[(40,.int .i64 j)]) (fun j=>[(1,.arr 1 (f.vars + ((f.nodes.map Nd.av).length : Int)).toNat ((markA d (x.args.take j)).map .bool)),(0,.box f.av)]) (fun j=>x.args.length - j) 0 ?_ (fun _=>rfl) ?_ ?_
   ·exact Nat.zero_le _
   ·refine ⟨?_,.mk ?_ ?_⟩
    ·all_goals exact wk
    ·all_goals exact wk
    ·exact ⟨by simp,by simp,trivial⟩
   intro j hj _
   have hml:=markA_len (x.args.take j) d
   (try dsimp only[awp]);conv=>whnf
   refine And.intro (fun g3=>?_) (fun g3=>?_)
   ·have hjl : j < x.args.length:=by simpa using g3
    have hmt:=markA_take (d:=d) hjl
    have ha:=hai _ (List.getElem_mem hjl)
    (try dsimp only[awp]);conv=>whnf
    refine aidx hjl ?_
    generalize x.args[j] = a at *
    (try dsimp only[awp]);conv=>whnf
    refine ⟨⟨by omega,by simp; omega⟩,?_⟩
    (try dsimp only[awp]);conv=>whnf
    refine ⟨by simp; omega,rfl,?_⟩
    (try dsimp only[awp]);conv=>whnf
    refine zA ?_;conv=>whnf
    refine ⟨j + 1,?_,?_,?_⟩
    ·exact hjl
    ·rw [hmt]
     refine ⟨?_,.mk ?_ ?_⟩
     ·all_goals exact wk
     ·repeat' first|exact rfl|exact trivial|exact wR|exact lR _|apply aI
      all_goals (rw [Nat.zero_add]; refine leRL_setT ?_ _ _; first | exact rfl | (show _ ↔ _; simp))
     ·exact ⟨by simp,by simp,trivial⟩
    ·omega
   have hjl : j = x.args.length:=by (have : ¬ j < x.args.length:=by simpa using g3); omega
   subst hjl
   clear g3
   rw [List.take_length,← hb1]
   (try dsimp only[awp]);conv=>whnf
   refine ⟨inr64 (by omega) (by omega),?_⟩
   (try dsimp only[awp]);conv=>whnf
   refine ⟨k + 1,?_,?_,?_⟩
   ·exact hlt
   ·refine ⟨?_,.mk ?_ ?_⟩
    ·repeat' first|exact rfl|exact trivial|exact wR|exact lR _|apply aI
     all_goals (push_cast; omega)
    ·all_goals exact wk
    ·exact ⟨by simp,by simp,trivial⟩
   ·omega
  ·rw [Int.toNat_natCast] at g2
   rw [if_neg (by rw [g2]; simp)] at hb1
   rw [← hb1]
   (try dsimp only[awp]);conv=>whnf
   refine ⟨inr64 (by omega) (by omega),?_⟩
   (try dsimp only[awp]);conv=>whnf
   refine ⟨k + 1,?_,?_,?_⟩
   ·exact hlt
   ·refine ⟨?_,.mk ?_ ?_⟩
    ·repeat' first|exact rfl|exact trivial|exact wR|exact lR _|apply aI
     all_goals (push_cast; omega)
    ·all_goals exact wk
    ·exact ⟨by simp,by simp,trivial⟩
   ·omega
 have hkl : k = f.nodes.length:=by omega
 subst hkl
 (try dsimp only[awp]);conv=>whnf
 refine ⟨⟨_,_,.keep 2 1 _ _ _ _ rfl rfl ?_ (.refl _ _),?_⟩⟩
 ·have:=belK_len f.vars.toNat f.nodes f.top.toNat f.nodes.length
  simp [this]; omega
 conv=>whnf
 refine ⟨?_,rfl,by simp [nextId],.mk ?_ (by simp [idsOk])⟩
 ·repeat' first|exact rfl|exact trivial|exact wR|exact lR _|apply aI
  all_goals (refine leRL_of ?_; rw [List.take_of_length_le (by rw [List.length_map,belK_len]; simp; omega)]; rfl)
 ·all_goals exact wk

def sizeF (v : Nat) (l : List Nd) (d : List Bool) (n : Nat) : Nat × Nat:=(List.range n).foldl (fun p i=>if d.getD (v + i) false = true then (p.1 + 1,p.2 + (argsAt l i).length) else p) (0,0)

theorem sizeF_succ (v : Nat) (l : List Nd) (d : List Bool) (n : Nat) : sizeF v l d (n + 1) = if d.getD (v + n) false = true then ((sizeF v l d n).1 + 1,(sizeF v l d n).2 + (argsAt l n).length) else sizeF v l d n:=by
 unfold sizeF
 rw [List.range_succ,List.foldl_append]; rfl

theorem c_fSize (f : Fo) (h : FOk f) : FnH Tryz.prog 126 [f.av] [] (.tup [.int .i64 (sizeF f.vars.toNat f.nodes (belF f.vars.toNat f.nodes f.top.toNat) f.nodes.length).1,.int .i64 (sizeF f.vars.toNat f.nodes (belF f.vars.toNat f.nodes f.top.toNat) f.nodes.length).2,.nilI]) []:=by
 have cc:=c_fCheck f h
 have cb:=c_fbelow f h
 have hbl : (belF f.vars.toNat f.nodes f.top.toNat).length = f.vars.toNat + f.nodes.length:=belK_len _ _ _ _
 obtain ⟨h1,h2,h3,h4⟩:=h
 generalize belF f.vars.toNat f.nodes f.top.toNat = d at *
 refine FnH.intro lay mixed Tryz.func126 (by kernel_rfl) rfl (by kernel_rfl) rfl fun hok=>?_
 (try dsimp only[argC,succC]);(try dsimp only[awp]);conv=>whnf
 refine .pure _ _ ?_ ⟨rfl,rfl⟩ cc fun _=>?_
 ·exact leL_refl _
 (try dsimp only[awp]);conv=>whnf
 refine ADraw.auto (by kernel_rfl) ?_;conv=>whnf
 refine ACallP.pure _ _ ?_ ⟨rfl,rfl⟩ cb ?_
 ·exact leL_refl _
 (try dsimp only[awp]);conv=>whnf
 have hle : ((d.map AV.bool).drop f.vars.toNat).take (((d.map AV.bool).length : Int).toNat - f.vars.toNat) = (d.drop f.vars.toNat).map AV.bool:=by
  rw [← List.map_drop,← List.map_take,List.take_of_length_le (by simp)]
 refine ACut.mk ⟨by simp; omega,?_⟩
 rw [hle]
 (try dsimp only[awp]);conv=>whnf
 have hdl : (d.drop f.vars.toNat).length = f.nodes.length:=by rw [List.length_drop]; omega
 refine LoopE.of <| LoopSpec.inv (.refl _ _) (fun (i : Nat)=>i ≤ f.nodes.length ∧ (sizeF f.vars.toNat f.nodes d i).1 ≤ i ∧ (sizeF f.vars.toNat f.nodes d i).2 ≤ 16 * i) (fun (i : Nat)=>[(19,.int .i64 i),(2,.int .i64 (sizeF f.vars.toNat f.nodes d i).1),(3,.int .i64 (sizeF f.vars.toNat f.nodes d i).2)]) (fun _=>_) (fun (i : Nat)=>f.nodes.length - i) 0 ?_ (fun _=>rfl) ?_ ?_
 ·exact ⟨Nat.zero_le _,Nat.le_refl _,Nat.le_refl _⟩
 ·all_goals exact wk
 rintro i ⟨hi,hs1,hs2⟩ _
 (try dsimp only[awp]);conv=>whnf
 refine And.intro (fun g1=>?_) (fun g1=>?_)
 ·have hil : i < f.nodes.length:=by simp at g1; omega
  have hsn:=sizeF_succ f.vars.toNat f.nodes d i
  have hae : argsAt f.nodes i = (f.nodes[i]).args:=by unfold argsAt; rw [List.getD_eq_getElem?_getD,List.getElem?_eq_getElem hil]; rfl
  rw [hae] at hsn
  have hnl : (f.nodes[i]).args.length ≤ 16:=by
   have hal:=(h3 _ hil).num
   split at hal
   ·omega
   ·split at hal <;> omega
  (try dsimp only[awp]);conv=>whnf
  refine aidxD false (by omega) ?_
  rw [show (d.drop f.vars.toNat).getD ((i : Nat) : Int).toNat false = d.getD (f.vars.toNat + i) false by rw [Int.toNat_natCast,List.getD_eq_getElem?_getD,List.getD_eq_getElem?_getD,List.getElem?_drop]]
  generalize sizeF f.vars.toNat f.nodes d i = p at *
  (try dsimp only[awp]);conv=>whnf
  refine And.intro (fun g2=>?_) (fun g2=>?_)
  ·rw [if_pos g2] at hsn
   (try dsimp only[awp]);conv=>whnf
   refine zA ?_;conv=>whnf
   (try dsimp only[awp]);conv=>whnf
   refine aidx hil ?_
   generalize f.nodes[i] = x at *
   (try dsimp only[awp]);conv=>whnf
   refine ⟨inr64 (by simp; omega) (by simp; omega),?_⟩
   (try dsimp only[awp]);conv=>whnf
   refine zA ?_;conv=>whnf
   refine ⟨i + 1,?_,?_,?_⟩
   ·rw [hsn]; exact ⟨hil,by dsimp only; omega,by dsimp only; omega⟩
   ·rw [hsn]
    refine ⟨?_,.mk ?_ (by simp [idsOk])⟩
    ·repeat' first|exact rfl|exact trivial|exact wR|exact lR _|apply aI
     all_goals (simp; done)
    ·all_goals exact wk
   ·omega
  ·rw [if_neg (by rw [g2]; simp)] at hsn
   (try dsimp only[awp]);conv=>whnf
   refine zA ?_;conv=>whnf
   refine ⟨i + 1,?_,?_,?_⟩
   ·rw [hsn]; exact ⟨hil,by omega,by omega⟩
   ·rw [hsn]
    refine ⟨?_,.mk ?_ (by simp [idsOk])⟩
    ·all_goals exact wk
    ·all_goals exact wk
   ·omega
 have hil : i = f.nodes.length:=by simp at g1; omega
 subst hil
 (try dsimp only[awp]);conv=>whnf
 refine fM ?_;(conv=>whnf);refine ⟨?_,rfl⟩;conv=>whnf
 all_goals exact wk

theorem leRL_ff : ∀ (n : Nat),leRL (List.replicate n AV.ff) ((List.replicate n false).map AV.bool)
 | 0=>trivial
 | n + 1=>⟨rfl,leRL_ff n⟩

theorem c_oCheck {o : List Int} {n : Nat} (h : PermO o n) (hn : n ≤ 24) : FnH Tryz.prog 127 [iL o,.int .i64 n] [] .nilI []:=by
 have hl:=h.len
 refine FnH.intro lay mixed Tryz.func127 (by kernel_rfl) rfl (by kernel_rfl) rfl fun hok=>?_
 (try dsimp only[argC,succC]);(try dsimp only[awp]);conv=>whnf
 refine And.intro (fun g=>by exfalso; omega) (fun g=>?_)
 (try dsimp only[awp]);conv=>whnf
 refine And.intro (fun g=>by exfalso; omega) (fun g=>?_)
 (try dsimp only[awp]);conv=>whnf
 refine And.intro (fun g=>by exfalso; simp at g; omega) (fun g=>?_)
 (try dsimp only[awp]);conv=>whnf
 refine ⟨⟨by omega,Int.le_refl _,by show (n : Int) * ((1 : Nat) : Int) ≤ 281474976710656; omega,by omega⟩,.wr ?_⟩
 rw [Int.toNat_natCast]
 (try dsimp only[awp]);conv=>whnf
 refine LoopE.of <| (LoopSpec.inv (.refl _ _) (fun k : Nat=>k ≤ o.length) (fun k=>[(26,.int .i64 k)]) (fun k=>[(0,.arr 1 n ((markA (List.replicate n false) (o.take k)).map .bool))]) (fun k=>o.length - k) 0 (Nat.zero_le _) ?_ ?_ ?_)
 ·exact fun _=>rfl
 ·refine ⟨?_,.mk ?_ (by simp [idsOk])⟩
  ·all_goals exact wk
  ·repeat' first|exact rfl|exact trivial|exact wR|exact lR _|apply aI
   all_goals first | (show leRL (List.replicate n _) (List.map _ (List.replicate n false)); exact leRL_ff n) | skip
 intro k hk _
 have hml:=markA_len (o.take k) (List.replicate n false)
 rw [List.length_replicate] at hml
 (try dsimp only[awp]);conv=>whnf
 refine And.intro (fun g=>?_) (fun g=>?_)
 ·have hlt : k < o.length:=by simpa using g
  have rk:=h.rng _ (List.getElem_mem hlt)
  have hmt:=markA_take (d:=List.replicate n false) hlt
  have hno : ¬ (markA (List.replicate n false) (o.take k)).getD (o[k]).toNat false = true:=by
   rw [markA_get]
   rintro (h1 | ⟨_,b,hb,e⟩)
   ·rw [List.getD_eq_getElem?_getD,List.getElem?_replicate] at h1
    split at h1 <;> cases h1
   ·obtain ⟨j,hj,ej⟩:=List.mem_iff_getElem.1 hb
    have hj' : j < k:=by rw [List.length_take] at hj; omega
    rw [List.getElem_take] at ej
    have rb:=h.rng b (List.mem_of_mem_take hb)
    have : o[j] = o[k]:=by rw [ej]; omega
    exact absurd this (List.pairwise_iff_getElem.1 h.nd j k (by omega) hlt hj')
  generalize markA (List.replicate n false) (o.take k) = d at *
  (try dsimp only[awp]);conv=>whnf
  refine aidx hlt ?_
  generalize o[k] = x at *
  (try dsimp only[awp]);conv=>whnf
  refine And.intro (fun g=>by exfalso; omega) (fun g=>?_)
  (try dsimp only[awp]);conv=>whnf
  refine And.intro (fun g=>by exfalso; omega) (fun g=>?_)
  (try dsimp only[awp]);conv=>whnf
  refine ⟨⟨rk.1,rk.2⟩,?_⟩
  (try dsimp only[awp]);conv=>whnf
  rw [Nat.zero_add]
  refine aidxD false ⟨by omega,by omega⟩ ?_
  (try dsimp only[awp]);conv=>whnf
  refine ⟨rfl,?_⟩
  (try dsimp only[awp]);conv=>whnf
  refine And.intro (fun g=>absurd g (by rw [Int.toNat_natCast]; exact hno)) (fun g=>?_)
  (try dsimp only[awp]);conv=>whnf
  refine ⟨⟨rk.1,rk.2⟩,?_⟩
  (try dsimp only[awp]);conv=>whnf
  refine ⟨by rw [List.length_map]; omega,rfl,?_⟩
  (try dsimp only[awp]);conv=>whnf
  refine zA ?_;conv=>whnf
  refine ⟨k + 1,?_,?_,?_⟩
  ·exact hlt
  ·rw [hmt]
   refine ⟨?_,.mk ?_ (by simp [idsOk])⟩
   ·all_goals exact wk
   ·repeat' first|exact rfl|exact trivial|exact wR|exact lR _|apply aI
    all_goals (rw [Nat.zero_add]; refine leRL_setT ?_ _ _; first | exact rfl | (show _ ↔ _; simp))
  ·omega
 (try dsimp only[awp]);conv=>whnf
 refine ⟨⟨_,_,.refl _ _,?_⟩⟩
 conv=>whnf
 refine ⟨?_,rfl,by simp [nextId],.mk ?_ (by simp [idsOk])⟩
 ·all_goals exact wk
 ·all_goals exact wk

def visN (v : Nat) (l : List Nd) : Nat → Int → List Bool × List Int → List Bool × List Int
 | 0,_,s=>s
 | n + 1,a,s=>if s.1.getD a.toNat false = true then s
     else if a < (v : Int) then (s.1.set a.toNat true,s.2 ++ [a])
     else (argsAt l (a.toNat - v)).foldl (fun s b=>visN v l n b s) (s.1.set a.toNat true,s.2)

structure VsI (v m : Nat) (s : List Bool × List Int) : Prop where
 len : s.1.length = v + m
 ev : ∀ e ∈ s.2,0 ≤ e ∧ e < (v : Int) ∧ s.1.getD e.toNat false = true
 nd : s.2.Nodup
 all : ∀ i : Nat,i < v → s.1.getD i false = true → (i : Int) ∈ s.2

theorem VsI.short {v m : Nat} {s : List Bool × List Int} (h : VsI v m s) : s.2.length ≤ v:=by
 have:=nodup_sub (l:=s.2) (u:=(List.range v).map (fun k : Nat=>(k : Int))) h.nd (fun x hx=>by
  have:=h.ev x hx
  exact List.mem_map.2 ⟨x.toNat,List.mem_range.2 (by omega),by omega⟩)
 simpa using this

theorem VsI.mark {v m : Nat} {s : List Bool × List Int} (h : VsI v m s) {a : Int} (h0 : 0 ≤ a) (h1 : a < ((v + m : Nat) : Int)) (hm : ¬ s.1.getD a.toNat false = true) :
  VsI v m (s.1.set a.toNat true,if a < (v : Int) then s.2 ++ [a] else s.2):=by
 have hl:=h.len
 refine ⟨by simp [hl],fun e he=>?_,?_,fun i hi hs=>?_⟩
 ·have old : e ∈ s.2 → 0 ≤ e ∧ e < (v : Int) ∧ (s.1.set a.toNat true).getD e.toNat false = true:=fun he=>by
   obtain ⟨q1,q2,q3⟩:=h.ev e he
   exact ⟨q1,q2,getD_setT.2 (.inl q3)⟩
  dsimp only at he
  split at he
  ·rename_i hv
   rcases List.mem_append.1 he with he | he
   ·exact old he
   ·obtain rfl:=List.mem_singleton.1 he
    exact ⟨h0,hv,getD_setT.2 (.inr ⟨by omega,rfl⟩)⟩
  ·exact old he
 ·dsimp only
  split
  ·refine List.nodup_append.2 ⟨h.nd,by simp,fun x hx y hy e=>?_⟩
   obtain rfl:=List.mem_singleton.1 hy
   exact hm (e ▸ (h.ev x hx).2.2)
  ·exact h.nd
 ·dsimp only at hs ⊢
  rcases getD_setT.1 hs with hs | ⟨_,hs⟩
  ·have:=h.all i hi hs
   split
   ·exact List.mem_append.2 (.inl this)
   ·exact this
  ·rw [if_pos (by omega)]
   exact List.mem_append.2 (.inr (by rw [List.mem_singleton]; omega))

theorem visN_inv {v : Nat} {l : List Nd} (hw : ∀ i < l.length,∀ a ∈ argsAt l i,0 ≤ a ∧ a < (v : Int) + i) : ∀ (n : Nat) (a : Int) (s : List Bool × List Int),VsI v l.length s → 0 ≤ a → a < ((v + l.length : Nat) : Int) → VsI v l.length (visN v l n a s)
 | 0,_,_,h,_,_=>h
 | n + 1,a,s,h,h0,h1=>by
   unfold visN
   split
   ·exact h
   rename_i hm
   have hk:=h.mark h0 h1 hm
   split
   ·rename_i hv
    rw [if_pos hv] at hk
    exact hk
   ·rename_i hv
    rw [if_neg hv] at hk
    have hwa:=hw (a.toNat - v) (by omega)
    generalize argsAt l (a.toNat - v) = args at *
    generalize (s.1.set a.toNat true,s.2) = s' at *
    induction args generalizing s' with
    | nil=>exact hk
    | cons b args ih =>
      have hb:=hwa b (by simp)
      exact ih (fun x hx=>hwa x (by simp [hx])) _ (visN_inv hw n b s' hk hb.1 (by omega))

theorem fold_take {α β : Type} (f : β → α → β) (s : β) {l : List α} {j : Nat} (h : j < l.length) : (l.take (j + 1)).foldl f s = f ((l.take j).foldl f s) l[j]:=by
 rw [List.take_add_one,List.getElem?_eq_getElem h,List.foldl_append]; rfl

abbrev hpV (f : Fo) (s : List Bool × List Int) : Heap :=
 [(2,.tok 1 s.2.length),(1,.arr 1 (f.vars.toNat + f.nodes.length) (s.1.map .bool)),(0,.box (.ag [f.av,.sl 1 (s.2.map (.int .i64)) (.own 2),.ms 1 0 (f.vars.toNat + f.nodes.length) (f.vars.toNat + f.nodes.length) 1]))]

theorem c_visit (f : Fo) (h : FOk f) : ∀ (n : Nat) (a : Int) (s : List Bool × List Int),VsI f.vars.toNat f.nodes.length s → 0 ≤ a → a < ((f.vars.toNat + f.nodes.length : Nat) : Int) → a < (n : Int) →
  FnH Tryz.prog 224 [.ptr 0 [] 0,.int .i64 a] (hpV f s) (.tup []) (hpV f (visN f.vars.toNat f.nodes n a s)):=by
 intro n
 induction n with
 | zero=>intro a s _ h0 _ h1; omega
 | succ n ih =>
   intro a s hs h0 h1 han
   have hlen:=hs.len
   have hsh:=hs.short
   have hw:=h.args
   have hal : ∀ i,i < f.nodes.length → (argsAt f.nodes i).length ≤ 16:=fun i hi=>by
    have hal:=(h.nodes i hi).num
    have e : argsAt f.nodes i = f.nodes[i].args:=by unfold argsAt; rw [List.getD_eq_getElem?_getD,List.getElem?_eq_getElem hi]; rfl
    rw [e]
    split at hal
    ·omega
    ·split at hal <;> omega
   obtain ⟨g1,g2,g3,g4⟩:=h
   refine FnH.intro lay mixed Tryz.func224 (by kernel_rfl) rfl (by kernel_rfl) rfl fun hok=>?_
   (try dsimp only[argC,succC]);(try dsimp only[awp]);conv=>whnf
   refine ⟨⟨h0,h1⟩,?_⟩
   (try dsimp only[awp]);conv=>whnf
   rw [Nat.zero_add]
   refine aidxD false ⟨by omega,by omega⟩ ?_
   (try dsimp only[awp]);conv=>whnf
   refine ⟨rfl,?_⟩
   (try dsimp only[awp]);conv=>whnf
   rw [Int.toNat_natCast]
   refine And.intro (fun g=>?_) (fun g=>?_)
   ·rw [show visN f.vars.toNat f.nodes (n + 1) a s = s from if_pos g]
    (try dsimp only[awp]);conv=>whnf
    refine ⟨⟨_,_,.refl _ _,?_⟩⟩
    conv=>whnf
    refine ⟨?_,rfl,by simp [nextId],.mk ?_ (by simp [idsOk])⟩
    ·all_goals exact wk
    ·all_goals exact wk
   have hm : ¬ s.1.getD a.toNat false = true:=by rw [g]; simp
   have hmk:=hs.mark h0 h1 hm
   (try dsimp only[awp]);conv=>whnf
   refine ⟨⟨h0,h1⟩,?_⟩
   (try dsimp only[awp]);conv=>whnf
   refine ⟨by rw [List.length_map]; omega,rfl,?_⟩
   (try dsimp only[awp]);conv=>whnf
   refine And.intro (fun g5=>?_) (fun g5=>?_)
   ·have g5' : a < (f.vars.toNat : Int):=by omega
    rw [show visN f.vars.toNat f.nodes (n + 1) a s = (s.1.set a.toNat true,s.2 ++ [a]) from (if_neg hm).trans (if_pos g5')]
    (try dsimp only[awp]);conv=>whnf
    refine ⟨by rw [List.length_map],.mk (by simp [maxL]; omega) (by simp; omega) ?_⟩
    (try dsimp only[awp]);conv=>whnf
    refine ⟨⟨_,_,.refl _ _,?_⟩⟩
    conv=>whnf
    refine ⟨?_,rfl,by simp [nextId],.mk ?_ (by simp [idsOk])⟩
    ·all_goals exact wk
    ·repeat' first|exact rfl|exact trivial|exact wR|exact lR _|apply aI
     all_goals first | (simp; done) | (rw [Nat.zero_add]; refine leRL_setT ?_ _ _; first | exact rfl | (show _ ↔ _; simp)) | (show leRL _ (List.map _ (_ ++ [_])); rw [List.map_append]; exact leRL_refl _)
   have g5' : ¬ a < (f.vars.toNat : Int):=by omega
   rw [if_neg g5'] at hmk
   have hwa:=hw (a.toNat - f.vars.toNat) (by omega)
   have han':=hal (a.toNat - f.vars.toNat) (by omega)
   rw [show visN f.vars.toNat f.nodes (n + 1) a s = (argsAt f.nodes (a.toNat - f.vars.toNat)).foldl (fun s b=>visN f.vars.toNat f.nodes n b s) (s.1.set a.toNat true,s.2) from (if_neg hm).trans (if_neg g5')]
   have hinv : ∀ j,j ≤ (argsAt f.nodes (a.toNat - f.vars.toNat)).length → VsI f.vars.toNat f.nodes.length (((argsAt f.nodes (a.toNat - f.vars.toNat)).take j).foldl (fun s b=>visN f.vars.toNat f.nodes n b s) (s.1.set a.toNat true,s.2)):=by
    intro j
    induction j with
    | zero=>intro _; exact hmk
    | succ j ihj =>
      intro hj
      rw [fold_take _ _ (show j < (argsAt f.nodes (a.toNat - f.vars.toNat)).length by omega)]
      have:=hwa _ (List.getElem_mem (show j < (argsAt f.nodes (a.toNat - f.vars.toNat)).length by omega))
      exact visN_inv hw n _ _ (ihj (by omega)) this.1 (by omega)
   (try dsimp only[awp]);conv=>whnf
   refine ADraw.auto (by kernel_rfl) ?_;conv=>whnf
   refine ⟨inr64 (by omega) (by omega),?_⟩
   conv=>whnf
   refine aidxD default ⟨by omega,by omega⟩ ?_
   rw [show (a - f.vars).toNat = a.toNat - f.vars.toNat by omega]
   conv=>whnf
   rw [show (f.nodes.getD (a.toNat - f.vars.toNat) default).args = argsAt f.nodes (a.toNat - f.vars.toNat) from rfl]
   generalize argsAt f.nodes (a.toNat - f.vars.toNat) = args at *
   refine LoopE.of <| (LoopSpec.inv (.refl _ _) (fun k : Nat=>k ≤ args.length) (fun k=>[(52,.int .i64 k)]) (fun k=>hpV f ((args.take k).foldl (fun s b=>visN f.vars.toNat f.nodes n b s) (s.1.set a.toNat true,s.2))) (fun k=>args.length - k) 0 (Nat.zero_le _) ?_ ?_ ?_)
   ·exact fun _=>rfl
   ·refine ⟨?_,.mk ?_ (by simp [idsOk])⟩
    ·all_goals exact wk
    ·repeat' first|exact rfl|exact trivial|exact wR|exact lR _|apply aI
     all_goals first | (rw [Nat.zero_add]; refine leRL_setT ?_ _ _; first | exact rfl | (show _ ↔ _; simp)) | skip
   intro k hk _
   have hik:=hinv k hk
   (try dsimp only[awp]);conv=>whnf
   refine And.intro (fun g6=>?_) (fun g6=>?_)
   ·have hlt : k < args.length:=by simpa using g6
    have hb:=hwa _ (List.getElem_mem hlt)
    have q:=ih (args[k]) _ hik hb.1 (by omega) (by omega)
    rw [← fold_take (fun s b=>visN f.vars.toNat f.nodes n b s) _ hlt] at q
    (try dsimp only[awp]);conv=>whnf
    refine aidx hlt ?_
    (try dsimp only[awp]);conv=>whnf
    refine .gen _ _ q fun _=>?_
    (try dsimp only[awp]);conv=>whnf
    refine zA ?_;conv=>whnf
    refine ⟨k + 1,?_,?_,?_⟩
    ·exact hlt
    ·refine ⟨?_,.mk ?_ (by simp [idsOk])⟩
     ·all_goals exact wk
     ·all_goals exact wk
    ·omega
   ·have hk : k = args.length:=by (have : ¬ k < args.length:=by simpa using g6); omega
    subst hk
    rw [List.take_length]
    (try dsimp only[awp]);conv=>whnf
    refine ⟨⟨_,_,.refl _ _,?_⟩⟩
    conv=>whnf
    refine ⟨?_,rfl,by simp [nextId],.mk ?_ (by simp [idsOk])⟩
    ·all_goals exact wk
    ·all_goals exact wk

def depL (_ : Nat) (s : List Bool × List Int) (k : Nat) : List Int:=s.2 ++ ((List.range k).filter fun i=>!s.1.getD i false).map fun i : Nat=>(i : Int)

theorem depL_succ (v : Nat) (s : List Bool × List Int) (k : Nat) : depL v s (k + 1) = if s.1.getD k false = true then depL v s k else depL v s k ++ [(k : Int)]:=by
 unfold depL
 rw [List.range_succ,List.filter_append]
 cases h : s.1.getD k false with
 | true =>
   have h' : s.1[k]?.getD false = true:=by simpa using h
   simp [h']
 | false =>
   have h' : s.1[k]?.getD false = false:=by simpa using h
   simp [h']

theorem depL_perm {v m : Nat} {s : List Bool × List Int} (h : VsI v m s) : PermO (depL v s v) v:=by
 have hmem : ∀ i : Nat,i < v → (i : Int) ∈ depL v s v:=fun i hi=>by
  unfold depL
  by_cases hs : s.1.getD i false = true
  ·exact List.mem_append.2 (.inl (h.all i hi hs))
  ·refine List.mem_append.2 (.inr (List.mem_map.2 ⟨i,List.mem_filter.2 ⟨List.mem_range.2 hi,?_⟩,rfl⟩))
   simpa using hs
 have hr : ∀ x ∈ depL v s v,0 ≤ x ∧ x < (v : Int):=fun x hx=>by
  unfold depL at hx
  rcases List.mem_append.1 hx with hx | hx
  ·exact ⟨(h.ev x hx).1,(h.ev x hx).2.1⟩
  ·obtain ⟨i,hi,rfl⟩:=List.mem_map.1 hx
   have:=List.mem_range.1 (List.mem_filter.1 hi).1
   omega
 have hn : (depL v s v).Nodup:=by
  unfold depL
  refine List.nodup_append.2 ⟨h.nd,?_,fun x hx y hy e=>?_⟩
  ·refine List.Pairwise.map _ (R:=(· ≠ ·)) (fun a b hab e=>hab (by omega)) ?_
   exact List.Pairwise.filter _ List.nodup_range
  ·obtain ⟨i,hi,rfl⟩:=List.mem_map.1 hy
   have h1:=(List.mem_filter.1 hi).2
   subst e
   have:=(h.ev _ hx).2.2
   rw [Int.toNat_natCast] at this
   rw [this] at h1
   cases h1
 refine ⟨Nat.le_antisymm ?_ ?_,hr,hn⟩
 ·have:=nodup_sub (l:=depL v s v) (u:=(List.range v).map (fun k : Nat=>(k : Int))) hn (fun x hx=>by
   have:=hr x hx
   exact List.mem_map.2 ⟨x.toNat,List.mem_range.2 (by omega),by omega⟩)
  simpa using this
 ·have:=nodup_sub (l:=(List.range v).map (fun k : Nat=>(k : Int))) (u:=depL v s v) (by
   refine List.Pairwise.map _ (R:=(· ≠ ·)) (fun a b hab e=>hab (by omega)) List.nodup_range) (fun x hx=>by
   obtain ⟨i,hi,rfl⟩:=List.mem_map.1 hx
   exact hmem i (List.mem_range.1 hi))
  simpa using this

def depS (f : Fo) : List Bool × List Int:=visN f.vars.toNat f.nodes (f.top.toNat + 1) f.top (List.replicate (f.vars.toNat + f.nodes.length) false,[])
def depO (f : Fo) : List Int:=depL f.vars.toNat (depS f) f.vars.toNat

theorem depS_inv (f : Fo) (h : FOk f) : VsI f.vars.toNat f.nodes.length (depS f):=by
 have h4:=h.top
 have h1:=h.vars
 refine visN_inv h.args _ _ _ ⟨by simp,fun e he=>(by cases he),List.nodup_nil,fun i hi hs=>?_⟩ h4.1 (by omega)
 rw [List.getD_eq_getElem?_getD,List.getElem?_replicate] at hs
 split at hs <;> cases hs

theorem c_odepth (f : Fo) (h : FOk f) : FnH Tryz.prog 125 [f.av] [] (.tup [iL (depO f),.sl 1 ((depS f).1.map .bool) .no]) []:=by
 have hs:=depS_inv f h
 have h1:=h.vars
 have h4:=h.top
 have c : FnH Tryz.prog 224 [.ptr 0 [] 0,.int .i64 f.top] (hpV f (List.replicate (f.vars.toNat + f.nodes.length) false,[])) (.tup []) (hpV f (depS f)):=c_visit f h (f.top.toNat + 1) f.top (List.replicate (f.vars.toNat + f.nodes.length) false,[]) ⟨by simp,fun e he=>(by cases he),List.nodup_nil,fun i hi hs=>by
  rw [List.getD_eq_getElem?_getD,List.getElem?_replicate] at hs
  split at hs <;> cases hs⟩ h4.1 (by omega) (by omega)
 unfold depO
 generalize depS f = s at *
 obtain ⟨g1,g2,g3,g4⟩:=h
 refine FnH.intro lay mixed Tryz.func125 (by kernel_rfl) rfl (by kernel_rfl) rfl fun hok=>?_
 (try dsimp only[argC,succC]);(try dsimp only[awp]);conv=>whnf
 refine ADraw.frz [0] ?_
 conv=>whnf
 refine And.intro ⟨rfl,rfl⟩ ?_
 conv=>whnf
 refine ⟨[true,true,true,true,true,true,true,false,true,false,true],by kernel_rfl,?_⟩
 conv=>whnf
 rw [List.length_map]
 refine ⟨inr64 (by omega) (by omega),?_⟩
 conv=>whnf
 rw [show f.vars + (f.nodes.length : Int) = ((f.vars.toNat + f.nodes.length : Nat) : Int) by omega]
 refine ⟨⟨by omega,Int.le_refl _,by show ((f.vars.toNat + f.nodes.length : Nat) : Int) * ((1 : Nat) : Int) ≤ 281474976710656; omega,by omega⟩,.wr ?_⟩
 rw [Int.toNat_natCast]
 conv=>whnf
 refine .gen _ _ (FnH.pre (.growF 2 [1] 1 [] (.ag [f.av,.nils,.ms 1 0 (f.vars.toNat + f.nodes.length) (f.vars.toNat + f.nodes.length) 1]) .nils _ rfl rfl (.inl ⟨rfl,rfl⟩) rfl (.refl _ _)) (FnH.frame [2,1,3] c ⟨rfl,rfl,rfl,rfl⟩ ?_ ?_)) fun _=>?_
 ·repeat' first|exact rfl|exact trivial|exact wR|exact lR _|apply aI
  all_goals first | (show leRL (List.replicate _ AV.ff) (List.map _ (List.replicate _ false)); exact leRL_ff _) | skip
 ·all_goals exact wk
 have hsl:=hs.len
 have hss:=hs.short
 have hdl : ∀ k,k ≤ f.vars.toNat → (depL f.vars.toNat s k).length ≤ 48:=fun k hk=>by
  unfold depL
  rw [List.length_append,List.length_map]
  have:=List.length_filter_le (fun i=>!s.1.getD i false) (List.range k)
  rw [List.length_range] at this
  omega
 (try dsimp only[awp]);conv=>whnf
 refine LoopE.of <| (LoopSpec.inv (.refl _ _) (fun k : Nat=>k ≤ f.vars.toNat) (fun k=>[(22,.int .i64 k)]) (fun k=>[(3,.tok 1 (depL f.vars.toNat s k).length),(2,.box (.ag [f.av,.sl 1 ((depL f.vars.toNat s k).map (.int .i64)) (.own 3),.ms 1 0 (f.vars.toNat + f.nodes.length) (f.vars.toNat + f.nodes.length) 1])),(1,.arr 1 (f.vars.toNat + f.nodes.length) (s.1.map .bool)),(0,.gone)]) (fun k=>f.vars.toNat - k) 0 (Nat.zero_le _) ?_ ?_ ?_)
 ·exact fun _=>rfl
 ·refine ⟨?_,.mk ?_ (by simp [idsOk])⟩
  ·all_goals exact wk
  ·repeat' first|exact rfl|exact trivial|exact wR|exact lR _|apply aI
   all_goals first | (show leRL _ (List.map _ (s.2 ++ [])); rw [List.append_nil]; exact leRL_refl _) | (unfold depL; simp; done) | skip
 intro k hk _
 have hdk:=hdl k hk
 have hds:=depL_succ f.vars.toNat s k
 (try dsimp only[awp]);conv=>whnf
 refine And.intro (fun g=>?_) (fun g=>?_)
 ·have hlt : k < f.vars.toNat:=by omega
  generalize depL f.vars.toNat s k = d at *
  (try dsimp only[awp]);conv=>whnf
  refine ⟨⟨by omega,by omega⟩,?_⟩
  (try dsimp only[awp]);conv=>whnf
  rw [Nat.zero_add]
  refine aidxD false ⟨by omega,by omega⟩ ?_
  rw [Int.toNat_natCast]
  (try dsimp only[awp]);conv=>whnf
  refine ⟨rfl,?_⟩
  (try dsimp only[awp]);conv=>whnf
  refine And.intro (fun g2=>?_) (fun g2=>?_)
  ·have g2' : s.1.getD k false = false:=by
    cases h : s.1.getD k false with
    | false=>rfl
    | true=>rw [Int.toNat_natCast,h] at g2; cases g2
   rw [if_neg (by rw [g2']; simp)] at hds
   (try dsimp only[awp]);conv=>whnf
   refine ⟨by rw [List.length_map],.mk (by simp [maxL]; omega) (by simp; omega) ?_⟩
   (try dsimp only[awp]);conv=>whnf
   refine zA ?_;conv=>whnf
   refine ⟨k + 1,?_,?_,?_⟩
   ·exact hlt
   ·rw [hds]
    refine ⟨?_,.mk ?_ (by simp [idsOk])⟩
    ·all_goals exact wk
    ·repeat' first|exact rfl|exact trivial|exact wR|exact lR _|apply aI
     all_goals first | (simp; done) | (show leRL _ (List.map _ (_ ++ [_])); rw [List.map_append]; exact leRL_refl _)
   ·omega
  ·have g2' : s.1.getD k false = true:=by
    cases h : s.1.getD k false with
    | true=>rfl
    | false=>rw [Int.toNat_natCast,h] at g2; cases g2
   rw [if_pos g2'] at hds
   (try dsimp only[awp]);conv=>whnf
   refine zA ?_;conv=>whnf
   refine ⟨k + 1,?_,?_,?_⟩
   ·exact hlt
   ·rw [hds]
    refine ⟨?_,.mk ?_ (by simp [idsOk])⟩
    ·all_goals exact wk
    ·all_goals exact wk
   ·omega
 ·have hk : k = f.vars.toNat:=by omega
  subst hk
  (try dsimp only[awp]);conv=>whnf
  refine ADraw.auto (by kernel_rfl) ?_;conv=>whnf
  refine ⟨⟨_,_,.freeze 3 1 _ _ _ _ _ _ rfl rfl ?_ (.refl _ _),?_⟩⟩
  ·rw [List.length_map]; omega
  conv=>whnf
  refine ⟨?_,rfl,by simp [nextId],.mk ?_ (by simp [idsOk])⟩
  ·repeat' first|exact rfl|exact trivial|exact wR|exact lR _|apply aI
   all_goals first | (refine leRL_of ?_; rw [List.drop_zero,List.take_of_length_le (by rw [List.length_map]; omega)]) | skip
  ·all_goals exact wk

theorem c_oDepth (f : Fo) (h : FOk f) : FnH Tryz.prog 49 [f.av] [] (.tup [iL (depO f),.nilI]) []:=by
 have cc:=c_fCheck f h
 have cd:=c_odepth f h
 refine FnH.intro lay mixed Tryz.func49 (by kernel_rfl) rfl (by kernel_rfl) rfl fun hok=>?_
 (try dsimp only[argC,succC]);(try dsimp only[awp]);conv=>whnf
 refine .pure _ _ ?_ ⟨rfl,rfl⟩ cc fun _=>?_
 ·exact leL_refl _
 (try dsimp only[awp]);conv=>whnf
 refine .pure _ _ ?_ ⟨rfl,rfl⟩ cd fun _=>?_
 ·exact leL_refl _
 (try dsimp only[awp]);conv=>whnf
 refine fM ?_;(conv=>whnf);refine ⟨?_,rfl⟩;conv=>whnf
 all_goals exact wk

theorem depO_perm (f : Fo) (h : FOk f) : PermO (depO f) f.vars.toNat:=depL_perm (depS_inv f h)

def valsS (l0 : List Bool) (nodes : List Nd) : List Bool:=nodes.foldl valN l0

theorem valsS_len (l0 : List Bool) : ∀ (nodes : List Nd),(valsS l0 nodes).length = l0.length + nodes.length:=by
 intro nodes
 unfold valsS
 induction nodes generalizing l0 with
 | nil=>simp
 | cons x l ih=>rw [List.foldl_cons,ih]; simp [valN]; omega

theorem valsS_app (l0 : List Bool) (l r : List Nd) : ∃ t,valsS l0 (l ++ r) = valsS l0 l ++ t:=by
 unfold valsS
 rw [List.foldl_append]
 generalize l.foldl valN l0 = u
 induction r generalizing u with
 | nil=>exact ⟨[],by simp⟩
 | cons x r ih =>
   obtain ⟨t,ht⟩:=ih (valN u x)
   exact ⟨[ndVal x (cntT u x.args)] ++ t,by rw [List.foldl_cons,ht]; simp [valN]⟩

theorem valsS_getApp (l0 : List Bool) (l r : List Nd) {j : Nat} (h : j < l0.length + l.length) : (valsS l0 (l ++ r)).getD j false = (valsS l0 l).getD j false:=by
 obtain ⟨t,ht⟩:=valsS_app l0 l r
 rw [ht,List.getD_eq_getElem?_getD,List.getElem?_append_left (by rw [valsS_len]; exact h),← List.getD_eq_getElem?_getD]

theorem valsS_at (l0 : List Bool) (l : List Nd) {k : Nat} (h : k < l.length) : (valsS l0 l).getD (l0.length + k) false = ndVal l[k] (cntT (valsS l0 (l.take k)) l[k].args):=by
 have e : l = (l.take k ++ [l[k]]) ++ l.drop (k + 1):=by rw [← List.take_succ_eq_append_getElem h,List.take_append_drop]
 have hl : (l.take k).length = k:=by rw [List.length_take]; omega
 have:=valsS_getApp l0 (l.take k ++ [l[k]]) (l.drop (k + 1)) (j:=l0.length + k) (by simp; omega)
 rw [← e] at this
 rw [this]
 unfold valsS
 rw [List.foldl_append]
 show ((valN (valsS l0 (l.take k)) l[k]).getD _ false) = _
 have hv:=valsS_len l0 (l.take k)
 rw [hl] at hv
 unfold valN
 rw [List.getD_eq_getElem?_getD,List.getElem?_append_right (by omega),hv,Nat.sub_self]; rfl

theorem valsS_take (l0 : List Bool) (l : List Nd) {j k : Nat} (h : j < l0.length + k) (hk : k ≤ l.length) : (valsS l0 (l.take k)).getD j false = (valsS l0 l).getD j false:=by
 have:=valsS_getApp l0 (l.take k) (l.drop k) (j:=j) (by rw [List.length_take]; omega)
 rw [List.take_append_drop] at this
 exact this.symm

theorem cntT_congr {u w : List Bool} {f : Int → Int} : ∀ {args : List Int},(∀ a ∈ args,u.getD (f a).toNat false = w.getD a.toNat false) → cntT u (args.map f) = cntT w args:=by
 have key : ∀ (args : List Int) (n : Nat),(∀ a ∈ args,u.getD (f a).toNat false = w.getD a.toNat false) → (args.map f).foldl (fun n a=>if u.getD a.toNat false = true then n + 1 else n) n = args.foldl (fun n a=>if w.getD a.toNat false = true then n + 1 else n) n:=by
  intro args
  induction args with
  | nil=>intro n _; rfl
  | cons a l ih =>
    intro n h
    rw [List.map_cons,List.foldl_cons,List.foldl_cons,h a (by simp)]
    exact ih _ fun b hb=>h b (by simp [hb])
 intro args h
 exact key args 0 h

theorem ndVal_len {k n : Int} {a b : List Int} (h : a.length = b.length) (c : Nat) : ndVal ⟨k,n,a⟩ c = ndVal ⟨k,n,b⟩ c:=by
 unfold ndVal; simp only [h]

def toG (to : List Int) (a : Int) : Int:=to.getD a.toNat 0
def trNd (to : List Int) (x : Nd) : Nd:=⟨x.kind,x.k,x.args.map (toG to)⟩

def trK (v : Nat) (l : List Nd) (d : List Bool) : Nat → List Int × List Nd
 | 0=>((List.range v).map (fun i : Nat=>(i : Int)) ++ List.replicate l.length 0,[])
 | k + 1=>if d.getD (v + k) false = true then ((trK v l d k).1.set (v + k) ((v : Int) + (trK v l d k).2.length),(trK v l d k).2 ++ [trNd (trK v l d k).1 (l.getD k default)]) else trK v l d k

structure TrI (v : Nat) (l : List Nd) (d : List Bool) (k : Nat) (s : List Int × List Nd) : Prop where
 len : s.1.length = v + l.length
 out : s.2.length ≤ k
 ref : ∀ j : Nat,j < v + k → (j < v ∨ d.getD j false = true) → 0 ≤ s.1.getD j 0 ∧ s.1.getD j 0 < (v : Int) + s.2.length
 nd : ∀ (i : Nat) (h : i < s.2.length),NdOk v i s.2[i]
 val : ∀ l0 : List Bool,l0.length = v → ∀ j : Nat,j < v + k → (j < v ∨ d.getD j false = true) → (valsS l0 s.2).getD (s.1.getD j 0).toNat false = (valsS l0 l).getD j false

theorem trK_inv {v : Nat} {l : List Nd} {d : List Bool} (hn : ∀ (i : Nat) (h : i < l.length),NdOk v i l[i]) (hd : ∀ i < l.length,d.getD (v + i) false = true → ∀ a ∈ argsAt l i,a < (v : Int) ∨ d.getD a.toNat false = true) :
  ∀ k,k ≤ l.length → TrI v l d k (trK v l d k)
 | 0,_=>by
   have h0 : ∀ j : Nat,j < v → ((List.range v).map (fun i : Nat=>(i : Int)) ++ List.replicate l.length 0).getD j 0 = (j : Int):=fun j hj=>by
    rw [List.getD_eq_getElem?_getD,List.getElem?_append_left (by simpa using hj),List.getElem?_map,List.getElem?_range hj]; rfl
   refine ⟨by simp [trK],Nat.le_refl _,fun j hj _=>?_,fun i h=>absurd h (Nat.not_lt_zero _),fun l0 hl j hj _=>?_⟩
   ·show 0 ≤ (_ ++ _ : List Int).getD j 0 ∧ (_ ++ _ : List Int).getD j 0 < _
    rw [h0 j hj]; simp [trK]; omega
   ·show (valsS l0 []).getD ((_ ++ _ : List Int).getD j 0).toNat false = _
    rw [h0 j hj,Int.toNat_natCast]
    have:=valsS_getApp l0 [] l (j:=j) (by simp; omega)
    exact this.symm
 | k + 1,hk=>by
   have ih:=trK_inv hn hd k (by omega)
   have hkl : k < l.length:=by omega
   have ex : l.getD k default = l[k]:=by rw [List.getD_eq_getElem?_getD,List.getElem?_eq_getElem hkl]; rfl
   have ea : argsAt l k = l[k].args:=by unfold argsAt; rw [ex]
   unfold trK
   generalize trK v l d k = s at *
   obtain ⟨i1,i2,i3,i4,i5⟩:=ih
   split
   ·rename_i hm
    have nk:=hn k hkl
    have hda:=hd k hkl hm
    rw [ea] at hda
    rw [ex]
    have aok : ∀ a ∈ l[k].args,0 ≤ a ∧ a.toNat < v + k ∧ (a.toNat < v ∨ d.getD a.toNat false = true):=fun a ha=>by
     have h1:=nk.args a ha
     exact ⟨h1.1,by omega,(hda a ha).imp (fun h=>by omega) id⟩
    have hg : ∀ j,(s.1.set (v + k) ((v : Int) + s.2.length)).getD j 0 = if j = v + k then (v : Int) + s.2.length else s.1.getD j 0:=fun j=>getD_set_nat (by omega)
    refine ⟨by simp [i1],by simp; omega,fun j hj hjd=>?_,fun i hi=>?_,fun l0 hl j hj hjd=>?_⟩
    ·dsimp only
     rw [hg]
     split
     ·simp; omega
     ·rename_i hne
      have h5:=i3 j (by omega) hjd
      refine ⟨h5.1,?_⟩
      rw [List.length_append,List.length_singleton]
      omega
    ·dsimp only at hi ⊢
     by_cases hlt : i < s.2.length
     ·rw [List.getElem_append_left hlt]; exact i4 i hlt
     ·obtain rfl : i = s.2.length:=by simp at hi; omega
      rw [List.getElem_append_right (Nat.le_refl _)]
      simp only [Nat.sub_self,List.getElem_cons_zero]
      refine ⟨nk.kind,?_,fun a ha=>?_,?_⟩
      ·simp only [trNd,List.length_map]; exact nk.num
      ·obtain ⟨b,hb,rfl⟩:=List.mem_map.1 ha
       have h1:=aok b hb
       exact i3 b.toNat h1.2.1 h1.2.2
      ·simp only [trNd,List.length_map]; exact nk.k
    ·dsimp only
     rw [hg]
     split
     ·rename_i e
      subst e
      rw [show ((v : Int) + (s.2.length : Int)).toNat = l0.length + s.2.length by omega]
      have h1:=valsS_at l0 (s.2 ++ [trNd s.1 l[k]]) (k:=s.2.length) (by simp)
      have h2:=valsS_at l0 l hkl
      rw [h1,← hl,h2,List.take_left']
      ·simp only [List.getElem_append_right (Nat.le_refl _),Nat.sub_self,List.getElem_cons_zero]
       have hc : cntT (valsS l0 s.2) (trNd s.1 l[k]).args = cntT (valsS l0 (l.take k)) l[k].args:=by
        refine cntT_congr fun a ha=>?_
        have h3:=aok a ha
        rw [valsS_take l0 l (by omega) (by omega)]
        exact i5 l0 hl a.toNat h3.2.1 h3.2.2
       rw [hc]
       exact ndVal_len (by simp) _
      ·rfl
     ·rename_i hne
      have h3:=i3 j (by omega) hjd
      rw [valsS_getApp l0 s.2 _ (by omega)]
      exact i5 l0 hl j (by omega) hjd
   ·rename_i hm
    refine ⟨i1,by omega,fun j hj hjd=>?_,i4,fun l0 hl j hj hjd=>?_⟩
    ·rcases Nat.lt_or_ge j (v + k) with h | h
     ·exact i3 j h hjd
     ·obtain rfl : j = v + k:=by omega
      rcases hjd with h' | h'
      ·omega
      ·exact absurd h' hm
    ·rcases Nat.lt_or_ge j (v + k) with h | h
     ·exact i5 l0 hl j h hjd
     ·obtain rfl : j = v + k:=by omega
      rcases hjd with h' | h'
      ·omega
      ·exact absurd h' hm

def belO (f : Fo) : List Bool:=belF f.vars.toNat f.nodes f.top.toNat
def trS (f : Fo) (k : Nat) : List Int × List Nd:=trK f.vars.toNat f.nodes (belO f) k
def trimF (f : Fo) : Fo:=⟨f.vars,(trS f f.nodes.length).2,toG (trS f f.nodes.length).1 f.top⟩

theorem trS_inv (f : Fo) (h : FOk f) (k : Nat) (hk : k ≤ f.nodes.length) : TrI f.vars.toNat f.nodes (belO f) k (trS f k):=by
 have h1:=h.vars
 have h4:=h.top
 have ha:=h.args
 have hb:=fun j=>belF_iff (v:=f.vars.toNat) (l:=f.nodes) (top:=f.top.toNat) (by omega) ha j
 refine trK_inv (fun i hi=>?_) (fun i hi hd a haa=>?_) k hk
 ·have:=h.nodes i hi
  rw [show (f.vars.toNat : Int) = f.vars by omega]; exact this
 ·refine .inr ?_
  have h2:=(hb _).1 hd
  exact (hb _).2 (.step h2 hi haa)

theorem trim_ok (f : Fo) (h : FOk f) : FOk (trimF f) ∧ ∀ l0 : List Bool,l0.length = f.vars.toNat → (valsS l0 (trimF f).nodes).getD (trimF f).top.toNat false = (valsS l0 f.nodes).getD f.top.toNat false:=by
 have h1:=h.vars
 have h3:=h.len
 have h4:=h.top
 have ti:=trS_inv f h f.nodes.length (Nat.le_refl _)
 have hb:=fun j=>belF_iff (v:=f.vars.toNat) (l:=f.nodes) (top:=f.top.toNat) (by omega) h.args j
 have ht : f.top.toNat < f.vars.toNat ∨ (belO f).getD f.top.toNat false = true:=.inr ((hb _).2 .root)
 have rf:=ti.ref f.top.toNat (by omega) ht
 have out:=ti.out
 refine ⟨⟨h1,by show (trS f f.nodes.length).2.length ≤ 128; omega,fun i hi=>?_,?_⟩,fun l0 hl=>?_⟩
 ·have:=ti.nd i hi
  rw [show (f.vars.toNat : Int) = f.vars by omega] at this; exact this
 ·show 0 ≤ toG _ f.top ∧ toG _ f.top < f.vars + _
  unfold toG trimF
  dsimp only
  omega
 ·exact ti.val l0 hl f.top.toNat (by omega) ht

def fillL (n k : Nat) : List Int:=(List.range k).map (fun i : Nat=>(i : Int)) ++ List.replicate (n - k) 0

theorem fillL_succ {n k : Nat} (h : k < n) : (fillL n k).set k (k : Int) = fillL n (k + 1):=by
 unfold fillL
 obtain ⟨m,hm⟩ : ∃ m,n - k = m + 1:=⟨n - k - 1,by omega⟩
 rw [hm,show n - (k + 1) = m by omega,List.set_append_right _ _ (by simp),List.range_succ,List.map_append,List.append_assoc]
 simp [List.replicate_succ]

theorem fillL_len {n k : Nat} (h : k ≤ n) : (fillL n k).length = n:=by simp [fillL]; omega

theorem c_fTrim (f : Fo) (h : FOk f) : FnH Tryz.prog 128 [f.av] [] (.tup [(trimF f).av,.nilI]) []:=by
 have cc:=c_fCheck f h
 have cb:=c_fbelow f h
 have hbl : (belF f.vars.toNat f.nodes f.top.toNat).length = f.vars.toNat + f.nodes.length:=belK_len _ _ _ _
 have hinv:=trS_inv f h
 obtain ⟨h1,h2,h3,h4⟩:=h
 refine FnH.intro lay mixed Tryz.func128 (by kernel_rfl) rfl (by kernel_rfl) rfl fun hok=>?_
 (try dsimp only[argC,succC]);(try dsimp only[awp]);conv=>whnf
 refine .pure _ _ ?_ ⟨rfl,rfl⟩ cc fun _=>?_
 ·exact leL_refl _
 (try dsimp only[awp]);conv=>whnf
 refine ⟨inr64 (by simp; omega) (by simp; omega),?_⟩
 (try dsimp only[awp]);conv=>whnf
 rw [List.length_map,show f.vars + (f.nodes.length : Int) = ((f.vars.toNat + f.nodes.length : Nat) : Int) by omega]
 refine ⟨⟨by omega,Int.le_refl _,by show ((f.vars.toNat + f.nodes.length : Nat) : Int) * ((8 : Nat) : Int) ≤ 281474976710656; omega,by omega⟩,.wr ?_⟩
 rw [Int.toNat_natCast]
 (try dsimp only[awp]);conv=>whnf
 refine LoopE.of <| (LoopSpec.inv (.refl _ _) (fun k : Nat=>k ≤ f.vars.toNat) (fun k=>[(32,.int .i64 k)]) (fun k=>[(3,.arr 1 (f.vars.toNat + f.nodes.length) ((fillL (f.vars.toNat + f.nodes.length) k).map (.int .i64))),(2,.box (.ag [.int .i64 f.vars,.nils,.int .i64 0])),(1,.box (.ag [.int .i64 0,.nils,.int .i64 0])),(0,.box f.av)]) (fun k=>f.vars.toNat - k) 0 (Nat.zero_le _) ?_ ?_ ?_)
 ·exact fun _=>rfl
 ·refine ⟨?_,.mk ?_ (by simp [idsOk])⟩
  ·all_goals exact wk
  ·repeat' first|exact rfl|exact trivial|exact wR|exact lR _|apply aI
   all_goals first | (show leRL (List.replicate _ _) (List.map _ ([] ++ List.replicate _ 0)); rw [List.nil_append,List.map_replicate]; exact leRL_refl _) | skip
 intro k hk _
 have hfl:=fillL_len (n:=f.vars.toNat + f.nodes.length) (k:=k) (by omega)
 (try dsimp only[awp]);conv=>whnf
 refine And.intro (fun g=>?_) (fun g=>?_)
 ·have hlt : k < f.vars.toNat:=by omega
  have hfs:=fillL_succ (n:=f.vars.toNat + f.nodes.length) (k:=k) (by omega)
  generalize fillL (f.vars.toNat + f.nodes.length) k = d at *
  (try dsimp only[awp]);conv=>whnf
  refine ⟨⟨by omega,by omega⟩,?_⟩
  (try dsimp only[awp]);conv=>whnf
  refine ⟨by rw [List.length_map]; omega,rfl,?_⟩
  (try dsimp only[awp]);conv=>whnf
  refine zA ?_;conv=>whnf
  refine ⟨k + 1,?_,?_,?_⟩
  ·exact hlt
  ·rw [← hfs]
   refine ⟨?_,.mk ?_ (by simp [idsOk])⟩
   ·all_goals exact wk
   ·repeat' first|exact rfl|exact trivial|exact wR|exact lR _|apply aI
    all_goals (rw [Nat.zero_add,Int.toNat_natCast,List.map_set]; exact leRL_refl _)
  ·omega
 have hk : k = f.vars.toNat:=by omega
 subst hk
 clear g
 have e0 : fillL (f.vars.toNat + f.nodes.length) f.vars.toNat = (trS f 0).1:=by
  show _ = _ ++ List.replicate f.nodes.length 0
  unfold fillL
  rw [Nat.add_sub_cancel_left]
 rw [e0]
 have cb' : FnH Tryz.prog 225 [f.av] [] (.sl 1 ((belO f).map .bool) .no) []:=cb
 have hbl' : (belO f).length = f.vars.toNat + f.nodes.length:=hbl
 unfold trimF
 have htr : ∀ k,trS f (k + 1) = if (belO f).getD (f.vars.toNat + k) false = true then ((trS f k).1.set (f.vars.toNat + k) ((f.vars.toNat : Int) + (trS f k).2.length),(trS f k).2 ++ [trNd (trS f k).1 (f.nodes.getD k default)]) else trS f k:=fun k=>rfl
 have htr0 : (trS f 0).2 = []:=rfl
 generalize trS f = tr at *
 generalize belO f = d at *
 (try dsimp only[awp]);conv=>whnf
 refine ADraw.auto (by kernel_rfl) ?_;conv=>whnf
 refine ACallP.pure _ _ ?_ ⟨rfl,rfl⟩ cb' ?_
 ·exact leL_refl _
 conv=>whnf
 have hle : ((d.map AV.bool).drop f.vars.toNat).take (((d.map AV.bool).length : Int).toNat - f.vars.toNat) = (d.drop f.vars.toNat).map AV.bool:=by
  rw [← List.map_drop,← List.map_take,List.take_of_length_le (by simp)]
 refine ACut.mk ⟨by simp; omega,?_⟩
 rw [hle]
 conv=>whnf
 have hdl : (d.drop f.vars.toNat).length = f.nodes.length:=by rw [List.length_drop]; omega
 refine LoopE.of <| (LoopSpec.inv (.growF 2 [1] 3 [] (.ag [.int .i64 f.vars,.nils,.int .i64 0]) .nils _ rfl rfl (.inl ⟨rfl,rfl⟩) rfl (.refl _ _)) (fun k : Nat=>k ≤ f.nodes.length) (fun k=>[(46,.int .i64 k)]) (fun k=>[(4,.tok 3 (tr k).2.length),(3,.arr 1 (f.vars.toNat + f.nodes.length) ((tr k).1.map (.int .i64))),(2,.box (.ag [.int .i64 f.vars,.sl 3 ((tr k).2.map Nd.av) (.own 4),.int .i64 0])),(1,.box (.ag [.int .i64 0,.nils,.int .i64 0])),(0,.box f.av)]) (fun k=>f.nodes.length - k) 0 (Nat.zero_le _) ?_ ?_ ?_)
 ·exact fun _=>rfl
 ·refine ⟨?_,.mk ?_ (by simp [idsOk])⟩
  ·all_goals exact wk
  ·repeat' first|exact rfl|exact trivial|exact wR|exact lR _|apply aI
   all_goals first | (rw [htr0]; trivial) | (rw [htr0]; rfl) | skip
 intro k hk _
 have ik:=hinv k hk
 (try dsimp only[awp]);conv=>whnf
 refine And.intro (fun g=>?_) (fun g=>?_)
 ·have hlt : k < f.nodes.length:=by simp at g; omega
  have hs1:=htr k
  have hnl : (f.nodes[k]).args.length ≤ 16:=by
   have hal:=(h3 _ hlt).num
   split at hal
   ·omega
   ·split at hal <;> omega
  have hna:=(h3 _ hlt).args
  have ex : f.nodes.getD k default = f.nodes[k]:=by rw [List.getD_eq_getElem?_getD,List.getElem?_eq_getElem hlt]; rfl
  rw [ex] at hs1
  (try dsimp only[awp]);conv=>whnf
  refine aidxD false (by omega) ?_
  rw [show (d.drop f.vars.toNat).getD ((k : Nat) : Int).toNat false = d.getD (f.vars.toNat + k) false by rw [Int.toNat_natCast,List.getD_eq_getElem?_getD,List.getD_eq_getElem?_getD,List.getElem?_drop]]
  (try dsimp only[awp]);conv=>whnf
  refine And.intro (fun g2=>?_) (fun g2=>?_)
  ·have g2' : ¬ d.getD (f.vars.toNat + k) false = true:=by
    intro h; rw [h] at g2; cases g2
   rw [if_neg g2'] at hs1
   (try dsimp only[awp]);conv=>whnf
   refine zA ?_;conv=>whnf
   refine ⟨k + 1,?_,?_,?_⟩
   ·exact hlt
   ·rw [hs1]
    refine ⟨?_,.mk ?_ (by simp [idsOk])⟩
    ·all_goals exact wk
    ·all_goals exact wk
   ·omega
  have g2' : d.getD (f.vars.toNat + k) false = true:=by
   cases h : d.getD (f.vars.toNat + k) false with
   | true=>rfl
   | false=>rw [h] at g2; cases g2
  rw [if_pos g2'] at hs1
  (try dsimp only[awp]);conv=>whnf
  refine aidx hlt ?_
  generalize f.nodes[k] = x at *
  obtain ⟨il,io,ir,ind,iv⟩:=ik
  generalize tr k = st at *
  obtain ⟨to,out⟩:=st
  dsimp only at *
  (try dsimp only[awp]);conv=>whnf
  refine LoopE.of <| (LoopSpec.inv (.growF 6 [2] 1 [] (.ag [.int .i64 x.kind,.int .i64 x.k,.nils]) .nils _ rfl rfl (.inl ⟨rfl,rfl⟩) rfl (.refl _ _)) (fun j : Nat=>j ≤ x.args.length) (fun j=>[(66,.int .i64 j)]) (fun j=>[(7,.tok 1 j),(6,.box (.ag [.int .i64 x.kind,.int .i64 x.k,.sl 1 (((x.args.take j).map (toG to)).map (.int .i64)) (.own 7)])),(5,.box x.av),(4,.tok 3 out.length),(3,.arr 1 (f.vars.toNat + f.nodes.length) (to.map (.int .i64))),(2,.box (.ag [.int .i64 f.vars,.sl 3 (out.map Nd.av) (.own 4),.int .i64 0])),(1,.box (.ag [.int .i64 0,.nils,.int .i64 0])),(0,.box f.av)]) (fun j=>x.args.length - j) 0 (Nat.zero_le _) ?_ ?_ ?_)
  ·exact fun _=>rfl
  ·refine ⟨?_,.mk ?_ (by simp [idsOk])⟩
   ·all_goals exact wk
   ·all_goals exact wk
  intro j hj _
  have htl : ((x.args.take j).map (toG to)).length = j:=by rw [List.length_map,List.length_take]; omega
  (try dsimp only[awp]);conv=>whnf
  refine And.intro (fun g3=>?_) (fun g3=>?_)
  ·have hjl : j < x.args.length:=by simpa using g3
   have ha:=hna _ (List.getElem_mem hjl)
   have ht1 : (x.args.take (j + 1)).map (toG to) = (x.args.take j).map (toG to) ++ [toG to x.args[j]]:=by rw [List.take_succ_eq_append_getElem hjl,List.map_append]; rfl
   (try dsimp only[awp]);conv=>whnf
   refine aidx hjl ?_
   generalize x.args[j] = a at *
   (try dsimp only[awp]);conv=>whnf
   refine ADraw.auto (by kernel_rfl) ?_;conv=>whnf
   refine ⟨⟨by omega,by omega⟩,?_⟩
   conv=>whnf
   rw [Nat.zero_add]
   refine aidxD 0 ⟨by omega,by omega⟩ ?_
   conv=>whnf
   refine ⟨rfl,?_⟩
   conv=>whnf
   refine ⟨by rw [List.length_map,htl],.mk (by simp [maxL]; omega) (by simp; omega) ?_⟩
   (try dsimp only[awp]);conv=>whnf
   refine zA ?_;conv=>whnf
   refine ⟨j + 1,?_,?_,?_⟩
   ·exact hjl
   ·rw [ht1]
    refine ⟨?_,.mk ?_ (by simp [idsOk])⟩
    ·all_goals exact wk
    ·repeat' first|exact rfl|exact trivial|exact wR|exact lR _|apply aI
     all_goals first | (simp; omega) | (show leRL _ (List.map _ (_ ++ [_])); rw [List.map_append]; exact leRL_refl _)
   ·omega
  have hjl : j = x.args.length:=by (have : ¬ j < x.args.length:=by simpa using g3); omega
  subst hjl
  rw [List.take_length]
  (try dsimp only[awp]);conv=>whnf
  refine ⟨inr64 (by omega) (by omega),?_⟩
  (try dsimp only[awp]);conv=>whnf
  refine ⟨inr64 (by simp; omega) (by simp; omega),?_⟩
  (try dsimp only[awp]);conv=>whnf
  refine ⟨⟨by omega,by omega⟩,?_⟩
  (try dsimp only[awp]);conv=>whnf
  refine ⟨by rw [List.length_map]; omega,rfl,?_⟩
  (try dsimp only[awp]);conv=>whnf
  refine ⟨by rw [List.length_map],.mk (by simp [maxL]; omega) (by simp; omega) ?_⟩
  (try dsimp only[awp]);conv=>whnf
  refine zA ?_;conv=>whnf
  refine ⟨k + 1,?_,?_,?_⟩
  ·exact hlt
  ·rw [hs1]
   refine ⟨?_,.mk ?_ (by simp [idsOk])⟩
   ·all_goals exact wk
   ·repeat' first|exact rfl|exact trivial|exact wR|exact lR _|apply aI
    all_goals first | (simp; done) | (show leRL _ (List.map _ (_ ++ [_])); rw [List.map_append]; exact leRL_refl _) | (rw [List.map_set,Nat.zero_add,List.length_map,show (f.vars + (k : Int)).toNat = f.vars.toNat + k by omega,show f.vars + (out.length : Int) = (f.vars.toNat : Int) + out.length by omega]; exact leRL_refl _) | skip
  ·omega
 have hk : k = f.nodes.length:=by simp at g; omega
 subst hk
 obtain ⟨il,io,ir,ind,iv⟩:=ik
 generalize tr f.nodes.length = st at *
 obtain ⟨to,out⟩:=st
 dsimp only at *
 (try dsimp only[awp]);conv=>whnf
 refine ⟨⟨h4.1,by omega⟩,?_⟩
 (try dsimp only[awp]);conv=>whnf
 rw [Nat.zero_add]
 refine aidxD 0 ⟨by omega,by omega⟩ ?_
 (try dsimp only[awp]);conv=>whnf
 refine ⟨rfl,?_⟩
 (try dsimp only[awp]);conv=>whnf
 refine ⟨⟨_,_,.refl _ _,?_⟩⟩
 conv=>whnf
 refine ⟨?_,rfl,by simp [nextId],.mk ?_ (by simp [idsOk])⟩
 ·all_goals exact wk
 ·all_goals exact wk

theorem fnLe {f : Nat} {As Bs : List AV} {R : AV} {H H' : Heap} (h : FnH Tryz.prog f As H R H') (hle : leL Bs As) : FnH Tryz.prog f Bs H R H' :=
 ⟨h.1,fun c vs hr hv=>h.2 c vs hr (leL_EVL hle hv)⟩

theorem ix_hi2 {i : Nat} (h : 7 ≤ i) : ix [5,2,6,3,4] i = none:=by
 match i,h with
 | k + 7,_=>rfl

theorem updH_hi2 {n : Nat} {G Y : Heap} : ∀ {X : Heap},(∀ x ∈ X,7 ≤ x.1) → updH [5,2,6,3,4] n G (X ++ Y) = X ++ updH [5,2,6,3,4] n G Y
 | [],_=>rfl
 | (i,o) :: X,h=>by
   have hi:=h (i,o) (by simp)
   simp only [List.cons_append,updH,ix_hi2 hi]
   rw [updH_hi2 fun x hx=>h x (by simp [hx])]

abbrev tb2 (T : Tb) (Y : Heap) : Heap:=(6,.tok 3 T.nodes.length) :: (5,.box (.ag [.sl 1 (T.order.map (.int .i64)) .no,.ms 2 0 T.place.length T.place.length 1,.sl 3 (T.nodes.map nAV) (.own 6),.mp 3,.mp 4])) ::
 (4,.amap shN (encM T.memo)) :: (3,.amap shN (encM T.uq)) :: (2,.arr 1 T.place.length (T.place.map (.int .i64))) :: Y

theorem frB2 {f : Nat} {args As : List AV} {R R' : AV} {T T' : Tb} (X : Heap) {o1 o0 : HO} (hX : ∀ x ∈ X,7 ≤ x.1) (h : FnH Tryz.prog f args (hpT T) R (hpT T'))
  (ha : ∀ n,rnL (sg [5,2,6,3,4] n) args = As) (hR : ∀ n,rnV (sg [5,2,6,3,4] n) R = R') (hb : bndBL 5 args = true) :
  FnH Tryz.prog f As (X ++ tb2 T [(1,o1),(0,o0)]) R' (X ++ tb2 T' [(1,o1),(0,o0)]):=by
 have hn : 7 ≤ nextId (X ++ tb2 T [(1,o1),(0,o0)]):=by
  cases X with
  | nil=>exact Nat.le_refl _
  | cons x X=>have:=hX x (by simp); obtain ⟨i,o⟩:=x; simp [nextId] at this ⊢; omega
 have h1 : ∀ (k : Nat),k < 7 → ∀ (q : HO → Prop),hgetC (X ++ tb2 T [(1,o1),(0,o0)]) k q ↔ hgetC (tb2 T [(1,o1),(0,o0)]) k q:=fun k hk q=>hgetC_top hk hX
 have:=FnH.frame (H:=X ++ tb2 T [(1,o1),(0,o0)]) (args:=As) [5,2,6,3,4] h ⟨?_,rfl,rfl,hb⟩ ?_ (by rw [ha]; exact leL_refl _)
 ·rw [hR] at this
  have e : frH [5,2,6,3,4] (hpT T') (X ++ tb2 T [(1,o1),(0,o0)]) = X ++ tb2 T' [(1,o1),(0,o0)]:=by
   unfold frH
   rw [updH_hi2 hX]
   show X ++ updH _ _ _ _ = _
   congr 1
   show (6,_) :: (5,_) :: (4,HO.amap shN (rnM _ (encM T'.memo))) :: (3,HO.amap shN (rnM _ (encM T'.uq))) :: _ = _
   rw [encM_rn,encM_rn]
   rfl
  rwa [e] at this
 ·have : ∀ k,k < 7 → Nat.blt k (nextId (X ++ tb2 T [(1,o1),(0,o0)])) = true:=fun k hk=>by
   exact Nat.ble_eq_true_of_le (by omega)
  simp only [allLt,this 2 (by decide),this 3 (by decide),this 4 (by decide),this 5 (by decide),this 6 (by decide)]
 ·refine ⟨(h1 4 (by decide) _).2 ⟨⟨rfl,leM_rn _ _⟩,encM_bnd _ _⟩,(h1 3 (by decide) _).2 ⟨⟨rfl,leM_rn _ _⟩,encM_bnd _ _⟩,(h1 6 (by decide) _).2 ⟨⟨rfl,rfl⟩,rfl⟩,(h1 2 (by decide) _).2 ⟨⟨rfl,rfl,leRL_refl _⟩,rfl⟩,(h1 5 (by decide) _).2 ⟨?_,rfl⟩,trivial⟩
  exact le0_refl _

theorem ix_hi3 {i : Nat} (h : 8 ≤ i) : ix [6,3,7,4,5] i = none:=by
 match i,h with
 | k + 8,_=>rfl

theorem updH_hi3 {n : Nat} {G Y : Heap} : ∀ {X : Heap},(∀ x ∈ X,8 ≤ x.1) → updH [6,3,7,4,5] n G (X ++ Y) = X ++ updH [6,3,7,4,5] n G Y
 | [],_=>rfl
 | (i,o) :: X,h=>by
   have hi:=h (i,o) (by simp)
   simp only [List.cons_append,updH,ix_hi3 hi]
   rw [updH_hi3 fun x hx=>h x (by simp [hx])]

abbrev tb3 (T : Tb) (Y : Heap) : Heap:=(7,.tok 3 T.nodes.length) :: (6,.box (.ag [.sl 1 (T.order.map (.int .i64)) .no,.ms 3 0 T.place.length T.place.length 1,.sl 3 (T.nodes.map nAV) (.own 7),.mp 4,.mp 5])) ::
 (5,.amap shN (encM T.memo)) :: (4,.amap shN (encM T.uq)) :: (3,.arr 1 T.place.length (T.place.map (.int .i64))) :: Y

theorem frB3 {f : Nat} {args As : List AV} {R R' : AV} {T T' : Tb} (X : Heap) {o2 o1 o0 : HO} (hX : ∀ x ∈ X,8 ≤ x.1) (h : FnH Tryz.prog f args (hpT T) R (hpT T'))
  (ha : ∀ n,rnL (sg [6,3,7,4,5] n) args = As) (hR : ∀ n,rnV (sg [6,3,7,4,5] n) R = R') (hb : bndBL 5 args = true) :
  FnH Tryz.prog f As (X ++ tb3 T [(2,o2),(1,o1),(0,o0)]) R' (X ++ tb3 T' [(2,o2),(1,o1),(0,o0)]):=by
 have hn : 8 ≤ nextId (X ++ tb3 T [(2,o2),(1,o1),(0,o0)]):=by
  cases X with
  | nil=>exact Nat.le_refl _
  | cons x X=>have:=hX x (by simp); obtain ⟨i,o⟩:=x; simp [nextId] at this ⊢; omega
 have h1 : ∀ (k : Nat),k < 8 → ∀ (q : HO → Prop),hgetC (X ++ tb3 T [(2,o2),(1,o1),(0,o0)]) k q ↔ hgetC (tb3 T [(2,o2),(1,o1),(0,o0)]) k q:=fun k hk q=>hgetC_top hk hX
 have:=FnH.frame (H:=X ++ tb3 T [(2,o2),(1,o1),(0,o0)]) (args:=As) [6,3,7,4,5] h ⟨?_,rfl,rfl,hb⟩ ?_ (by rw [ha]; exact leL_refl _)
 ·rw [hR] at this
  have e : frH [6,3,7,4,5] (hpT T') (X ++ tb3 T [(2,o2),(1,o1),(0,o0)]) = X ++ tb3 T' [(2,o2),(1,o1),(0,o0)]:=by
   unfold frH
   rw [updH_hi3 hX]
   show X ++ updH _ _ _ _ = _
   congr 1
   show (7,_) :: (6,_) :: (5,HO.amap shN (rnM _ (encM T'.memo))) :: (4,HO.amap shN (rnM _ (encM T'.uq))) :: _ = _
   rw [encM_rn,encM_rn]
   rfl
  rwa [e] at this
 ·have : ∀ k,k < 8 → Nat.blt k (nextId (X ++ tb3 T [(2,o2),(1,o1),(0,o0)])) = true:=fun k hk=>by
   exact Nat.ble_eq_true_of_le (by omega)
  simp only [allLt,this 3 (by decide),this 4 (by decide),this 5 (by decide),this 6 (by decide),this 7 (by decide)]
 ·refine ⟨(h1 5 (by decide) _).2 ⟨⟨rfl,leM_rn _ _⟩,encM_bnd _ _⟩,(h1 4 (by decide) _).2 ⟨⟨rfl,leM_rn _ _⟩,encM_bnd _ _⟩,(h1 7 (by decide) _).2 ⟨⟨rfl,rfl⟩,rfl⟩,(h1 3 (by decide) _).2 ⟨⟨rfl,rfl,leRL_refl _⟩,rfl⟩,(h1 6 (by decide) _).2 ⟨?_,rfl⟩,trivial⟩
  exact le0_refl _


def l0 (v : Nat) (t : Int → Bool) : List Bool:=(List.range v).map fun i : Nat=>t (i : Int)

theorem l0_len (v : Nat) (t : Int → Bool) : (l0 v t).length = v:=by simp [l0]
theorem l0_get (v : Nat) (t : Int → Bool) {j : Nat} (h : j < v) : (l0 v t).getD j false = t (j : Int):=by
 unfold l0
 rw [List.getD_eq_getElem?_getD,List.getElem?_map,List.getElem?_range h]; rfl

theorem cntT_countP (v : List Bool) : ∀ (args : List Int),cntT v args = args.countP fun a=>v.getD a.toNat false:=by
 have k1 : ∀ (args : List Int) (n : Nat),args.foldl (fun n a=>if v.getD a.toNat false = true then n + 1 else n) n = n + args.countP fun a=>v.getD a.toNat false:=by
  intro args
  induction args with
  | nil=>intro n; simp
  | cons a l ih =>
    intro n
    rw [List.foldl_cons,ih,List.countP_cons]
    by_cases hf : v.getD a.toNat false = true
    ·rw [if_pos hf,if_pos hf]; omega
    ·rw [if_neg hf,if_neg hf]; omega
 intro args
 unfold cntT
 rw [k1,Nat.zero_add]

theorem cB_cntT {T : Tb} {t : Int → Bool} {to : List Int} {u : List Bool} : ∀ {args : List Int},(∀ a ∈ args,ev T.nodes t (to.getD a.toNat 0) = u.getD a.toNat false) → cB T t (args.map (toG to)) = cntT u args:=by
 intro args h
 rw [cntT_countP]
 unfold cB
 rw [List.countP_map]
 induction args with
 | nil=>rfl
 | cons a l ih =>
   rw [List.countP_cons,List.countP_cons,ih fun b hb=>h b (by simp [hb])]
   have e : ((fun r=>ev T.nodes t r) ∘ toG to) a = u.getD a.toNat false:=h a (by simp)
   rw [e]

structure BdI (g : Fo) (T0 : Tb) (Z : Nat) (k : Nat) (s : ImS) : Prop where
 good : GoodT s.T
 ext : Xt T0 s.T
 len : s.refs.length = g.vars.toNat + g.nodes.length
 all : ∀ j : Nat,j < k → s.T.Rf (s.refs.getD j 0) ∧ ∀ t,ev s.T.nodes t (s.refs.getD j 0) = (valsS (l0 g.vars.toNat t) g.nodes).getD j false
 size : s.T.nodes.length ≤ Z

def BdR1 (k : Nat) (s s' : ImS) : Prop:=∃ x,FnH Tryz.prog 129 [.ptr 0 [] 0,.int .i64 (k : Int)] (hpT s.T) (.int .i64 x) (hpT s'.T) ∧ s'.refs = s.refs.set k x

theorem bd_step1 {g : Fo} {T0 : Tb} {Z k : Nat} {s : ImS} (hZ : Z ≤ 100000000) (hk : k < g.vars.toNat) (hn : T0.n = g.vars.toNat) (h : BdI g T0 Z k s) : ∃ s',BdI g T0 (Z + 1) (k + 1) s' ∧ BdR1 k s s':=by
 obtain ⟨hg,hx,hl,ha,hz⟩:=h
 have hnn : s.T.n = g.vars.toNat:=by rw [hx.n,hn]
 have hp:=hg.plc (k : Int) (by omega) (by omega)
 have hl0 : s.T.lvl 0 = s.T.n:=if_pos (by omega)
 have hl1 : s.T.lvl 1 = s.T.n:=if_pos (by omega)
 obtain ⟨m1,m2,m3,m4,m5,m6,m7⟩:=make_good hg (v:=(k : Int)) (lo:=0) (hi:=1) ⟨by omega,by omega⟩ (.zero _) (.one _) (by omega) (by omega)
 have c:=c_tEvent s.T (k : Int) (by omega)
 generalize s.T.make (k : Int) 0 1 = q at *
 refine ⟨⟨q.1,s.refs.set k q.2⟩,⟨m1,hx.trans m2,by simp [hl],fun j hj=>?_,by show q.1.nodes.length ≤ _; omega⟩,q.2,c,rfl⟩
 dsimp only
 rw [getD_set_nat (by omega)]
 split
 ·rename_i e
  subst e
  refine ⟨m3,fun t=>?_⟩
  have:=valsS_getApp (l0 g.vars.toNat t) [] g.nodes (j:=j) (by rw [l0_len]; simpa using hk)
  rw [m7,ev_zero,ev_one]
  rw [List.nil_append] at this
  rw [this]
  show _ = (l0 g.vars.toNat t).getD j false
  rw [l0_get _ _ hk]
  cases t (j : Int) <;> rfl
 ·have:=ha j (by omega)
  exact ⟨m2.rf this.1,fun t=>by rw [m2.ev this.1]; exact this.2 t⟩

def BdR2 (g : Fo) (i : Nat) (s s' : ImS) : Prop :=
 ∃ x,FnH Tryz.prog 130 [.ptr 0 [] 0,(g.nodes.getD i default).av,iL ((g.nodes.getD i default).args.map (toG s.refs))] (hpT s.T) (.int .i64 x) (hpT s'.T) ∧ s'.refs = s.refs.set (g.vars.toNat + i) x ∧
   FnH Tryz.prog 54 [.ptr 0 [] 0,.int .i64 x,.int .i64 4096] (hpT s'.T) .tt (hpT s'.T)

theorem bd_step2 {g : Fo} (hok : FOk g) {N : Nat} (hN : N ≤ 12) (hv : g.vars ≤ N) {T0 : Tb} {Z i : Nat} {s : ImS} (hZ : Z + 600 * 2 ^ N ≤ 1000000000) (hi : i < g.nodes.length) (hn : T0.n = g.vars.toNat) (h : BdI g T0 Z (g.vars.toNat + i) s) :
  ∃ s',BdI g T0 (Z + 600 * 2 ^ N) (g.vars.toNat + i + 1) s' ∧ BdR2 g i s s':=by
 obtain ⟨hg,hx,hl,ha,hz⟩:=h
 have hvs:=hok.vars
 have hnn : s.T.n = g.vars.toNat:=by rw [hx.n,hn]
 have nk:=hok.nodes i hi
 have ex : g.nodes.getD i default = g.nodes[i]:=by rw [List.getD_eq_getElem?_getD,List.getElem?_eq_getElem hi]; rfl
 have hrf : ∀ a ∈ g.nodes[i].args,a.toNat < g.vars.toNat + i:=fun a haa=>by have:=nk.args a haa; omega
 obtain ⟨T',r,c,p⟩:=c_dnode N s.T hg (by omega) g.vars i g.nodes[i] nk (g.nodes[i].args.map (toG s.refs)) (by simp) (fun r hr=>by
  obtain ⟨a,haa,rfl⟩:=List.mem_map.1 hr
  exact (ha a.toNat (hrf a haa)).1) (by omega)
 have p5:=p.size
 have csm:=c_tSmall N hN T' p.good (by omega) (by rw [p.ext.n]; omega) r p.rf
 refine ⟨⟨T',s.refs.set (g.vars.toNat + i) r⟩,⟨p.good,hx.trans p.ext,by simp [hl],fun j hj=>?_,by show T'.nodes.length ≤ _; omega⟩,r,by rw [ex]; exact c,rfl,csm⟩
 dsimp only
 rw [getD_set_nat (by omega)]
 split
 ·rename_i e
  subst e
  refine ⟨p.rf,fun t=>?_⟩
  have h1:=valsS_at (l0 g.vars.toNat t) g.nodes hi
  rw [l0_len] at h1
  rw [p.val t,h1]
  congr 1
  refine cB_cntT fun a haa=>?_
  rw [(ha a.toNat (hrf a haa)).2 t]
  exact (valsS_take (l0 g.vars.toNat t) g.nodes (by rw [l0_len]; exact hrf a haa) (by omega)).symm
 ·have:=ha j (by omega)
  exact ⟨p.ext.rf this.1,fun t=>by rw [p.ext.ev this.1]; exact this.2 t⟩

theorem GoodD.tr {T T' : Tb} (h : Xt T T') {ns : List Node} {k : Nat} {x : Node} (g : GoodD T' ns k x) : GoodD T ns k x:=by
 have e : ∀ r,lvlG T' ns r = lvlG T ns r:=fun r=>by unfold lvlG; rw [h.n,h.pl]
 obtain ⟨a,b,c,d,f⟩:=g
 rw [h.n] at a
 rw [h.pl,e] at d f
 exact ⟨a,b,c,d,f⟩

structure NrF (f g : Fo) : Prop where
 ok : FOk g
 vars : g.vars = f.vars
 val : ∀ l0 : List Bool,l0.length = f.vars.toNat → (valsS l0 g.nodes).getD g.top.toNat false = (valsS l0 f.nodes).getD f.top.toNat false

theorem size_zero (v : Nat) (l : List Nd) (d : List Bool) : ∀ n,(sizeF v l d n).1 = 0 → ∀ i < n,d.getD (v + i) false = false
 | 0,_,i,hi=>absurd hi (Nat.not_lt_zero _)
 | n + 1,h,i,hi=>by
   rw [sizeF_succ] at h
   split at h
   ·simp at h
   ·rename_i hm
    by_cases e : i = n
    ·subst e; simpa using hm
    ·exact size_zero v l d n h i (by omega)

theorem nr_trim (f : Fo) (h : FOk f) : NrF f (trimF f):=⟨(trim_ok f h).1,rfl,(trim_ok f h).2⟩
theorem nr_nil (f : Fo) (h : FOk f) (hz : (sizeF f.vars.toNat f.nodes (belO f) f.nodes.length).1 = 0) : NrF f ⟨f.vars,[],f.top⟩:=by
 have h1:=h.vars
 have h4:=h.top
 have hb:=fun j=>belF_iff (v:=f.vars.toNat) (l:=f.nodes) (top:=f.top.toNat) (by omega) h.args j
 have ht : f.top.toNat < f.vars.toNat:=by
  apply Classical.byContradiction
  intro hn
  have:=size_zero _ _ _ _ hz (f.top.toNat - f.vars.toNat) (by omega)
  rw [show f.vars.toNat + (f.top.toNat - f.vars.toNat) = f.top.toNat by omega] at this
  have h2:=(hb f.top.toNat).2 .root
  unfold belO at this
  rw [h2] at this
  cases this
 refine ⟨⟨h1,by simp,fun i hi=>absurd hi (Nat.not_lt_zero _),h4.1,by show f.top < f.vars + 0; omega⟩,rfl,fun l0 hl=>?_⟩
 have:=valsS_getApp l0 [] f.nodes (j:=f.top.toNat) (by rw [hl,List.length_nil]; omega)
 exact this.symm

abbrev bdX (v : Nat) (refs : List Int) : Nat × HO:=(7,.arr 1 v (refs.map (.int .i64)))

theorem c_dBuild {N : Nat} (hN : N ≤ 7) (f : Fo) (h : FOk f) (hv : f.vars ≤ N) {o : List Int} (ho : PermO o f.vars.toNat) :
  ∃ ns x,FnH Tryz.prog 51 [f.av,iL o] [] (.tup [diaAV o ns x,.nilI]) [] ∧ (∀ (k : Nat) (h : k < ns.length),GoodD (Tb.new o) ns k ns[k]) ∧ 0 ≤ x ∧ x < 2 + (ns.length : Int) ∧ (∀ t,ev ns t x = (valsS (l0 f.vars.toNat t) f.nodes).getD f.top.toNat false) ∧ ns.length ≤ 128:=by
 have hvs:=h.vars
 have hol:=ho.len
 have key : ∃ (g : Fo) (b : Bool),NrF f g ∧ (if b = true then g = trimF f ∧ 0 < (sizeF f.vars.toNat f.nodes (belO f) f.nodes.length).1 else g = ⟨f.vars,[],f.top⟩ ∧ (sizeF f.vars.toNat f.nodes (belO f) f.nodes.length).1 = 0):=by
  by_cases hz : (sizeF f.vars.toNat f.nodes (belO f) f.nodes.length).1 = 0
  ·exact ⟨_,false,nr_nil f h hz,by simp [hz]⟩
  ·exact ⟨_,true,nr_trim f h,by simp; omega⟩
 obtain ⟨g,b,nr,hb⟩:=key
 have hgv:=nr.vars
 have hgl:=nr.ok.len
 have hpow : 2 ^ N ≤ 2 ^ 7:=Nat.pow_le_pow_right (by decide) hN
 have hT0 : GoodT (Tb.new o):=new_good ho (by omega)
 have hn0 : (Tb.new o).n = g.vars.toNat:=by show (o.length : Int) = _; omega
 obtain ⟨F,F0,F1,F2⟩:=chain_ex (fun k s=>BdI g (Tb.new o) k k s) BdR1 g.vars.toNat ⟨Tb.new o,List.replicate (g.vars.toNat + g.nodes.length) 0⟩
  ⟨hT0,.refl _,by simp,fun j hj=>absurd hj (Nat.not_lt_zero _),Nat.le_refl _⟩ (fun k s hk hs=>bd_step1 (by omega) hk hn0 hs)
 obtain ⟨G,G0,G1,G2⟩:=chain_ex (fun k s=>BdI g (Tb.new o) (g.vars.toNat + k * (600 * 2 ^ N)) (g.vars.toNat + k) s) (BdR2 g) g.nodes.length (F g.vars.toNat)
  (by have:=F1 g.vars.toNat (Nat.le_refl _); simpa using this) (fun k s hk hs=>by
   have h1 : k * (600 * 2 ^ N) ≤ 128 * (600 * 2 ^ 7):=Nat.mul_le_mul (by omega) (by omega)
   have:=bd_step2 (N:=N) nr.ok (by omega) (by omega) (by omega) hk hn0 hs
   rw [show g.vars.toNat + (k + 1) * (600 * 2 ^ N) = g.vars.toNat + k * (600 * 2 ^ N) + 600 * 2 ^ N by rw [Nat.add_mul]; omega]
   exact this)
 have last:=G1 g.nodes.length (Nat.le_refl _)
 have hsz:=last.size
 have h1 : g.nodes.length * (600 * 2 ^ N) ≤ 128 * (600 * 2 ^ 7):=Nat.mul_le_mul (by omega) (by omega)
 have gtop:=nr.ok.top
 have gvars:=nr.ok.vars
 have lt:=last.all g.top.toNat (by omega)
 have hnG : (G g.nodes.length).T.n = g.vars.toNat:=by rw [last.ext.n,hn0]
 obtain ⟨ns,x,c,c1,c2,c3,c4,c5⟩:=c_tExport (G g.nodes.length).T last.good (by omega) (by
  rw [hnG,Int.toNat_natCast]
  have : 2 ^ g.vars.toNat ≤ 2 ^ 7:=Nat.pow_le_pow_right (by decide) (by omega)
  omega) _ lt.1
 have hord : (G g.nodes.length).T.order = o:=last.ext.order
 rw [hord] at c
 refine ⟨ns,x,?_,fun k hk=>(c1 k hk).tr last.ext,c2,c3,fun t=>?_,?_⟩
 ·have cs:=c_fSize f h
  have ct:=c_fTrim f h
  have co:=c_oCheck ho (by omega)
  have cn:=c_tNew ho (by omega)
  have hFG:=G0.symm
  have hbelO : belF f.vars.toNat f.nodes f.top.toNat = belO f:=rfl
  rw [hbelO] at cs
  generalize sizeF f.vars.toNat f.nodes (belO f) f.nodes.length = sz at *
  rw [show (f.vars.toNat : Int) = f.vars by omega] at co
  refine FnH.intro lay mixed Tryz.func51 (by kernel_rfl) rfl (by kernel_rfl) rfl fun hok=>?_
  (try dsimp only[argC,succC]);(try dsimp only[awp]);conv=>whnf
  refine .pure _ _ ?_ ⟨rfl,rfl⟩ cs fun _=>?_
  ·exact leL_refl _
  (try dsimp only[awp]);conv=>whnf
  refine .pure _ _ ?_ ⟨rfl,rfl⟩ co fun _=>?_
  ·exact leL_refl _
  (try dsimp only[awp]);conv=>whnf
  refine And.intro (fun g1=>?_) (fun g1=>?_)
  ·cases b with
   | false=>exfalso; simp at hb; omega
   | true =>
     obtain ⟨rfl,hb⟩:=hb
     generalize trimF f = g at *
     (try dsimp only[awp]);conv=>whnf
     refine .pure _ _ ?_ ⟨rfl,rfl⟩ ct fun _=>?_
     ·exact leL_refl _
     (try dsimp only[awp]);conv=>whnf
     refine .gen _ _ (FnH.frame [] cn ⟨rfl,rfl,rfl,rfl⟩ trivial (leL_refl _)) fun _=>?_
     (try dsimp only[awp]);conv=>whnf
     rw [List.length_map]
     refine ⟨inr64 (by omega) (by omega),?_⟩
     (try dsimp only[awp]);conv=>whnf
     rw [show g.vars + (g.nodes.length : Int) = ((g.vars.toNat + g.nodes.length : Nat) : Int) by omega]
     refine ⟨⟨by omega,Int.le_refl _,by show ((g.vars.toNat + g.nodes.length : Nat) : Int) * ((8 : Nat) : Int) ≤ 281474976710656; omega,by omega⟩,.wr ?_⟩
     rw [Int.toNat_natCast]
     (try dsimp only[awp]);conv=>whnf
     refine LoopE.of <| (LoopSpec.inv (.refl _ _) (fun k : Nat=>k ≤ g.vars.toNat) (fun k=>[(59,.int .i64 k)]) (fun k=>bdX (g.vars.toNat + g.nodes.length) (F k).refs :: tb2 (F k).T [(1,.box zDia),(0,.box g.av)]) (fun k=>g.vars.toNat - k) 0 (Nat.zero_le _) ?_ ?_ ?_)
     ·exact fun _=>rfl
     ·rw [F0]
      refine ⟨?_,.mk ?_ (by simp [idsOk])⟩
      ·all_goals exact wk
      ·repeat' first|exact rfl|exact trivial|exact wR|exact lR _|apply aI
       all_goals first | (rw [List.eq_nil_of_length_eq_zero hgn]; rfl) | (show leRL (List.replicate _ _) (List.map _ (List.replicate _ 0)); rw [List.map_replicate]; exact leRL_refl _) | (show le0 _ (AV.ms 2 0 (plcF o o.length).length (plcF o o.length).length 1); rw [plcF_len]; rfl) | exact plcF_len _ _ | exact (plcF_len _ _).symm | skip
     intro k hk _
     have fk:=F1 k hk
     have fkl:=fk.len
     (try dsimp only[awp]);conv=>whnf
     refine And.intro (fun h=>?_) (fun h=>?_)
     ·have hlt : k < g.vars.toNat:=by omega
      obtain ⟨x,q,e⟩:=F2 k hlt
      (try dsimp only[awp]);conv=>whnf
      refine .gen _ _ (frB2 [(7,_)] (by simp) q (fun _=>rfl) (fun _=>rfl) rfl) fun _=>?_
      (try dsimp only[awp]);conv=>whnf
      refine ⟨⟨by omega,by omega⟩,?_⟩
      (try dsimp only[awp]);conv=>whnf
      refine ⟨by rw [List.length_map]; omega,rfl,?_⟩
      (try dsimp only[awp]);conv=>whnf
      refine zA ?_;conv=>whnf
      refine ⟨k + 1,?_,?_,?_⟩
      ·exact hlt
      ·rw [e]
       refine ⟨?_,.mk ?_ (by simp [idsOk])⟩
       ·all_goals exact wk
       ·repeat' first|exact rfl|exact trivial|exact wR|exact lR _|apply aI
        all_goals first | exact leM_refl _ | exact encM_bnd _ _ | (rw [Nat.zero_add,Int.toNat_natCast,List.map_set]; exact leRL_refl _) | skip
      ·omega
     have hk : k = g.vars.toNat:=by omega
     subst hk
     clear h fkl fk
     rw [hFG]
     (try dsimp only[awp]);conv=>whnf
     refine LoopE.of <| (LoopSpec.inv (.refl _ _) (fun k : Nat=>k ≤ g.nodes.length) (fun k=>[(72,.int .i64 k)]) (fun k=>bdX (g.vars.toNat + g.nodes.length) (G k).refs :: tb2 (G k).T [(1,.box zDia),(0,.box g.av)]) (fun k=>g.nodes.length - k) 0 (Nat.zero_le _) ?_ ?_ ?_)
     ·exact fun _=>rfl
     ·refine ⟨?_,.mk ?_ (by simp [idsOk])⟩
      ·all_goals exact wk
      ·repeat' first|exact rfl|exact trivial|exact wR|exact lR _|apply aI
       all_goals first | exact leM_refl _ | exact encM_bnd _ _ | skip
     intro k hk _
     have fk:=G1 k hk
     have fkl:=fk.len
     refine And.intro (fun h=>?_) (fun h=>?_)
     ·have hlt : k < g.nodes.length:=by simp at h; omega
      obtain ⟨x,q,e,qs⟩:=G2 k hlt
      have ex : g.nodes.getD k default = g.nodes[k]:=by rw [List.getD_eq_getElem?_getD,List.getElem?_eq_getElem hlt]; rfl
      have nk:=nr.ok.nodes k hlt
      have hnl : (g.nodes[k]).args.length ≤ 16:=by
       have hal:=nk.num
       split at hal
       ·omega
       ·split at hal <;> omega
      have hna:=nk.args
      rw [ex] at q
      (try dsimp only[awp]);conv=>whnf
      refine aidx hlt ?_
      generalize g.nodes[k] = nd at *
      generalize G k = s at *
      (try dsimp only[awp]);conv=>whnf
      refine LoopE.of <| (LoopSpec.inv (.grow 15 1 [] .nils rfl (.inl ⟨rfl,rfl⟩) (.refl _ _)) (fun j : Nat=>j ≤ nd.args.length) (fun j=>[(80,.int .i64 j),(15,.sl 1 (((nd.args.take j).map (toG s.refs)).map (.int .i64)) (.own 9))]) (fun j=>(9,.tok 1 j) :: (8,.box nd.av) :: bdX (g.vars.toNat + g.nodes.length) s.refs :: tb2 s.T [(1,.box zDia),(0,.box g.av)]) (fun j=>nd.args.length - j) 0 (Nat.zero_le _) ?_ ?_ ?_)
      ·exact fun _=>rfl
      ·refine ⟨?_,.mk ?_ (by simp [idsOk])⟩
       ·all_goals exact wk
       ·repeat' first|exact rfl|exact trivial|exact wR|exact lR _|apply aI
        all_goals first | exact leM_refl _ | exact encM_bnd _ _ | skip
      intro j hj _
      have htl : ((nd.args.take j).map (toG s.refs)).length = j:=by rw [List.length_map,List.length_take]; omega
      (try dsimp only[awp]);conv=>whnf
      refine And.intro (fun g3=>?_) (fun g3=>?_)
      ·have hjl : j < nd.args.length:=by simpa using g3
       have ha:=hna _ (List.getElem_mem hjl)
       have ht1 : (nd.args.take (j + 1)).map (toG s.refs) = (nd.args.take j).map (toG s.refs) ++ [toG s.refs nd.args[j]]:=by rw [List.take_succ_eq_append_getElem hjl,List.map_append]; rfl
       (try dsimp only[awp]);conv=>whnf
       refine aidx hjl ?_
       generalize nd.args[j] = a at *
       (try dsimp only[awp]);conv=>whnf
       refine ⟨⟨by omega,by omega⟩,?_⟩
       (try dsimp only[awp]);conv=>whnf
       rw [Nat.zero_add]
       refine aidxD 0 ⟨by omega,by omega⟩ ?_
       (try dsimp only[awp]);conv=>whnf
       refine ⟨rfl,?_⟩
       (try dsimp only[awp]);conv=>whnf
       refine ⟨by rw [List.length_map,htl],.mk (by simp [maxL]; omega) (by simp; omega) ?_⟩
       (try dsimp only[awp]);conv=>whnf
       refine zA ?_;conv=>whnf
       refine ⟨j + 1,?_,?_,?_⟩
       ·exact hjl
       ·rw [ht1]
        refine ⟨?_,.mk ?_ (by simp [idsOk])⟩
        ·repeat' first|exact rfl|exact trivial|exact wR|exact lR _|apply aI
         all_goals first | (show leRL _ (List.map _ (_ ++ [_])); rw [List.map_append]; exact leRL_refl _) | skip
        ·repeat' first|exact rfl|exact trivial|exact wR|exact lR _|apply aI
         all_goals first | exact leM_refl _ | exact encM_bnd _ _ | (simp; omega) | skip
       ·omega
      have hjl : j = nd.args.length:=by (have : ¬ j < nd.args.length:=by simpa using g3); omega
      subst hjl
      rw [List.take_length]
      (try dsimp only[awp]);conv=>whnf
      refine ADraw.late [2] ⟨[true,true,false,true,true,true,false,true,false,true,false],by kernel_rfl,?_⟩
      conv=>whnf
      refine ⟨inr64 (by omega) (by omega),?_⟩
      conv=>whnf
      refine .gen _ _ (fnLe (frB2 (As:=[.ptr 5 [] 0,nd.av,iL (nd.args.map (toG s.refs))]) [(9,_),(8,_),(7,_)] (by simp) q (fun _=>rfl) (fun _=>rfl) rfl) ?_) fun _=>?_
      ·all_goals exact wk
      conv=>whnf
      (refine aI (by (conv=>whnf)<;>exact rfl) ?_;(conv=>whnf))
      refine ⟨⟨by omega,by omega⟩,?_⟩
      conv=>whnf
      refine ⟨by rw [List.length_map]; omega,rfl,?_⟩
      conv=>whnf
      (refine aI (by (conv=>whnf)<;>exact rfl) ?_;(conv=>whnf))
      refine ⟨inr64 (by omega) (by omega),?_⟩
      (try dsimp only[awp]);conv=>whnf
      refine ⟨⟨by omega,by omega⟩,?_⟩
      rw [show (List.map (AV.int .i64) s.refs).set (0 + (g.vars + (k : Int)).toNat) (strip (.int .i64 x)) = (s.refs.set (g.vars.toNat + k) x).map (.int .i64) from by rw [List.map_set,Nat.zero_add,show (g.vars + (k : Int)).toNat = g.vars.toNat + k by omega]; rfl]
      rw [← e]
      (try dsimp only[awp]);conv=>whnf
      have fk1:=(G1 (k + 1) hlt).len
      have ev1 : (G (k + 1)).refs.getD (g.vars.toNat + k) 0 = x:=by rw [e,getD_set_nat (by omega),if_pos rfl]
      rw [show 0 + (g.vars + (k : Int)).toNat = g.vars.toNat + k by omega]
      refine aidxD 0 ⟨by omega,by omega⟩ ?_
      rw [Int.toNat_natCast,ev1]
      (try dsimp only[awp]);conv=>whnf
      refine ⟨rfl,?_⟩
      (try dsimp only[awp]);conv=>whnf
      refine .gen _ _ (frB2 (As:=[.ptr 5 [] 0,.int .i64 x,.int .i64 4096]) [(9,_),(8,_),(7,_)] (by simp) qs (fun _=>rfl) (fun _=>rfl) rfl) fun _=>?_
      (try dsimp only[awp]);conv=>whnf
      refine zA ?_;conv=>whnf
      refine ⟨k + 1,?_,?_,?_⟩
      ·exact hlt
      ·refine ⟨?_,.mk ?_ (by simp [idsOk])⟩
       ·all_goals exact wk
       ·repeat' first|exact rfl|exact trivial|exact wR|exact lR _|apply aI
        all_goals first | exact leM_refl _ | exact encM_bnd _ _ | skip
      ·omega
     have hk : k = g.nodes.length:=by simp at h; omega
     subst hk
     generalize G g.nodes.length = s at *
     (try dsimp only[awp]);conv=>whnf
     refine ⟨⟨by omega,by omega⟩,?_⟩
     (try dsimp only[awp]);conv=>whnf
     rw [Nat.zero_add]
     refine aidxD 0 ⟨by omega,by omega⟩ ?_
     rw [Int.toNat_natCast]
     (try dsimp only[awp]);conv=>whnf
     refine ⟨rfl,?_⟩
     (try dsimp only[awp]);conv=>whnf
     refine .gen _ _ (frB2 (As:=[.ptr 5 [] 0,.int .i64 (s.refs.getD g.top.toNat 0)]) (R':=diaAV o ns x) [(7,_)] (by simp) c (fun _=>rfl) (fun _=>rfl) rfl) fun _=>?_
     (try dsimp only[awp]);conv=>whnf
     refine ⟨⟨_,_,.refl _ _,?_⟩⟩
     conv=>whnf
     refine ⟨?_,rfl,by simp [nextId],.mk ?_ (by simp [idsOk])⟩
     ·all_goals exact wk
     ·all_goals exact wk
  ·cases b with
   | true=>exfalso; simp at hb; omega
   | false =>
     obtain ⟨hge,hb⟩:=hb
     have hgn : g.nodes.length = 0:=by rw [hge]; rfl
     have hnil : AV.ag [.int .i64 f.vars,.nils,.int .i64 f.top] = AV.ag [.int .i64 g.vars,.nils,.int .i64 g.top]:=by rw [hge]
     (try dsimp only[awp]);conv=>whnf
     refine .gen _ _ (FnH.frame [] cn ⟨rfl,rfl,rfl,rfl⟩ trivial (leL_refl _)) fun _=>?_
     (try dsimp only[awp]);conv=>whnf
     refine ⟨inr64 (by omega) (by omega),?_⟩
     (try dsimp only[awp]);conv=>whnf
     rw [show f.vars + (0 : Int) = ((g.vars.toNat + g.nodes.length : Nat) : Int) by omega]
     refine ⟨⟨by omega,Int.le_refl _,by show ((g.vars.toNat + g.nodes.length : Nat) : Int) * ((8 : Nat) : Int) ≤ 281474976710656; omega,by omega⟩,.wr ?_⟩
     rw [Int.toNat_natCast]
     rw [hnil]
     (try dsimp only[awp]);conv=>whnf
     refine LoopE.of <| (LoopSpec.inv (.refl _ _) (fun k : Nat=>k ≤ g.vars.toNat) (fun k=>[(59,.int .i64 k)]) (fun k=>bdX (g.vars.toNat + g.nodes.length) (F k).refs :: tb2 (F k).T [(1,.box zDia),(0,.box g.av)]) (fun k=>g.vars.toNat - k) 0 (Nat.zero_le _) ?_ ?_ ?_)
     ·exact fun _=>rfl
     ·rw [F0]
      refine ⟨?_,.mk ?_ (by simp [idsOk])⟩
      ·all_goals exact wk
      ·repeat' first|exact rfl|exact trivial|exact wR|exact lR _|apply aI
       all_goals first | (rw [List.eq_nil_of_length_eq_zero hgn]; rfl) | (show leRL (List.replicate _ _) (List.map _ (List.replicate _ 0)); rw [List.map_replicate]; exact leRL_refl _) | (show le0 _ (AV.ms 2 0 (plcF o o.length).length (plcF o o.length).length 1); rw [plcF_len]; rfl) | exact plcF_len _ _ | exact (plcF_len _ _).symm | skip
     intro k hk _
     have fk:=F1 k hk
     have fkl:=fk.len
     (try dsimp only[awp]);conv=>whnf
     refine And.intro (fun h=>?_) (fun h=>?_)
     ·have hlt : k < g.vars.toNat:=by omega
      obtain ⟨x,q,e⟩:=F2 k hlt
      (try dsimp only[awp]);conv=>whnf
      refine .gen _ _ (frB2 [(7,_)] (by simp) q (fun _=>rfl) (fun _=>rfl) rfl) fun _=>?_
      (try dsimp only[awp]);conv=>whnf
      refine ⟨⟨by omega,by omega⟩,?_⟩
      (try dsimp only[awp]);conv=>whnf
      refine ⟨by rw [List.length_map]; omega,rfl,?_⟩
      (try dsimp only[awp]);conv=>whnf
      refine zA ?_;conv=>whnf
      refine ⟨k + 1,?_,?_,?_⟩
      ·exact hlt
      ·rw [e]
       refine ⟨?_,.mk ?_ (by simp [idsOk])⟩
       ·all_goals exact wk
       ·repeat' first|exact rfl|exact trivial|exact wR|exact lR _|apply aI
        all_goals first | exact leM_refl _ | exact encM_bnd _ _ | (rw [Nat.zero_add,Int.toNat_natCast,List.map_set]; exact leRL_refl _) | skip
      ·omega
     have hk : k = g.vars.toNat:=by omega
     subst hk
     clear h fkl fk
     rw [hFG]
     (try dsimp only[awp]);conv=>whnf
     refine LoopE.of <| (LoopSpec.inv (.refl _ _) (fun k : Nat=>k ≤ g.nodes.length) (fun k=>[(72,.int .i64 k)]) (fun k=>bdX (g.vars.toNat + g.nodes.length) (G k).refs :: tb2 (G k).T [(1,.box zDia),(0,.box g.av)]) (fun k=>g.nodes.length - k) 0 (Nat.zero_le _) ?_ ?_ ?_)
     ·exact fun _=>rfl
     ·refine ⟨?_,.mk ?_ (by simp [idsOk])⟩
      ·all_goals exact wk
      ·repeat' first|exact rfl|exact trivial|exact wR|exact lR _|apply aI
       all_goals first | exact leM_refl _ | exact encM_bnd _ _ | skip
     intro k hk _
     have fk:=G1 k hk
     have fkl:=fk.len
     refine And.intro (fun h=>?_) (fun h=>?_)
     ·have hlt : k < g.nodes.length:=by simp at h; omega
      obtain ⟨x,q,e,qs⟩:=G2 k hlt
      have ex : g.nodes.getD k default = g.nodes[k]:=by rw [List.getD_eq_getElem?_getD,List.getElem?_eq_getElem hlt]; rfl
      have nk:=nr.ok.nodes k hlt
      have hnl : (g.nodes[k]).args.length ≤ 16:=by
       have hal:=nk.num
       split at hal
       ·omega
       ·split at hal <;> omega
      have hna:=nk.args
      rw [ex] at q
      (try dsimp only[awp]);conv=>whnf
      refine aidx hlt ?_
      generalize g.nodes[k] = nd at *
      generalize G k = s at *
      (try dsimp only[awp]);conv=>whnf
      refine LoopE.of <| (LoopSpec.inv (.grow 15 1 [] .nils rfl (.inl ⟨rfl,rfl⟩) (.refl _ _)) (fun j : Nat=>j ≤ nd.args.length) (fun j=>[(80,.int .i64 j),(15,.sl 1 (((nd.args.take j).map (toG s.refs)).map (.int .i64)) (.own 9))]) (fun j=>(9,.tok 1 j) :: (8,.box nd.av) :: bdX (g.vars.toNat + g.nodes.length) s.refs :: tb2 s.T [(1,.box zDia),(0,.box g.av)]) (fun j=>nd.args.length - j) 0 (Nat.zero_le _) ?_ ?_ ?_)
      ·exact fun _=>rfl
      ·refine ⟨?_,.mk ?_ (by simp [idsOk])⟩
       ·all_goals exact wk
       ·repeat' first|exact rfl|exact trivial|exact wR|exact lR _|apply aI
        all_goals first | exact leM_refl _ | exact encM_bnd _ _ | skip
      intro j hj _
      have htl : ((nd.args.take j).map (toG s.refs)).length = j:=by rw [List.length_map,List.length_take]; omega
      (try dsimp only[awp]);conv=>whnf
      refine And.intro (fun g3=>?_) (fun g3=>?_)
      ·have hjl : j < nd.args.length:=by simpa using g3
       have ha:=hna _ (List.getElem_mem hjl)
       have ht1 : (nd.args.take (j + 1)).map (toG s.refs) = (nd.args.take j).map (toG s.refs) ++ [toG s.refs nd.args[j]]:=by rw [List.take_succ_eq_append_getElem hjl,List.map_append]; rfl
       (try dsimp only[awp]);conv=>whnf
       refine aidx hjl ?_
       generalize nd.args[j] = a at *
       (try dsimp only[awp]);conv=>whnf
       refine ⟨⟨by omega,by omega⟩,?_⟩
       (try dsimp only[awp]);conv=>whnf
       rw [Nat.zero_add]
       refine aidxD 0 ⟨by omega,by omega⟩ ?_
       (try dsimp only[awp]);conv=>whnf
       refine ⟨rfl,?_⟩
       (try dsimp only[awp]);conv=>whnf
       refine ⟨by rw [List.length_map,htl],.mk (by simp [maxL]; omega) (by simp; omega) ?_⟩
       (try dsimp only[awp]);conv=>whnf
       refine zA ?_;conv=>whnf
       refine ⟨j + 1,?_,?_,?_⟩
       ·exact hjl
       ·rw [ht1]
        refine ⟨?_,.mk ?_ (by simp [idsOk])⟩
        ·repeat' first|exact rfl|exact trivial|exact wR|exact lR _|apply aI
         all_goals first | (show leRL _ (List.map _ (_ ++ [_])); rw [List.map_append]; exact leRL_refl _) | skip
        ·repeat' first|exact rfl|exact trivial|exact wR|exact lR _|apply aI
         all_goals first | exact leM_refl _ | exact encM_bnd _ _ | (simp; omega) | skip
       ·omega
      have hjl : j = nd.args.length:=by (have : ¬ j < nd.args.length:=by simpa using g3); omega
      subst hjl
      rw [List.take_length]
      (try dsimp only[awp]);conv=>whnf
      refine ADraw.late [2] ⟨[true,true,false,true,true,true,false,true,false,true,false],by kernel_rfl,?_⟩
      conv=>whnf
      refine ⟨inr64 (by omega) (by omega),?_⟩
      conv=>whnf
      refine .gen _ _ (fnLe (frB2 (As:=[.ptr 5 [] 0,nd.av,iL (nd.args.map (toG s.refs))]) [(9,_),(8,_),(7,_)] (by simp) q (fun _=>rfl) (fun _=>rfl) rfl) ?_) fun _=>?_
      ·all_goals exact wk
      conv=>whnf
      (refine aI (by (conv=>whnf)<;>exact rfl) ?_;(conv=>whnf))
      refine ⟨⟨by omega,by omega⟩,?_⟩
      conv=>whnf
      refine ⟨by rw [List.length_map]; omega,rfl,?_⟩
      conv=>whnf
      (refine aI (by (conv=>whnf)<;>exact rfl) ?_;(conv=>whnf))
      refine ⟨inr64 (by omega) (by omega),?_⟩
      (try dsimp only[awp]);conv=>whnf
      refine ⟨⟨by omega,by omega⟩,?_⟩
      rw [show (List.map (AV.int .i64) s.refs).set (0 + (g.vars + (k : Int)).toNat) (strip (.int .i64 x)) = (s.refs.set (g.vars.toNat + k) x).map (.int .i64) from by rw [List.map_set,Nat.zero_add,show (g.vars + (k : Int)).toNat = g.vars.toNat + k by omega]; rfl]
      rw [← e]
      (try dsimp only[awp]);conv=>whnf
      have fk1:=(G1 (k + 1) hlt).len
      have ev1 : (G (k + 1)).refs.getD (g.vars.toNat + k) 0 = x:=by rw [e,getD_set_nat (by omega),if_pos rfl]
      rw [show 0 + (g.vars + (k : Int)).toNat = g.vars.toNat + k by omega]
      refine aidxD 0 ⟨by omega,by omega⟩ ?_
      rw [Int.toNat_natCast,ev1]
      (try dsimp only[awp]);conv=>whnf
      refine ⟨rfl,?_⟩
      (try dsimp only[awp]);conv=>whnf
      refine .gen _ _ (frB2 (As:=[.ptr 5 [] 0,.int .i64 x,.int .i64 4096]) [(9,_),(8,_),(7,_)] (by simp) qs (fun _=>rfl) (fun _=>rfl) rfl) fun _=>?_
      (try dsimp only[awp]);conv=>whnf
      refine zA ?_;conv=>whnf
      refine ⟨k + 1,?_,?_,?_⟩
      ·exact hlt
      ·refine ⟨?_,.mk ?_ (by simp [idsOk])⟩
       ·all_goals exact wk
       ·repeat' first|exact rfl|exact trivial|exact wR|exact lR _|apply aI
        all_goals first | exact leM_refl _ | exact encM_bnd _ _ | skip
      ·omega
     have hk : k = g.nodes.length:=by simp at h; omega
     subst hk
     generalize G g.nodes.length = s at *
     (try dsimp only[awp]);conv=>whnf
     refine ⟨⟨by omega,by omega⟩,?_⟩
     (try dsimp only[awp]);conv=>whnf
     rw [Nat.zero_add]
     refine aidxD 0 ⟨by omega,by omega⟩ ?_
     rw [Int.toNat_natCast]
     (try dsimp only[awp]);conv=>whnf
     refine ⟨rfl,?_⟩
     (try dsimp only[awp]);conv=>whnf
     refine .gen _ _ (frB2 (As:=[.ptr 5 [] 0,.int .i64 (s.refs.getD g.top.toNat 0)]) (R':=diaAV o ns x) [(7,_)] (by simp) c (fun _=>rfl) (fun _=>rfl) rfl) fun _=>?_
     (try dsimp only[awp]);conv=>whnf
     refine ⟨⟨_,_,.refl _ _,?_⟩⟩
     conv=>whnf
     refine ⟨?_,rfl,by simp [nextId],.mk ?_ (by simp [idsOk])⟩
     ·all_goals exact wk
     ·all_goals exact wk
 ·rw [c4,lt.2,← nr.val (l0 f.vars.toNat t) (l0_len _ _),hgv]
 ·have : 2 ^ (G g.nodes.length).T.n.toNat ≤ 2 ^ 7:=Nat.pow_le_pow_right (by decide) (by rw [hnG]; omega)
  omega

def numB (k : Int) (n : Nat) : Bool:=if k = 0 then decide (n = 0) else if k = 1 then decide (n = 1) else decide (1 ≤ n ∧ n ≤ 16)
def badA (v : Int) (i : Nat) (a : Int) : Bool:=decide (a < 0 ∨ v + i ≤ a)
def kErr (x : Nd) : Int:=if x.kind = 0 then (if x.k ≠ 0 ∧ x.k ≠ 1 then 3 else 0) else if x.kind = 4 then (if x.k < 1 ∨ (x.args.length : Int) < x.k then 3 else 0) else if x.k ≠ 0 then 2 else 0
def ndErr (v : Int) (i : Nat) (x : Nd) : Int:=if x.kind < 0 ∨ 5 < x.kind then 7 else if numB x.kind x.args.length = false then 11 else if x.args.any (badA v i) = true then 10 else kErr x
def ndsErr (v : Int) : Nat → List Nd → Int
 | _,[]=>0
 | i,x :: l=>if ndErr v i x ≠ 0 then ndErr v i x else ndsErr v (i + 1) l
def foErr (f : Fo) : Int:=if f.vars < 0 ∨ 24 < f.vars then 3 else if 128 < f.nodes.length then 4 else if ndsErr f.vars 0 f.nodes ≠ 0 then ndsErr f.vars 0 f.nodes else if ¬ (0 ≤ f.top ∧ f.top < f.vars + f.nodes.length) then 10 else 0

theorem ndErr_ok {v : Int} {i : Nat} {x : Nd} (h : ndErr v i x = 0) : NdOk v i x:=by
 unfold ndErr at h
 split at h
 ·cases h
 rename_i h1
 split at h
 ·cases h
 rename_i h2
 split at h
 ·cases h
 rename_i h3
 have h2 : numB x.kind x.args.length = true:=by simpa using h2
 have h3 : ∀ a ∈ x.args,0 ≤ a ∧ a < v + i:=fun a ha=>by
  have : badA v i a = false:=by
   cases hb : badA v i a with
   | false=>rfl
   | true=>exact absurd (List.any_eq_true.2 ⟨a,ha,hb⟩) h3
  unfold badA at this
  have:=of_decide_eq_false this
  omega
 refine ⟨by omega,?_,h3,?_⟩
 ·unfold numB at h2
  split
  ·rename_i e; rw [if_pos e] at h2; simpa using h2
  ·rename_i e; rw [if_neg e] at h2
   split
   ·rename_i e; rw [if_pos e] at h2; simpa using h2
   ·rename_i e; rw [if_neg e] at h2; simpa using h2
 ·unfold kErr at h
  split
  ·rename_i e
   rw [if_pos e] at h
   split at h
   ·cases h
   ·omega
  ·rename_i e
   rw [if_neg e] at h
   split
   ·rename_i e
    rw [if_pos e] at h
    split at h
    ·cases h
    ·omega
   ·rename_i e
    rw [if_neg e] at h
    split at h
    ·cases h
    ·omega

theorem ndsErr_ok {v : Int} : ∀ (l : List Nd) (i : Nat),ndsErr v i l = 0 → ∀ (k : Nat) (h : k < l.length),NdOk v (i + k) l[k]
 | [],_,_,k,h=>absurd h (Nat.not_lt_zero _)
 | x :: l,i,he,k,h=>by
   unfold ndsErr at he
   split at he
   ·contradiction
   rename_i e
   have e : ndErr v i x = 0:=by simpa using e
   cases k with
   | zero=>exact ndErr_ok e
   | succ k =>
     have:=ndsErr_ok l (i + 1) he k (by simpa using h)
     rw [show i + 1 + k = i + (k + 1) by omega] at this
     exact this

theorem foErr_ok {f : Fo} (h : foErr f = 0) : FOk f:=by
 unfold foErr at h
 split at h
 ·cases h
 split at h
 ·cases h
 split at h
 ·contradiction
 split at h
 ·cases h
 rename_i h1 h2 h3 h4
 refine ⟨by omega,by omega,fun i hi=>?_,by omega⟩
 have:=ndsErr_ok f.nodes 0 (by simpa using h3) i hi
 rw [Nat.zero_add] at this
 exact this

theorem ndsErr_drop {v : Int} {l : List Nd} {i : Nat} (h : i < l.length) : ndsErr v i (l.drop i) = if ndErr v i l[i] ≠ 0 then ndErr v i l[i] else ndsErr v (i + 1) (l.drop (i + 1)):=by
 rw [List.drop_eq_getElem_cons h]; rfl

theorem c_farg (k : Int) (n : Nat) : FnH Tryz.prog 250 [.int .i64 k,.int .i64 n] [] (.bool (numB k n)) []:=by
 refine FnH.intro lay mixed Tryz.func250 (by kernel_rfl) rfl (by kernel_rfl) rfl fun hok=>?_
 (try dsimp only[argC,succC]);(try dsimp only[awp]);conv=>whnf
 refine And.intro (fun g=>?_) (fun g=>?_)
 ·rw [show numB k n = decide (n = 0) from if_pos g]
  (try dsimp only[awp]);conv=>whnf
  refine fM ?_;(conv=>whnf);refine ⟨?_,rfl⟩;conv=>whnf
  show ((n : Int) = 0) ↔ _
  simp
 rw [show numB k n = if k = 1 then decide (n = 1) else decide (1 ≤ n ∧ n ≤ 16) from if_neg g]
 (try dsimp only[awp]);conv=>whnf
 refine And.intro (fun g=>?_) (fun g=>?_)
 ·rw [if_pos g]
  (try dsimp only[awp]);conv=>whnf
  refine fM ?_;(conv=>whnf);refine ⟨?_,rfl⟩;conv=>whnf
  show ((n : Int) = 1) ↔ _
  simp; omega
 rw [if_neg g]
 (try dsimp only[awp]);conv=>whnf
 refine And.intro (fun g=>?_) (fun g=>?_)
 ·(try dsimp only[awp]);conv=>whnf
  refine fM ?_;(conv=>whnf);refine ⟨?_,rfl⟩;conv=>whnf
  show ((n : Int) ≤ 16) ↔ _
  simp; omega
 ·(try dsimp only[awp]);conv=>whnf
  refine fM ?_;(conv=>whnf);refine ⟨?_,rfl⟩;conv=>whnf
  show decide (1 ≤ n ∧ n ≤ 16) = false
  exact decide_eq_false (by omega)

theorem any_takeB {p : Int → Bool} {l : List Int} {j : Nat} (h : j < l.length) (h1 : (l.take j).any p = false) (h2 : p l[j] = false) : (l.take (j + 1)).any p = false:=by
 rw [List.take_succ_eq_append_getElem h,List.any_append,h1]; simp [h2]

theorem c_fcheckNodeE (f : Fo) (hv : 0 ≤ f.vars ∧ f.vars ≤ 24) (i : Nat) (hi : i < f.nodes.length) (hl : f.nodes.length ≤ 128) (R : AV) (hR : R = errAV (ndErr f.vars i f.nodes[i])) : FnH Tryz.prog 186 [f.av,.int .i64 i] [] R []:=by
 refine FnH.intro lay mixed Tryz.func186 (by kernel_rfl) rfl (by kernel_rfl) rfl fun hok=>?_
 (try dsimp only[argC,succC]);(try dsimp only[awp]);conv=>whnf
 refine aidx hi ?_
 generalize f.nodes[i] = x at *
 have ca:=c_farg x.kind x.args.length
 (try dsimp only[awp]);conv=>whnf
 refine And.intro (fun g=>?_) (fun g=>?_)
 ·have hE : ndErr f.vars i x = 7:=if_pos (.inl g)
  obtain rfl : R = .ifc 111 (.int .i64 7):=by rw [hR]; first | (rw [show ndErr f.vars i x = 7 from hE]; rfl) | rfl
  (try dsimp only[awp]);conv=>whnf
  refine fM ?_;(conv=>whnf);refine ⟨?_,rfl⟩;conv=>whnf
  all_goals exact wk
 (try dsimp only[awp]);conv=>whnf
 refine And.intro (fun g'=>?_) (fun g'=>?_)
 ·have hE : ndErr f.vars i x = 7:=if_pos (.inr g')
  obtain rfl : R = .ifc 111 (.int .i64 7):=by rw [hR]; first | (rw [show ndErr f.vars i x = 7 from hE]; rfl) | rfl
  (try dsimp only[awp]);conv=>whnf
  refine fM ?_;(conv=>whnf);refine ⟨?_,rfl⟩;conv=>whnf
  all_goals exact wk
 have hE1 : ndErr f.vars i x = if numB x.kind x.args.length = false then 11 else if x.args.any (badA f.vars i) = true then 10 else kErr x:=if_neg (by omega)
 (try dsimp only[awp]);conv=>whnf
 rw [show (((x.args.map (AV.int .i64)).length : Nat) : Int) = (x.args.length : Int) by simp]
 refine .pure _ _ ?_ ⟨rfl,rfl⟩ ca fun _=>?_
 ·all_goals exact wk
 (try dsimp only[awp]);conv=>whnf
 refine And.intro (fun g=>?_) (fun g=>?_)
 ·have hE:=hE1.trans (if_pos (by simpa using g))
  obtain rfl : R = .ifc 111 (.int .i64 11):=by rw [hR]; first | (rw [show ndErr f.vars i x = 11 from hE]; rfl) | rfl
  (try dsimp only[awp]);conv=>whnf
  refine fM ?_;(conv=>whnf);refine ⟨?_,rfl⟩;conv=>whnf
  all_goals exact wk
 have hE2:=hE1.trans (if_neg (by simpa using g))
 have hal : x.args.length ≤ 16:=by
  have : numB x.kind x.args.length = true:=by simpa using g
  unfold numB at this
  split at this
  ·have:=of_decide_eq_true this; omega
  ·split at this
   ·have:=of_decide_eq_true this; omega
   ·have:=of_decide_eq_true this; omega
 clear hE1
 (try dsimp only[awp]);conv=>whnf
 refine LoopE.of <| LoopSpec.inv (.refl _ _) (fun (j : Nat)=>j ≤ x.args.length ∧ (x.args.take j).any (badA f.vars i) = false) (fun (j : Nat)=>[(33,.int .i64 j)]) (fun _=>_) (fun (j : Nat)=>x.args.length - j) 0 ?_ (fun _=>rfl) ?_ ?_
 ·exact ⟨Nat.zero_le _,rfl⟩
 ·all_goals exact wk
 rintro j ⟨hj,hany⟩ _
 (try dsimp only[awp]);conv=>whnf
 refine And.intro (fun g1=>?_) (fun g1=>?_)
 ·have hjl : j < x.args.length:=by simpa using g1
  have hat:=any_takeB hjl hany
  have hin:=List.getElem_mem hjl
  (try dsimp only[awp]);conv=>whnf
  refine aidx hjl ?_
  generalize x.args[j] = a at *
  have bad : badA f.vars i a = true → ndErr f.vars i x = 10:=fun hb=>hE2.trans (if_pos (List.any_eq_true.2 ⟨a,hin,hb⟩))
  (try dsimp only[awp]);conv=>whnf
  refine And.intro (fun g=>?_) (fun g=>?_)
  ·have hE:=bad (decide_eq_true (.inl g))
   obtain rfl : R = .ifc 111 (.int .i64 10):=by rw [hR]; first | (rw [show ndErr f.vars i x = 10 from hE]; rfl) | rfl
   (try dsimp only[awp]);conv=>whnf
   refine fM ?_;(conv=>whnf);refine ⟨?_,rfl⟩;conv=>whnf
   all_goals exact wk
  (try dsimp only[awp]);conv=>whnf
  refine zA ?_;conv=>whnf
  refine And.intro (fun g'=>?_) (fun g'=>?_)
  ·have hE:=bad (decide_eq_true (.inr g'))
   obtain rfl : R = .ifc 111 (.int .i64 10):=by rw [hR]; first | (rw [show ndErr f.vars i x = 10 from hE]; rfl) | rfl
   (try dsimp only[awp]);conv=>whnf
   refine fM ?_;(conv=>whnf);refine ⟨?_,rfl⟩;conv=>whnf
   all_goals exact wk
  (try dsimp only[awp]);conv=>whnf
  refine zA ?_;conv=>whnf
  refine ⟨j + 1,?_,?_,?_⟩
  ·exact ⟨hjl,hat (decide_eq_false (by omega))⟩
  ·all_goals exact wk
  ·omega
 have hjl : j = x.args.length:=by (have : ¬ j < x.args.length:=by simpa using g1); omega
 subst hjl
 rw [List.take_length] at hany
 have hK:=hE2.trans (if_neg (by rw [hany]; simp))
 (try dsimp only[awp]);conv=>whnf
 refine And.intro (fun g=>?_) (fun g=>?_)
 ·rw [show kErr x = if x.k ≠ 0 ∧ x.k ≠ 1 then 3 else 0 from if_pos g] at hK
  (try dsimp only[awp]);conv=>whnf
  refine And.intro (fun g=>?_) (fun g=>?_)
  ·(try dsimp only[awp]);conv=>whnf
   refine And.intro (fun g'=>?_) (fun g'=>?_)
   ·have hE:=hK.trans (if_pos ⟨g,g'⟩)
    obtain rfl : R = .ifc 111 (.int .i64 3):=by rw [hR]; first | (rw [show ndErr f.vars i x = 3 from hE]; rfl) | rfl
    (try dsimp only[awp]);conv=>whnf
    refine fM ?_;(conv=>whnf);refine ⟨?_,rfl⟩;conv=>whnf
    all_goals exact wk
   ·have hE:=hK.trans (if_neg (fun h=>g' h.2))
    obtain rfl : R = .nilI:=by rw [hR,show ndErr f.vars i x = 0 from hE]; rfl
    (try dsimp only[awp]);conv=>whnf
    refine fM ?_;(conv=>whnf);refine ⟨?_,rfl⟩;conv=>whnf
    all_goals exact wk
  ·have hE:=hK.trans (if_neg (fun h=>g h.1))
   obtain rfl : R = .nilI:=by rw [hR,show ndErr f.vars i x = 0 from hE]; rfl
   (try dsimp only[awp]);conv=>whnf
   refine fM ?_;(conv=>whnf);refine ⟨?_,rfl⟩;conv=>whnf
   all_goals exact wk
 have gk:=g
 (try dsimp only[awp]);conv=>whnf
 refine And.intro (fun g=>?_) (fun g=>?_)
 ·rw [show kErr x = if x.k < 1 ∨ (x.args.length : Int) < x.k then 3 else 0 from (if_neg gk).trans (if_pos g)] at hK
  (try dsimp only[awp]);conv=>whnf
  refine And.intro (fun g=>?_) (fun g=>?_)
  ·have hE:=hK.trans (if_pos (.inl g))
   obtain rfl : R = .ifc 111 (.int .i64 3):=by rw [hR]; first | (rw [show ndErr f.vars i x = 3 from hE]; rfl) | rfl
   (try dsimp only[awp]);conv=>whnf
   refine fM ?_;(conv=>whnf);refine ⟨?_,rfl⟩;conv=>whnf
   all_goals exact wk
  ·(try dsimp only[awp]);conv=>whnf
   refine And.intro (fun g'=>?_) (fun g'=>?_)
   ·have hE:=hK.trans (if_pos (.inr (by simpa using g')))
    obtain rfl : R = .ifc 111 (.int .i64 3):=by rw [hR]; first | (rw [show ndErr f.vars i x = 3 from hE]; rfl) | rfl
    (try dsimp only[awp]);conv=>whnf
    refine fM ?_;(conv=>whnf);refine ⟨?_,rfl⟩;conv=>whnf
    all_goals exact wk
   ·have hE:=hK.trans (if_neg (fun h=>h.elim g (fun h=>g' (by simpa using h))))
    obtain rfl : R = .nilI:=by rw [hR,show ndErr f.vars i x = 0 from hE]; rfl
    (try dsimp only[awp]);conv=>whnf
    refine fM ?_;(conv=>whnf);refine ⟨?_,rfl⟩;conv=>whnf
    all_goals exact wk
 rw [show kErr x = if x.k ≠ 0 then 2 else 0 from (if_neg gk).trans (if_neg g)] at hK
 (try dsimp only[awp]);conv=>whnf
 refine And.intro (fun g=>?_) (fun g=>?_)
 ·have hE:=hK.trans (if_pos g)
  obtain rfl : R = .ifc 111 (.int .i64 2):=by rw [hR]; first | (rw [show ndErr f.vars i x = 2 from hE]; rfl) | rfl
  (try dsimp only[awp]);conv=>whnf
  refine fM ?_;(conv=>whnf);refine ⟨?_,rfl⟩;conv=>whnf
  all_goals exact wk
 ·have hE:=hK.trans (if_neg g)
  obtain rfl : R = .nilI:=by rw [hR,show ndErr f.vars i x = 0 from hE]; rfl
  (try dsimp only[awp]);conv=>whnf
  refine fM ?_;(conv=>whnf);refine ⟨?_,rfl⟩;conv=>whnf
  all_goals exact wk

theorem c_fValidE (f : Fo) (hv : 0 ≤ f.vars ∧ f.vars ≤ 24) : FnH Tryz.prog 187 [f.av,.int .i64 f.top] [] (.bool (decide (0 ≤ f.top ∧ f.top < f.vars + f.nodes.length))) []:=by
 refine FnH.intro lay mixed Tryz.func187 (by kernel_rfl) rfl (by kernel_rfl) rfl fun hok=>?_
 have hi1 : -9223372036854775808 ≤ f.top ∧ f.top ≤ 9223372036854775807:=hok.1.2.2.1
 (try dsimp only[argC,succC]);(try dsimp only[awp]);conv=>whnf
 refine And.intro (fun _=>?_) (fun g=>by exfalso; omega)
 (try dsimp only[awp]);conv=>whnf
 refine And.intro (fun g0=>?_) (fun g0=>?_)
 ·(try dsimp only[awp]);conv=>whnf
  refine And.intro (fun g=>?_) (fun g=>?_)
  ·(try dsimp only[awp]);conv=>whnf
   refine fM ?_;(conv=>whnf);refine ⟨?_,rfl⟩;conv=>whnf
   exact decide_eq_true (by omega)
  ·(try dsimp only[awp]);conv=>whnf
   refine zA ?_;conv=>whnf
   refine fM ?_;(conv=>whnf);refine ⟨?_,rfl⟩;conv=>whnf
   show (f.top - f.vars < (((f.nodes.map Nd.av).length : Nat) : Int)) ↔ _
   rw [decide_eq_true_iff,List.length_map]
   omega
 ·(try dsimp only[awp]);conv=>whnf
  refine fM ?_;(conv=>whnf);refine ⟨?_,rfl⟩;conv=>whnf
  exact decide_eq_false (by omega)

theorem c_fCheckE (f : Fo) (R : AV) (hR : R = errAV (foErr f)) : FnH Tryz.prog 98 [f.av] [] R []:=by
 refine FnH.intro lay mixed Tryz.func98 (by kernel_rfl) rfl (by kernel_rfl) rfl fun hok=>?_
 (try dsimp only[argC,succC]);(try dsimp only[awp]);conv=>whnf
 refine And.intro (fun g=>?_) (fun g=>?_)
 ·have hE : foErr f = 3:=if_pos (.inl g)
  obtain rfl : R = .ifc 111 (.int .i64 3):=by rw [hR,show foErr f = 3 from hE]; rfl
  (try dsimp only[awp]);conv=>whnf
  refine fM ?_;(conv=>whnf);refine ⟨?_,rfl⟩;conv=>whnf
  all_goals exact wk
 (try dsimp only[awp]);conv=>whnf
 refine And.intro (fun g'=>?_) (fun g'=>?_)
 ·have hE : foErr f = 3:=if_pos (.inr g')
  obtain rfl : R = .ifc 111 (.int .i64 3):=by rw [hR,show foErr f = 3 from hE]; rfl
  (try dsimp only[awp]);conv=>whnf
  refine fM ?_;(conv=>whnf);refine ⟨?_,rfl⟩;conv=>whnf
  all_goals exact wk
 have hE1 : foErr f = if 128 < f.nodes.length then 4 else if ndsErr f.vars 0 f.nodes ≠ 0 then ndsErr f.vars 0 f.nodes else if ¬ (0 ≤ f.top ∧ f.top < f.vars + f.nodes.length) then 10 else 0:=if_neg (by omega)
 (try dsimp only[awp]);conv=>whnf
 rw [List.length_map]
 refine And.intro (fun g2=>?_) (fun g2=>?_)
 ·have hE:=hE1.trans (if_pos (by omega))
  obtain rfl : R = .ifc 111 (.int .i64 4):=by rw [hR,show foErr f = 4 from hE]; rfl
  (try dsimp only[awp]);conv=>whnf
  refine fM ?_;(conv=>whnf);refine ⟨?_,rfl⟩;conv=>whnf
  all_goals exact wk
 have hE2:=hE1.trans (if_neg (by omega))
 clear hE1
 have cv:=c_fValidE f (by omega)
 have cn:=fun i hi=>c_fcheckNodeE f (by omega) i hi (by omega)
 (try dsimp only[awp]);conv=>whnf
 refine LoopE.of <| LoopSpec.inv (.refl _ _) (fun (i : Nat)=>i ≤ f.nodes.length ∧ ndsErr f.vars 0 f.nodes = ndsErr f.vars i (f.nodes.drop i)) (fun (i : Nat)=>[(22,.int .i64 i)]) (fun _=>_) (fun (i : Nat)=>f.nodes.length - i) 0 ?_ (fun _=>rfl) ?_ ?_
 ·exact ⟨Nat.zero_le _,rfl⟩
 ·all_goals exact wk
 rintro i ⟨hi,hnd⟩ _
 (try dsimp only[awp]);conv=>whnf
 refine And.intro (fun g1=>?_) (fun g1=>?_)
 ·have hil : i < f.nodes.length:=by simpa using g1
  have cni:=cn i hil _ rfl
  rw [ndsErr_drop hil] at hnd
  by_cases he : ndErr f.vars i f.nodes[i] ≠ 0
  ·rw [if_pos he] at hnd
   rw [errAV_ne he] at cni
   have hE:=hE2.trans (if_pos (by rw [hnd]; exact he))
   rw [hnd] at hE
   generalize ndErr f.vars i f.nodes[i] = ee at *
   obtain rfl : R = .ifc 111 (.int .i64 ee):=by rw [hR,hE,errAV_ne he]
   (try dsimp only[awp]);conv=>whnf
   refine .pure _ _ ?_ ⟨rfl,rfl⟩ cni fun _=>?_
   ·exact leL_refl _
   (try dsimp only[awp]);conv=>whnf
   refine fM ?_;(conv=>whnf);refine ⟨?_,rfl⟩;conv=>whnf
   all_goals exact wk
  ·rw [if_neg he] at hnd
   have he0 : ndErr f.vars i f.nodes[i] = 0:=by simpa using he
   rw [he0,errAV_zero] at cni
   (try dsimp only[awp]);conv=>whnf
   refine .pure _ _ ?_ ⟨rfl,rfl⟩ cni fun _=>?_
   ·exact leL_refl _
   (try dsimp only[awp]);conv=>whnf
   refine zA ?_;conv=>whnf
   refine ⟨i + 1,?_,?_,?_⟩
   ·exact ⟨hil,hnd⟩
   ·all_goals exact wk
   ·omega
 have hil : i = f.nodes.length:=by (have : ¬ i < f.nodes.length:=by simpa using g1); omega
 subst hil
 rw [List.drop_length] at hnd
 have hE3:=hE2.trans (if_neg (by rw [hnd]; simp [ndsErr]))
 (try dsimp only[awp]);conv=>whnf
 refine .pure _ _ ?_ ⟨rfl,rfl⟩ cv fun _=>?_
 ·exact leL_refl _
 (try dsimp only[awp]);conv=>whnf
 refine And.intro (fun g4=>?_) (fun g4=>?_)
 ·have hE:=hE3.trans (if_pos (fun h=>by rw [decide_eq_true h] at g4; cases g4))
  obtain rfl : R = .ifc 111 (.int .i64 10):=by rw [hR,show foErr f = 10 from hE]; rfl
  (try dsimp only[awp]);conv=>whnf
  refine fM ?_;(conv=>whnf);refine ⟨?_,rfl⟩;conv=>whnf
  all_goals exact wk
 ·have hE:=hE3.trans (if_neg (fun h=>by rw [decide_eq_false h] at g4; cases g4))
  obtain rfl : R = .nilI:=by rw [hR,hE]; rfl
  (try dsimp only[awp]);conv=>whnf
  refine fM ?_;(conv=>whnf);refine ⟨?_,rfl⟩;conv=>whnf
  all_goals exact wk

theorem c_r08node (f : Fo) (hv : 0 ≤ f.vars ∧ f.vars ≤ 24) (i : Nat) (hi : i < f.nodes.length) (hl : f.nodes.length ≤ 128) : FnH Tryz.prog 138 [f.av,.int .i64 i] [] (.int .i64 (ndErr f.vars i f.nodes[i])) []:=by
 refine FnH.intro lay mixed Tryz.func138 (by kernel_rfl) rfl (by kernel_rfl) rfl fun hok=>?_
 have hlen:=OkL_map hok.1.2.1.2 _ (List.getElem_mem hi)
 have hal : (f.nodes[i]).args.length ≤ 9223372036854775807:=by have:=hlen.2.2.1.1; simpa [maxL] using this
 clear hok hlen
 (try dsimp only[argC,succC]);(try dsimp only[awp]);conv=>whnf
 refine aidx hi ?_
 generalize f.nodes[i] = x at *
 have hE1 : 0 ≤ x.kind ∧ x.kind ≤ 5 → ndErr f.vars i x = if numB x.kind x.args.length = false then 11 else if x.args.any (badA f.vars i) = true then 10 else kErr x:=fun h=>if_neg (by omega)
 (try dsimp only[awp]);conv=>whnf
 refine And.intro (fun g0=>?_) (fun g0=>?_)
 ·have hN : numB x.kind x.args.length = false ↔ ((x.args.length : Int) < 0 ∨ 0 < (x.args.length : Int)):=by
   unfold numB; rw [if_pos g0,decide_eq_false_iff_not]; omega
  replace hE1:=hE1 (by omega)
  (try dsimp only[awp]);conv=>whnf
  rw [List.length_map]
  refine And.intro (fun g=>?_) (fun g=>?_)
  ·have hE:=hE1.trans (if_pos (hN.2 (.inl g)))
   rw [show ndErr f.vars i x = 11 from hE]
   (try dsimp only[awp]);conv=>whnf
   refine fM ?_;(conv=>whnf);refine ⟨?_,rfl⟩;conv=>whnf
   all_goals exact wk
  (try dsimp only[awp]);conv=>whnf
  rw [List.length_map]
  refine And.intro (fun g'=>?_) (fun g'=>?_)
  ·have hE:=hE1.trans (if_pos (hN.2 (.inr g')))
   rw [show ndErr f.vars i x = 11 from hE]
   (try dsimp only[awp]);conv=>whnf
   refine fM ?_;(conv=>whnf);refine ⟨?_,rfl⟩;conv=>whnf
   all_goals exact wk
  have hE2:=hE1.trans (if_neg (fun h=>(hN.1 h).elim g g'))
  clear hE1
  (try dsimp only[awp]);conv=>whnf
  refine LoopE.of <| LoopSpec.inv (.refl _ _) (fun (j : Nat)=>j ≤ x.args.length ∧ (x.args.take j).any (badA f.vars i) = false) (fun (j : Nat)=>[(41,.int .i64 j)]) (fun _=>_) (fun (j : Nat)=>x.args.length - j) 0 ?_ (fun _=>rfl) ?_ ?_
  ·exact ⟨Nat.zero_le _,rfl⟩
  ·all_goals exact wk
  rintro j ⟨hj,hany⟩ _
  (try dsimp only[awp]);conv=>whnf
  refine And.intro (fun g1=>?_) (fun g1=>?_)
  ·have hjl : j < x.args.length:=by simpa using g1
   have hat:=any_takeB hjl hany
   have hin:=List.getElem_mem hjl
   (try dsimp only[awp]);conv=>whnf
   refine aidx hjl ?_
   generalize x.args[j] = a at *
   have bad : badA f.vars i a = true → ndErr f.vars i x = 10:=fun hb=>hE2.trans (if_pos (List.any_eq_true.2 ⟨a,hin,hb⟩))
   (try dsimp only[awp]);conv=>whnf
   refine And.intro (fun g=>?_) (fun g=>?_)
   ·have hE:=bad (decide_eq_true (.inl g))
    rw [show ndErr f.vars i x = 10 from hE]
    (try dsimp only[awp]);conv=>whnf
    refine fM ?_;(conv=>whnf);refine ⟨?_,rfl⟩;conv=>whnf
    all_goals exact wk
   (try dsimp only[awp]);conv=>whnf
   refine zA ?_;conv=>whnf
   refine And.intro (fun g'=>?_) (fun g'=>?_)
   ·have hE:=bad (decide_eq_true (.inr g'))
    rw [show ndErr f.vars i x = 10 from hE]
    (try dsimp only[awp]);conv=>whnf
    refine fM ?_;(conv=>whnf);refine ⟨?_,rfl⟩;conv=>whnf
    all_goals exact wk
   (try dsimp only[awp]);conv=>whnf
   refine zA ?_;conv=>whnf
   refine ⟨j + 1,?_,?_,?_⟩
   ·exact ⟨hjl,hat (decide_eq_false (by omega))⟩
   ·all_goals exact wk
   ·omega
  have hjl : j = x.args.length:=by (have : ¬ j < x.args.length:=by simpa using g1); omega
  subst hjl
  rw [List.take_length] at hany
  have hK:=hE2.trans (if_neg (by rw [hany]; simp))
  clear hE2 g g' hN
  (try dsimp only[awp]);conv=>whnf
  refine And.intro (fun g=>?_) (fun g=>?_)
  ·rw [show kErr x = if x.k ≠ 0 ∧ x.k ≠ 1 then 3 else 0 from if_pos g] at hK
   (try dsimp only[awp]);conv=>whnf
   refine And.intro (fun g=>?_) (fun g=>?_)
   ·(try dsimp only[awp]);conv=>whnf
    refine And.intro (fun g'=>?_) (fun g'=>?_)
    ·have hE:=hK.trans (if_pos ⟨g,g'⟩)
     rw [show ndErr f.vars i x = 3 from hE]
     (try dsimp only[awp]);conv=>whnf
     refine fM ?_;(conv=>whnf);refine ⟨?_,rfl⟩;conv=>whnf
     all_goals exact wk
    ·have hE:=hK.trans (if_neg (fun h=>g' h.2))
     rw [show ndErr f.vars i x = 0 from hE]
     (try dsimp only[awp]);conv=>whnf
     refine fM ?_;(conv=>whnf);refine ⟨?_,rfl⟩;conv=>whnf
     all_goals exact wk
   ·have hE:=hK.trans (if_neg (fun h=>g h.1))
    rw [show ndErr f.vars i x = 0 from hE]
    (try dsimp only[awp]);conv=>whnf
    refine fM ?_;(conv=>whnf);refine ⟨?_,rfl⟩;conv=>whnf
    all_goals exact wk
  have gk:=g
  (try dsimp only[awp]);conv=>whnf
  refine And.intro (fun g=>?_) (fun g=>?_)
  ·rw [show kErr x = if x.k < 1 ∨ (x.args.length : Int) < x.k then 3 else 0 from (if_neg gk).trans (if_pos g)] at hK
   (try dsimp only[awp]);conv=>whnf
   refine And.intro (fun g=>?_) (fun g=>?_)
   ·have hE:=hK.trans (if_pos (.inl g))
    rw [show ndErr f.vars i x = 3 from hE]
    (try dsimp only[awp]);conv=>whnf
    refine fM ?_;(conv=>whnf);refine ⟨?_,rfl⟩;conv=>whnf
    all_goals exact wk
   ·(try dsimp only[awp]);conv=>whnf
    refine And.intro (fun g'=>?_) (fun g'=>?_)
    ·have hE:=hK.trans (if_pos (.inr (by simpa using g')))
     rw [show ndErr f.vars i x = 3 from hE]
     (try dsimp only[awp]);conv=>whnf
     refine fM ?_;(conv=>whnf);refine ⟨?_,rfl⟩;conv=>whnf
     all_goals exact wk
    ·have hE:=hK.trans (if_neg (fun h=>h.elim g (fun h=>g' (by simpa using h))))
     rw [show ndErr f.vars i x = 0 from hE]
     (try dsimp only[awp]);conv=>whnf
     refine fM ?_;(conv=>whnf);refine ⟨?_,rfl⟩;conv=>whnf
     all_goals exact wk
  rw [show kErr x = if x.k ≠ 0 then 2 else 0 from (if_neg gk).trans (if_neg g)] at hK
  (try dsimp only[awp]);conv=>whnf
  refine And.intro (fun g=>?_) (fun g=>?_)
  ·have hE:=hK.trans (if_pos g)
   rw [show ndErr f.vars i x = 2 from hE]
   (try dsimp only[awp]);conv=>whnf
   refine fM ?_;(conv=>whnf);refine ⟨?_,rfl⟩;conv=>whnf
   all_goals exact wk
  ·have hE:=hK.trans (if_neg g)
   rw [show ndErr f.vars i x = 0 from hE]
   (try dsimp only[awp]);conv=>whnf
   refine fM ?_;(conv=>whnf);refine ⟨?_,rfl⟩;conv=>whnf
   all_goals exact wk
 (try dsimp only[awp]);conv=>whnf
 refine And.intro (fun g1=>?_) (fun g1=>?_)
 ·have hN : numB x.kind x.args.length = false ↔ ((x.args.length : Int) < 1 ∨ 1 < (x.args.length : Int)):=by
   unfold numB; rw [if_neg g0,if_pos g1,decide_eq_false_iff_not]; omega
  replace hE1:=hE1 (by omega)
  (try dsimp only[awp]);conv=>whnf
  rw [List.length_map]
  refine And.intro (fun g=>?_) (fun g=>?_)
  ·have hE:=hE1.trans (if_pos (hN.2 (.inl g)))
   rw [show ndErr f.vars i x = 11 from hE]
   (try dsimp only[awp]);conv=>whnf
   refine fM ?_;(conv=>whnf);refine ⟨?_,rfl⟩;conv=>whnf
   all_goals exact wk
  (try dsimp only[awp]);conv=>whnf
  rw [List.length_map]
  refine And.intro (fun g'=>?_) (fun g'=>?_)
  ·have hE:=hE1.trans (if_pos (hN.2 (.inr g')))
   rw [show ndErr f.vars i x = 11 from hE]
   (try dsimp only[awp]);conv=>whnf
   refine fM ?_;(conv=>whnf);refine ⟨?_,rfl⟩;conv=>whnf
   all_goals exact wk
  have hE2:=hE1.trans (if_neg (fun h=>(hN.1 h).elim g g'))
  clear hE1
  (try dsimp only[awp]);conv=>whnf
  refine LoopE.of <| LoopSpec.inv (.refl _ _) (fun (j : Nat)=>j ≤ x.args.length ∧ (x.args.take j).any (badA f.vars i) = false) (fun (j : Nat)=>[(41,.int .i64 j)]) (fun _=>_) (fun (j : Nat)=>x.args.length - j) 0 ?_ (fun _=>rfl) ?_ ?_
  ·exact ⟨Nat.zero_le _,rfl⟩
  ·all_goals exact wk
  rintro j ⟨hj,hany⟩ _
  (try dsimp only[awp]);conv=>whnf
  refine And.intro (fun g1=>?_) (fun g1=>?_)
  ·have hjl : j < x.args.length:=by simpa using g1
   have hat:=any_takeB hjl hany
   have hin:=List.getElem_mem hjl
   (try dsimp only[awp]);conv=>whnf
   refine aidx hjl ?_
   generalize x.args[j] = a at *
   have bad : badA f.vars i a = true → ndErr f.vars i x = 10:=fun hb=>hE2.trans (if_pos (List.any_eq_true.2 ⟨a,hin,hb⟩))
   (try dsimp only[awp]);conv=>whnf
   refine And.intro (fun g=>?_) (fun g=>?_)
   ·have hE:=bad (decide_eq_true (.inl g))
    rw [show ndErr f.vars i x = 10 from hE]
    (try dsimp only[awp]);conv=>whnf
    refine fM ?_;(conv=>whnf);refine ⟨?_,rfl⟩;conv=>whnf
    all_goals exact wk
   (try dsimp only[awp]);conv=>whnf
   refine zA ?_;conv=>whnf
   refine And.intro (fun g'=>?_) (fun g'=>?_)
   ·have hE:=bad (decide_eq_true (.inr g'))
    rw [show ndErr f.vars i x = 10 from hE]
    (try dsimp only[awp]);conv=>whnf
    refine fM ?_;(conv=>whnf);refine ⟨?_,rfl⟩;conv=>whnf
    all_goals exact wk
   (try dsimp only[awp]);conv=>whnf
   refine zA ?_;conv=>whnf
   refine ⟨j + 1,?_,?_,?_⟩
   ·exact ⟨hjl,hat (decide_eq_false (by omega))⟩
   ·all_goals exact wk
   ·omega
  have hjl : j = x.args.length:=by (have : ¬ j < x.args.length:=by simpa using g1); omega
  subst hjl
  rw [List.take_length] at hany
  have hK:=hE2.trans (if_neg (by rw [hany]; simp))
  clear hE2 g g' hN
  (try dsimp only[awp]);conv=>whnf
  refine And.intro (fun g=>?_) (fun g=>?_)
  ·rw [show kErr x = if x.k ≠ 0 ∧ x.k ≠ 1 then 3 else 0 from if_pos g] at hK
   (try dsimp only[awp]);conv=>whnf
   refine And.intro (fun g=>?_) (fun g=>?_)
   ·(try dsimp only[awp]);conv=>whnf
    refine And.intro (fun g'=>?_) (fun g'=>?_)
    ·have hE:=hK.trans (if_pos ⟨g,g'⟩)
     rw [show ndErr f.vars i x = 3 from hE]
     (try dsimp only[awp]);conv=>whnf
     refine fM ?_;(conv=>whnf);refine ⟨?_,rfl⟩;conv=>whnf
     all_goals exact wk
    ·have hE:=hK.trans (if_neg (fun h=>g' h.2))
     rw [show ndErr f.vars i x = 0 from hE]
     (try dsimp only[awp]);conv=>whnf
     refine fM ?_;(conv=>whnf);refine ⟨?_,rfl⟩;conv=>whnf
     all_goals exact wk
   ·have hE:=hK.trans (if_neg (fun h=>g h.1))
    rw [show ndErr f.vars i x = 0 from hE]
    (try dsimp only[awp]);conv=>whnf
    refine fM ?_;(conv=>whnf);refine ⟨?_,rfl⟩;conv=>whnf
    all_goals exact wk
  have gk:=g
  (try dsimp only[awp]);conv=>whnf
  refine And.intro (fun g=>?_) (fun g=>?_)
  ·rw [show kErr x = if x.k < 1 ∨ (x.args.length : Int) < x.k then 3 else 0 from (if_neg gk).trans (if_pos g)] at hK
   (try dsimp only[awp]);conv=>whnf
   refine And.intro (fun g=>?_) (fun g=>?_)
   ·have hE:=hK.trans (if_pos (.inl g))
    rw [show ndErr f.vars i x = 3 from hE]
    (try dsimp only[awp]);conv=>whnf
    refine fM ?_;(conv=>whnf);refine ⟨?_,rfl⟩;conv=>whnf
    all_goals exact wk
   ·(try dsimp only[awp]);conv=>whnf
    refine And.intro (fun g'=>?_) (fun g'=>?_)
    ·have hE:=hK.trans (if_pos (.inr (by simpa using g')))
     rw [show ndErr f.vars i x = 3 from hE]
     (try dsimp only[awp]);conv=>whnf
     refine fM ?_;(conv=>whnf);refine ⟨?_,rfl⟩;conv=>whnf
     all_goals exact wk
    ·have hE:=hK.trans (if_neg (fun h=>h.elim g (fun h=>g' (by simpa using h))))
     rw [show ndErr f.vars i x = 0 from hE]
     (try dsimp only[awp]);conv=>whnf
     refine fM ?_;(conv=>whnf);refine ⟨?_,rfl⟩;conv=>whnf
     all_goals exact wk
  rw [show kErr x = if x.k ≠ 0 then 2 else 0 from (if_neg gk).trans (if_neg g)] at hK
  (try dsimp only[awp]);conv=>whnf
  refine And.intro (fun g=>?_) (fun g=>?_)
  ·have hE:=hK.trans (if_pos g)
   rw [show ndErr f.vars i x = 2 from hE]
   (try dsimp only[awp]);conv=>whnf
   refine fM ?_;(conv=>whnf);refine ⟨?_,rfl⟩;conv=>whnf
   all_goals exact wk
  ·have hE:=hK.trans (if_neg g)
   rw [show ndErr f.vars i x = 0 from hE]
   (try dsimp only[awp]);conv=>whnf
   refine fM ?_;(conv=>whnf);refine ⟨?_,rfl⟩;conv=>whnf
   all_goals exact wk
 have hN : numB x.kind x.args.length = false ↔ ((x.args.length : Int) < 1 ∨ 16 < (x.args.length : Int)):=by
  unfold numB; rw [if_neg g0,if_neg g1,decide_eq_false_iff_not]; omega
 (try dsimp only[awp]);conv=>whnf
 refine And.intro (fun g2=>?_) (fun g2=>?_)
 ·replace hE1:=hE1 (by omega)
  (try dsimp only[awp]);conv=>whnf
  refine And.intro (fun _=>?_) (fun h=>absurd g2 h)
  (try dsimp only[awp]);conv=>whnf
  rw [List.length_map]
  refine And.intro (fun g=>?_) (fun g=>?_)
  ·have hE:=hE1.trans (if_pos (hN.2 (.inl g)))
   rw [show ndErr f.vars i x = 11 from hE]
   (try dsimp only[awp]);conv=>whnf
   refine fM ?_;(conv=>whnf);refine ⟨?_,rfl⟩;conv=>whnf
   all_goals exact wk
  (try dsimp only[awp]);conv=>whnf
  rw [List.length_map]
  refine And.intro (fun g'=>?_) (fun g'=>?_)
  ·have hE:=hE1.trans (if_pos (hN.2 (.inr g')))
   rw [show ndErr f.vars i x = 11 from hE]
   (try dsimp only[awp]);conv=>whnf
   refine fM ?_;(conv=>whnf);refine ⟨?_,rfl⟩;conv=>whnf
   all_goals exact wk
  have hE2:=hE1.trans (if_neg (fun h=>(hN.1 h).elim g g'))
  clear hE1
  (try dsimp only[awp]);conv=>whnf
  refine LoopE.of <| LoopSpec.inv (.refl _ _) (fun (j : Nat)=>j ≤ x.args.length ∧ (x.args.take j).any (badA f.vars i) = false) (fun (j : Nat)=>[(41,.int .i64 j)]) (fun _=>_) (fun (j : Nat)=>x.args.length - j) 0 ?_ (fun _=>rfl) ?_ ?_
  ·exact ⟨Nat.zero_le _,rfl⟩
  ·all_goals exact wk
  rintro j ⟨hj,hany⟩ _
  (try dsimp only[awp]);conv=>whnf
  refine And.intro (fun g1=>?_) (fun g1=>?_)
  ·have hjl : j < x.args.length:=by simpa using g1
   have hat:=any_takeB hjl hany
   have hin:=List.getElem_mem hjl
   (try dsimp only[awp]);conv=>whnf
   refine aidx hjl ?_
   generalize x.args[j] = a at *
   have bad : badA f.vars i a = true → ndErr f.vars i x = 10:=fun hb=>hE2.trans (if_pos (List.any_eq_true.2 ⟨a,hin,hb⟩))
   (try dsimp only[awp]);conv=>whnf
   refine And.intro (fun g=>?_) (fun g=>?_)
   ·have hE:=bad (decide_eq_true (.inl g))
    rw [show ndErr f.vars i x = 10 from hE]
    (try dsimp only[awp]);conv=>whnf
    refine fM ?_;(conv=>whnf);refine ⟨?_,rfl⟩;conv=>whnf
    all_goals exact wk
   (try dsimp only[awp]);conv=>whnf
   refine zA ?_;conv=>whnf
   refine And.intro (fun g'=>?_) (fun g'=>?_)
   ·have hE:=bad (decide_eq_true (.inr g'))
    rw [show ndErr f.vars i x = 10 from hE]
    (try dsimp only[awp]);conv=>whnf
    refine fM ?_;(conv=>whnf);refine ⟨?_,rfl⟩;conv=>whnf
    all_goals exact wk
   (try dsimp only[awp]);conv=>whnf
   refine zA ?_;conv=>whnf
   refine ⟨j + 1,?_,?_,?_⟩
   ·exact ⟨hjl,hat (decide_eq_false (by omega))⟩
   ·all_goals exact wk
   ·omega
  have hjl : j = x.args.length:=by (have : ¬ j < x.args.length:=by simpa using g1); omega
  subst hjl
  rw [List.take_length] at hany
  have hK:=hE2.trans (if_neg (by rw [hany]; simp))
  clear hE2 g g' hN
  (try dsimp only[awp]);conv=>whnf
  refine And.intro (fun g=>?_) (fun g=>?_)
  ·rw [show kErr x = if x.k ≠ 0 ∧ x.k ≠ 1 then 3 else 0 from if_pos g] at hK
   (try dsimp only[awp]);conv=>whnf
   refine And.intro (fun g=>?_) (fun g=>?_)
   ·(try dsimp only[awp]);conv=>whnf
    refine And.intro (fun g'=>?_) (fun g'=>?_)
    ·have hE:=hK.trans (if_pos ⟨g,g'⟩)
     rw [show ndErr f.vars i x = 3 from hE]
     (try dsimp only[awp]);conv=>whnf
     refine fM ?_;(conv=>whnf);refine ⟨?_,rfl⟩;conv=>whnf
     all_goals exact wk
    ·have hE:=hK.trans (if_neg (fun h=>g' h.2))
     rw [show ndErr f.vars i x = 0 from hE]
     (try dsimp only[awp]);conv=>whnf
     refine fM ?_;(conv=>whnf);refine ⟨?_,rfl⟩;conv=>whnf
     all_goals exact wk
   ·have hE:=hK.trans (if_neg (fun h=>g h.1))
    rw [show ndErr f.vars i x = 0 from hE]
    (try dsimp only[awp]);conv=>whnf
    refine fM ?_;(conv=>whnf);refine ⟨?_,rfl⟩;conv=>whnf
    all_goals exact wk
  have gk:=g
  (try dsimp only[awp]);conv=>whnf
  refine And.intro (fun g=>?_) (fun g=>?_)
  ·rw [show kErr x = if x.k < 1 ∨ (x.args.length : Int) < x.k then 3 else 0 from (if_neg gk).trans (if_pos g)] at hK
   (try dsimp only[awp]);conv=>whnf
   refine And.intro (fun g=>?_) (fun g=>?_)
   ·have hE:=hK.trans (if_pos (.inl g))
    rw [show ndErr f.vars i x = 3 from hE]
    (try dsimp only[awp]);conv=>whnf
    refine fM ?_;(conv=>whnf);refine ⟨?_,rfl⟩;conv=>whnf
    all_goals exact wk
   ·(try dsimp only[awp]);conv=>whnf
    refine And.intro (fun g'=>?_) (fun g'=>?_)
    ·have hE:=hK.trans (if_pos (.inr (by simpa using g')))
     rw [show ndErr f.vars i x = 3 from hE]
     (try dsimp only[awp]);conv=>whnf
     refine fM ?_;(conv=>whnf);refine ⟨?_,rfl⟩;conv=>whnf
     all_goals exact wk
    ·have hE:=hK.trans (if_neg (fun h=>h.elim g (fun h=>g' (by simpa using h))))
     rw [show ndErr f.vars i x = 0 from hE]
     (try dsimp only[awp]);conv=>whnf
     refine fM ?_;(conv=>whnf);refine ⟨?_,rfl⟩;conv=>whnf
     all_goals exact wk
  rw [show kErr x = if x.k ≠ 0 then 2 else 0 from (if_neg gk).trans (if_neg g)] at hK
  (try dsimp only[awp]);conv=>whnf
  refine And.intro (fun g=>?_) (fun g=>?_)
  ·have hE:=hK.trans (if_pos g)
   rw [show ndErr f.vars i x = 2 from hE]
   (try dsimp only[awp]);conv=>whnf
   refine fM ?_;(conv=>whnf);refine ⟨?_,rfl⟩;conv=>whnf
   all_goals exact wk
  ·have hE:=hK.trans (if_neg g)
   rw [show ndErr f.vars i x = 0 from hE]
   (try dsimp only[awp]);conv=>whnf
   refine fM ?_;(conv=>whnf);refine ⟨?_,rfl⟩;conv=>whnf
   all_goals exact wk
 (try dsimp only[awp]);conv=>whnf
 refine And.intro (fun g3=>?_) (fun g3=>?_)
 ·replace hE1:=hE1 (by omega)
  (try dsimp only[awp]);conv=>whnf
  refine And.intro (fun _=>?_) (fun h=>absurd g3 h)
  (try dsimp only[awp]);conv=>whnf
  rw [List.length_map]
  refine And.intro (fun g=>?_) (fun g=>?_)
  ·have hE:=hE1.trans (if_pos (hN.2 (.inl g)))
   rw [show ndErr f.vars i x = 11 from hE]
   (try dsimp only[awp]);conv=>whnf
   refine fM ?_;(conv=>whnf);refine ⟨?_,rfl⟩;conv=>whnf
   all_goals exact wk
  (try dsimp only[awp]);conv=>whnf
  rw [List.length_map]
  refine And.intro (fun g'=>?_) (fun g'=>?_)
  ·have hE:=hE1.trans (if_pos (hN.2 (.inr g')))
   rw [show ndErr f.vars i x = 11 from hE]
   (try dsimp only[awp]);conv=>whnf
   refine fM ?_;(conv=>whnf);refine ⟨?_,rfl⟩;conv=>whnf
   all_goals exact wk
  have hE2:=hE1.trans (if_neg (fun h=>(hN.1 h).elim g g'))
  clear hE1
  (try dsimp only[awp]);conv=>whnf
  refine LoopE.of <| LoopSpec.inv (.refl _ _) (fun (j : Nat)=>j ≤ x.args.length ∧ (x.args.take j).any (badA f.vars i) = false) (fun (j : Nat)=>[(41,.int .i64 j)]) (fun _=>_) (fun (j : Nat)=>x.args.length - j) 0 ?_ (fun _=>rfl) ?_ ?_
  ·exact ⟨Nat.zero_le _,rfl⟩
  ·all_goals exact wk
  rintro j ⟨hj,hany⟩ _
  (try dsimp only[awp]);conv=>whnf
  refine And.intro (fun g1=>?_) (fun g1=>?_)
  ·have hjl : j < x.args.length:=by simpa using g1
   have hat:=any_takeB hjl hany
   have hin:=List.getElem_mem hjl
   (try dsimp only[awp]);conv=>whnf
   refine aidx hjl ?_
   generalize x.args[j] = a at *
   have bad : badA f.vars i a = true → ndErr f.vars i x = 10:=fun hb=>hE2.trans (if_pos (List.any_eq_true.2 ⟨a,hin,hb⟩))
   (try dsimp only[awp]);conv=>whnf
   refine And.intro (fun g=>?_) (fun g=>?_)
   ·have hE:=bad (decide_eq_true (.inl g))
    rw [show ndErr f.vars i x = 10 from hE]
    (try dsimp only[awp]);conv=>whnf
    refine fM ?_;(conv=>whnf);refine ⟨?_,rfl⟩;conv=>whnf
    all_goals exact wk
   (try dsimp only[awp]);conv=>whnf
   refine zA ?_;conv=>whnf
   refine And.intro (fun g'=>?_) (fun g'=>?_)
   ·have hE:=bad (decide_eq_true (.inr g'))
    rw [show ndErr f.vars i x = 10 from hE]
    (try dsimp only[awp]);conv=>whnf
    refine fM ?_;(conv=>whnf);refine ⟨?_,rfl⟩;conv=>whnf
    all_goals exact wk
   (try dsimp only[awp]);conv=>whnf
   refine zA ?_;conv=>whnf
   refine ⟨j + 1,?_,?_,?_⟩
   ·exact ⟨hjl,hat (decide_eq_false (by omega))⟩
   ·all_goals exact wk
   ·omega
  have hjl : j = x.args.length:=by (have : ¬ j < x.args.length:=by simpa using g1); omega
  subst hjl
  rw [List.take_length] at hany
  have hK:=hE2.trans (if_neg (by rw [hany]; simp))
  clear hE2 g g' hN
  (try dsimp only[awp]);conv=>whnf
  refine And.intro (fun g=>?_) (fun g=>?_)
  ·rw [show kErr x = if x.k ≠ 0 ∧ x.k ≠ 1 then 3 else 0 from if_pos g] at hK
   (try dsimp only[awp]);conv=>whnf
   refine And.intro (fun g=>?_) (fun g=>?_)
   ·(try dsimp only[awp]);conv=>whnf
    refine And.intro (fun g'=>?_) (fun g'=>?_)
    ·have hE:=hK.trans (if_pos ⟨g,g'⟩)
     rw [show ndErr f.vars i x = 3 from hE]
     (try dsimp only[awp]);conv=>whnf
     refine fM ?_;(conv=>whnf);refine ⟨?_,rfl⟩;conv=>whnf
     all_goals exact wk
    ·have hE:=hK.trans (if_neg (fun h=>g' h.2))
     rw [show ndErr f.vars i x = 0 from hE]
     (try dsimp only[awp]);conv=>whnf
     refine fM ?_;(conv=>whnf);refine ⟨?_,rfl⟩;conv=>whnf
     all_goals exact wk
   ·have hE:=hK.trans (if_neg (fun h=>g h.1))
    rw [show ndErr f.vars i x = 0 from hE]
    (try dsimp only[awp]);conv=>whnf
    refine fM ?_;(conv=>whnf);refine ⟨?_,rfl⟩;conv=>whnf
    all_goals exact wk
  have gk:=g
  (try dsimp only[awp]);conv=>whnf
  refine And.intro (fun g=>?_) (fun g=>?_)
  ·rw [show kErr x = if x.k < 1 ∨ (x.args.length : Int) < x.k then 3 else 0 from (if_neg gk).trans (if_pos g)] at hK
   (try dsimp only[awp]);conv=>whnf
   refine And.intro (fun g=>?_) (fun g=>?_)
   ·have hE:=hK.trans (if_pos (.inl g))
    rw [show ndErr f.vars i x = 3 from hE]
    (try dsimp only[awp]);conv=>whnf
    refine fM ?_;(conv=>whnf);refine ⟨?_,rfl⟩;conv=>whnf
    all_goals exact wk
   ·(try dsimp only[awp]);conv=>whnf
    refine And.intro (fun g'=>?_) (fun g'=>?_)
    ·have hE:=hK.trans (if_pos (.inr (by simpa using g')))
     rw [show ndErr f.vars i x = 3 from hE]
     (try dsimp only[awp]);conv=>whnf
     refine fM ?_;(conv=>whnf);refine ⟨?_,rfl⟩;conv=>whnf
     all_goals exact wk
    ·have hE:=hK.trans (if_neg (fun h=>h.elim g (fun h=>g' (by simpa using h))))
     rw [show ndErr f.vars i x = 0 from hE]
     (try dsimp only[awp]);conv=>whnf
     refine fM ?_;(conv=>whnf);refine ⟨?_,rfl⟩;conv=>whnf
     all_goals exact wk
  rw [show kErr x = if x.k ≠ 0 then 2 else 0 from (if_neg gk).trans (if_neg g)] at hK
  (try dsimp only[awp]);conv=>whnf
  refine And.intro (fun g=>?_) (fun g=>?_)
  ·have hE:=hK.trans (if_pos g)
   rw [show ndErr f.vars i x = 2 from hE]
   (try dsimp only[awp]);conv=>whnf
   refine fM ?_;(conv=>whnf);refine ⟨?_,rfl⟩;conv=>whnf
   all_goals exact wk
  ·have hE:=hK.trans (if_neg g)
   rw [show ndErr f.vars i x = 0 from hE]
   (try dsimp only[awp]);conv=>whnf
   refine fM ?_;(conv=>whnf);refine ⟨?_,rfl⟩;conv=>whnf
   all_goals exact wk
 (try dsimp only[awp]);conv=>whnf
 refine And.intro (fun g4=>?_) (fun g4=>?_)
 ·replace hE1:=hE1 (by omega)
  (try dsimp only[awp]);conv=>whnf
  refine And.intro (fun _=>?_) (fun h=>absurd g4 h)
  (try dsimp only[awp]);conv=>whnf
  rw [List.length_map]
  refine And.intro (fun g=>?_) (fun g=>?_)
  ·have hE:=hE1.trans (if_pos (hN.2 (.inl g)))
   rw [show ndErr f.vars i x = 11 from hE]
   (try dsimp only[awp]);conv=>whnf
   refine fM ?_;(conv=>whnf);refine ⟨?_,rfl⟩;conv=>whnf
   all_goals exact wk
  (try dsimp only[awp]);conv=>whnf
  rw [List.length_map]
  refine And.intro (fun g'=>?_) (fun g'=>?_)
  ·have hE:=hE1.trans (if_pos (hN.2 (.inr g')))
   rw [show ndErr f.vars i x = 11 from hE]
   (try dsimp only[awp]);conv=>whnf
   refine fM ?_;(conv=>whnf);refine ⟨?_,rfl⟩;conv=>whnf
   all_goals exact wk
  have hE2:=hE1.trans (if_neg (fun h=>(hN.1 h).elim g g'))
  clear hE1
  (try dsimp only[awp]);conv=>whnf
  refine LoopE.of <| LoopSpec.inv (.refl _ _) (fun (j : Nat)=>j ≤ x.args.length ∧ (x.args.take j).any (badA f.vars i) = false) (fun (j : Nat)=>[(41,.int .i64 j)]) (fun _=>_) (fun (j : Nat)=>x.args.length - j) 0 ?_ (fun _=>rfl) ?_ ?_
  ·exact ⟨Nat.zero_le _,rfl⟩
  ·all_goals exact wk
  rintro j ⟨hj,hany⟩ _
  (try dsimp only[awp]);conv=>whnf
  refine And.intro (fun g1=>?_) (fun g1=>?_)
  ·have hjl : j < x.args.length:=by simpa using g1
   have hat:=any_takeB hjl hany
   have hin:=List.getElem_mem hjl
   (try dsimp only[awp]);conv=>whnf
   refine aidx hjl ?_
   generalize x.args[j] = a at *
   have bad : badA f.vars i a = true → ndErr f.vars i x = 10:=fun hb=>hE2.trans (if_pos (List.any_eq_true.2 ⟨a,hin,hb⟩))
   (try dsimp only[awp]);conv=>whnf
   refine And.intro (fun g=>?_) (fun g=>?_)
   ·have hE:=bad (decide_eq_true (.inl g))
    rw [show ndErr f.vars i x = 10 from hE]
    (try dsimp only[awp]);conv=>whnf
    refine fM ?_;(conv=>whnf);refine ⟨?_,rfl⟩;conv=>whnf
    all_goals exact wk
   (try dsimp only[awp]);conv=>whnf
   refine zA ?_;conv=>whnf
   refine And.intro (fun g'=>?_) (fun g'=>?_)
   ·have hE:=bad (decide_eq_true (.inr g'))
    rw [show ndErr f.vars i x = 10 from hE]
    (try dsimp only[awp]);conv=>whnf
    refine fM ?_;(conv=>whnf);refine ⟨?_,rfl⟩;conv=>whnf
    all_goals exact wk
   (try dsimp only[awp]);conv=>whnf
   refine zA ?_;conv=>whnf
   refine ⟨j + 1,?_,?_,?_⟩
   ·exact ⟨hjl,hat (decide_eq_false (by omega))⟩
   ·all_goals exact wk
   ·omega
  have hjl : j = x.args.length:=by (have : ¬ j < x.args.length:=by simpa using g1); omega
  subst hjl
  rw [List.take_length] at hany
  have hK:=hE2.trans (if_neg (by rw [hany]; simp))
  clear hE2 g g' hN
  (try dsimp only[awp]);conv=>whnf
  refine And.intro (fun g=>?_) (fun g=>?_)
  ·rw [show kErr x = if x.k ≠ 0 ∧ x.k ≠ 1 then 3 else 0 from if_pos g] at hK
   (try dsimp only[awp]);conv=>whnf
   refine And.intro (fun g=>?_) (fun g=>?_)
   ·(try dsimp only[awp]);conv=>whnf
    refine And.intro (fun g'=>?_) (fun g'=>?_)
    ·have hE:=hK.trans (if_pos ⟨g,g'⟩)
     rw [show ndErr f.vars i x = 3 from hE]
     (try dsimp only[awp]);conv=>whnf
     refine fM ?_;(conv=>whnf);refine ⟨?_,rfl⟩;conv=>whnf
     all_goals exact wk
    ·have hE:=hK.trans (if_neg (fun h=>g' h.2))
     rw [show ndErr f.vars i x = 0 from hE]
     (try dsimp only[awp]);conv=>whnf
     refine fM ?_;(conv=>whnf);refine ⟨?_,rfl⟩;conv=>whnf
     all_goals exact wk
   ·have hE:=hK.trans (if_neg (fun h=>g h.1))
    rw [show ndErr f.vars i x = 0 from hE]
    (try dsimp only[awp]);conv=>whnf
    refine fM ?_;(conv=>whnf);refine ⟨?_,rfl⟩;conv=>whnf
    all_goals exact wk
  have gk:=g
  (try dsimp only[awp]);conv=>whnf
  refine And.intro (fun g=>?_) (fun g=>?_)
  ·rw [show kErr x = if x.k < 1 ∨ (x.args.length : Int) < x.k then 3 else 0 from (if_neg gk).trans (if_pos g)] at hK
   (try dsimp only[awp]);conv=>whnf
   refine And.intro (fun g=>?_) (fun g=>?_)
   ·have hE:=hK.trans (if_pos (.inl g))
    rw [show ndErr f.vars i x = 3 from hE]
    (try dsimp only[awp]);conv=>whnf
    refine fM ?_;(conv=>whnf);refine ⟨?_,rfl⟩;conv=>whnf
    all_goals exact wk
   ·(try dsimp only[awp]);conv=>whnf
    refine And.intro (fun g'=>?_) (fun g'=>?_)
    ·have hE:=hK.trans (if_pos (.inr (by simpa using g')))
     rw [show ndErr f.vars i x = 3 from hE]
     (try dsimp only[awp]);conv=>whnf
     refine fM ?_;(conv=>whnf);refine ⟨?_,rfl⟩;conv=>whnf
     all_goals exact wk
    ·have hE:=hK.trans (if_neg (fun h=>h.elim g (fun h=>g' (by simpa using h))))
     rw [show ndErr f.vars i x = 0 from hE]
     (try dsimp only[awp]);conv=>whnf
     refine fM ?_;(conv=>whnf);refine ⟨?_,rfl⟩;conv=>whnf
     all_goals exact wk
  rw [show kErr x = if x.k ≠ 0 then 2 else 0 from (if_neg gk).trans (if_neg g)] at hK
  (try dsimp only[awp]);conv=>whnf
  refine And.intro (fun g=>?_) (fun g=>?_)
  ·have hE:=hK.trans (if_pos g)
   rw [show ndErr f.vars i x = 2 from hE]
   (try dsimp only[awp]);conv=>whnf
   refine fM ?_;(conv=>whnf);refine ⟨?_,rfl⟩;conv=>whnf
   all_goals exact wk
  ·have hE:=hK.trans (if_neg g)
   rw [show ndErr f.vars i x = 0 from hE]
   (try dsimp only[awp]);conv=>whnf
   refine fM ?_;(conv=>whnf);refine ⟨?_,rfl⟩;conv=>whnf
   all_goals exact wk
 (try dsimp only[awp]);conv=>whnf
 refine And.intro (fun g5=>?_) (fun g5=>?_)
 ·replace hE1:=hE1 (by omega)
  (try dsimp only[awp]);conv=>whnf
  rw [List.length_map]
  refine And.intro (fun g=>?_) (fun g=>?_)
  ·have hE:=hE1.trans (if_pos (hN.2 (.inl g)))
   rw [show ndErr f.vars i x = 11 from hE]
   (try dsimp only[awp]);conv=>whnf
   refine fM ?_;(conv=>whnf);refine ⟨?_,rfl⟩;conv=>whnf
   all_goals exact wk
  (try dsimp only[awp]);conv=>whnf
  rw [List.length_map]
  refine And.intro (fun g'=>?_) (fun g'=>?_)
  ·have hE:=hE1.trans (if_pos (hN.2 (.inr g')))
   rw [show ndErr f.vars i x = 11 from hE]
   (try dsimp only[awp]);conv=>whnf
   refine fM ?_;(conv=>whnf);refine ⟨?_,rfl⟩;conv=>whnf
   all_goals exact wk
  have hE2:=hE1.trans (if_neg (fun h=>(hN.1 h).elim g g'))
  clear hE1
  (try dsimp only[awp]);conv=>whnf
  refine LoopE.of <| LoopSpec.inv (.refl _ _) (fun (j : Nat)=>j ≤ x.args.length ∧ (x.args.take j).any (badA f.vars i) = false) (fun (j : Nat)=>[(41,.int .i64 j)]) (fun _=>_) (fun (j : Nat)=>x.args.length - j) 0 ?_ (fun _=>rfl) ?_ ?_
  ·exact ⟨Nat.zero_le _,rfl⟩
  ·all_goals exact wk
  rintro j ⟨hj,hany⟩ _
  (try dsimp only[awp]);conv=>whnf
  refine And.intro (fun g1=>?_) (fun g1=>?_)
  ·have hjl : j < x.args.length:=by simpa using g1
   have hat:=any_takeB hjl hany
   have hin:=List.getElem_mem hjl
   (try dsimp only[awp]);conv=>whnf
   refine aidx hjl ?_
   generalize x.args[j] = a at *
   have bad : badA f.vars i a = true → ndErr f.vars i x = 10:=fun hb=>hE2.trans (if_pos (List.any_eq_true.2 ⟨a,hin,hb⟩))
   (try dsimp only[awp]);conv=>whnf
   refine And.intro (fun g=>?_) (fun g=>?_)
   ·have hE:=bad (decide_eq_true (.inl g))
    rw [show ndErr f.vars i x = 10 from hE]
    (try dsimp only[awp]);conv=>whnf
    refine fM ?_;(conv=>whnf);refine ⟨?_,rfl⟩;conv=>whnf
    all_goals exact wk
   (try dsimp only[awp]);conv=>whnf
   refine zA ?_;conv=>whnf
   refine And.intro (fun g'=>?_) (fun g'=>?_)
   ·have hE:=bad (decide_eq_true (.inr g'))
    rw [show ndErr f.vars i x = 10 from hE]
    (try dsimp only[awp]);conv=>whnf
    refine fM ?_;(conv=>whnf);refine ⟨?_,rfl⟩;conv=>whnf
    all_goals exact wk
   (try dsimp only[awp]);conv=>whnf
   refine zA ?_;conv=>whnf
   refine ⟨j + 1,?_,?_,?_⟩
   ·exact ⟨hjl,hat (decide_eq_false (by omega))⟩
   ·all_goals exact wk
   ·omega
  have hjl : j = x.args.length:=by (have : ¬ j < x.args.length:=by simpa using g1); omega
  subst hjl
  rw [List.take_length] at hany
  have hK:=hE2.trans (if_neg (by rw [hany]; simp))
  clear hE2 g g' hN
  (try dsimp only[awp]);conv=>whnf
  refine And.intro (fun g=>?_) (fun g=>?_)
  ·rw [show kErr x = if x.k ≠ 0 ∧ x.k ≠ 1 then 3 else 0 from if_pos g] at hK
   (try dsimp only[awp]);conv=>whnf
   refine And.intro (fun g=>?_) (fun g=>?_)
   ·(try dsimp only[awp]);conv=>whnf
    refine And.intro (fun g'=>?_) (fun g'=>?_)
    ·have hE:=hK.trans (if_pos ⟨g,g'⟩)
     rw [show ndErr f.vars i x = 3 from hE]
     (try dsimp only[awp]);conv=>whnf
     refine fM ?_;(conv=>whnf);refine ⟨?_,rfl⟩;conv=>whnf
     all_goals exact wk
    ·have hE:=hK.trans (if_neg (fun h=>g' h.2))
     rw [show ndErr f.vars i x = 0 from hE]
     (try dsimp only[awp]);conv=>whnf
     refine fM ?_;(conv=>whnf);refine ⟨?_,rfl⟩;conv=>whnf
     all_goals exact wk
   ·have hE:=hK.trans (if_neg (fun h=>g h.1))
    rw [show ndErr f.vars i x = 0 from hE]
    (try dsimp only[awp]);conv=>whnf
    refine fM ?_;(conv=>whnf);refine ⟨?_,rfl⟩;conv=>whnf
    all_goals exact wk
  have gk:=g
  (try dsimp only[awp]);conv=>whnf
  refine And.intro (fun g=>?_) (fun g=>?_)
  ·rw [show kErr x = if x.k < 1 ∨ (x.args.length : Int) < x.k then 3 else 0 from (if_neg gk).trans (if_pos g)] at hK
   (try dsimp only[awp]);conv=>whnf
   refine And.intro (fun g=>?_) (fun g=>?_)
   ·have hE:=hK.trans (if_pos (.inl g))
    rw [show ndErr f.vars i x = 3 from hE]
    (try dsimp only[awp]);conv=>whnf
    refine fM ?_;(conv=>whnf);refine ⟨?_,rfl⟩;conv=>whnf
    all_goals exact wk
   ·(try dsimp only[awp]);conv=>whnf
    refine And.intro (fun g'=>?_) (fun g'=>?_)
    ·have hE:=hK.trans (if_pos (.inr (by simpa using g')))
     rw [show ndErr f.vars i x = 3 from hE]
     (try dsimp only[awp]);conv=>whnf
     refine fM ?_;(conv=>whnf);refine ⟨?_,rfl⟩;conv=>whnf
     all_goals exact wk
    ·have hE:=hK.trans (if_neg (fun h=>h.elim g (fun h=>g' (by simpa using h))))
     rw [show ndErr f.vars i x = 0 from hE]
     (try dsimp only[awp]);conv=>whnf
     refine fM ?_;(conv=>whnf);refine ⟨?_,rfl⟩;conv=>whnf
     all_goals exact wk
  rw [show kErr x = if x.k ≠ 0 then 2 else 0 from (if_neg gk).trans (if_neg g)] at hK
  (try dsimp only[awp]);conv=>whnf
  refine And.intro (fun g=>?_) (fun g=>?_)
  ·have hE:=hK.trans (if_pos g)
   rw [show ndErr f.vars i x = 2 from hE]
   (try dsimp only[awp]);conv=>whnf
   refine fM ?_;(conv=>whnf);refine ⟨?_,rfl⟩;conv=>whnf
   all_goals exact wk
  ·have hE:=hK.trans (if_neg g)
   rw [show ndErr f.vars i x = 0 from hE]
   (try dsimp only[awp]);conv=>whnf
   refine fM ?_;(conv=>whnf);refine ⟨?_,rfl⟩;conv=>whnf
   all_goals exact wk
 ·have hE : ndErr f.vars i x = 7:=if_pos (by omega)
  rw [show ndErr f.vars i x = 7 from hE]
  (try dsimp only[awp]);conv=>whnf
  refine fM ?_;(conv=>whnf);refine ⟨?_,rfl⟩;conv=>whnf
  all_goals exact wk

theorem c_r08Valid (f : Fo) (hv : 0 ≤ f.vars ∧ f.vars ≤ 24) : FnH Tryz.prog 139 [f.av,.int .i64 f.top] [] (.bool (decide (0 ≤ f.top ∧ f.top < f.vars + f.nodes.length))) []:=by
 refine FnH.intro lay mixed Tryz.func139 (by kernel_rfl) rfl (by kernel_rfl) rfl fun hok=>?_
 have hi1 : -9223372036854775808 ≤ f.top ∧ f.top ≤ 9223372036854775807:=hok.1.2.2.1
 (try dsimp only[argC,succC]);(try dsimp only[awp]);conv=>whnf
 refine And.intro (fun _=>?_) (fun g=>by exfalso; omega)
 (try dsimp only[awp]);conv=>whnf
 refine And.intro (fun g0=>?_) (fun g0=>?_)
 ·(try dsimp only[awp]);conv=>whnf
  refine And.intro (fun g=>?_) (fun g=>?_)
  ·(try dsimp only[awp]);conv=>whnf
   refine fM ?_;(conv=>whnf);refine ⟨?_,rfl⟩;conv=>whnf
   exact decide_eq_true (by omega)
  ·(try dsimp only[awp]);conv=>whnf
   refine zA ?_;conv=>whnf
   refine fM ?_;(conv=>whnf);refine ⟨?_,rfl⟩;conv=>whnf
   show (f.top - f.vars < (((f.nodes.map Nd.av).length : Nat) : Int)) ↔ _
   rw [decide_eq_true_iff,List.length_map]
   omega
 ·(try dsimp only[awp]);conv=>whnf
  refine fM ?_;(conv=>whnf);refine ⟨?_,rfl⟩;conv=>whnf
  exact decide_eq_false (by omega)

theorem c_r08Check (f : Fo) : FnH Tryz.prog 58 [f.av] [] (.int .i64 (foErr f)) []:=by
 refine FnH.intro lay mixed Tryz.func58 (by kernel_rfl) rfl (by kernel_rfl) rfl fun hok=>?_
 (try dsimp only[argC,succC]);(try dsimp only[awp]);conv=>whnf
 refine And.intro (fun g=>?_) (fun g=>?_)
 ·have hE : foErr f = 3:=if_pos (.inl g)
  rw [show foErr f = 3 from hE]
  (try dsimp only[awp]);conv=>whnf
  refine fM ?_;(conv=>whnf);refine ⟨?_,rfl⟩;conv=>whnf
  all_goals exact wk
 (try dsimp only[awp]);conv=>whnf
 refine And.intro (fun g'=>?_) (fun g'=>?_)
 ·have hE : foErr f = 3:=if_pos (.inr g')
  rw [show foErr f = 3 from hE]
  (try dsimp only[awp]);conv=>whnf
  refine fM ?_;(conv=>whnf);refine ⟨?_,rfl⟩;conv=>whnf
  all_goals exact wk
 have hE1 : foErr f = if 128 < f.nodes.length then 4 else if ndsErr f.vars 0 f.nodes ≠ 0 then ndsErr f.vars 0 f.nodes else if ¬ (0 ≤ f.top ∧ f.top < f.vars + f.nodes.length) then 10 else 0:=if_neg (by omega)
 (try dsimp only[awp]);conv=>whnf
 rw [List.length_map]
 refine And.intro (fun g2=>?_) (fun g2=>?_)
 ·have hE:=hE1.trans (if_pos (by omega))
  rw [show foErr f = 4 from hE]
  (try dsimp only[awp]);conv=>whnf
  refine fM ?_;(conv=>whnf);refine ⟨?_,rfl⟩;conv=>whnf
  all_goals exact wk
 have hE2:=hE1.trans (if_neg (by omega))
 clear hE1
 have cv:=c_r08Valid f (by omega)
 have cn:=fun i hi=>c_r08node f (by omega) i hi (by omega)
 (try dsimp only[awp]);conv=>whnf
 refine LoopE.of <| LoopSpec.inv (.refl _ _) (fun (i : Nat)=>i ≤ f.nodes.length ∧ ndsErr f.vars 0 f.nodes = ndsErr f.vars i (f.nodes.drop i)) (fun (i : Nat)=>[(20,.int .i64 i)]) (fun _=>_) (fun (i : Nat)=>f.nodes.length - i) 0 ?_ (fun _=>rfl) ?_ ?_
 ·exact ⟨Nat.zero_le _,rfl⟩
 ·all_goals exact wk
 rintro i ⟨hi,hnd⟩ _
 (try dsimp only[awp]);conv=>whnf
 refine And.intro (fun g1=>?_) (fun g1=>?_)
 ·have hil : i < f.nodes.length:=by simpa using g1
  have cni:=cn i hil
  rw [ndsErr_drop hil] at hnd
  by_cases he : ndErr f.vars i f.nodes[i] ≠ 0
  ·rw [if_pos he] at hnd
   have hE:=hE2.trans (if_pos (by rw [hnd]; exact he))
   rw [hnd] at hE
   rw [hE]
   generalize ndErr f.vars i f.nodes[i] = ee at *
   (try dsimp only[awp]);conv=>whnf
   refine .pure _ _ ?_ ⟨rfl,rfl⟩ cni fun _=>?_
   ·exact leL_refl _
   (try dsimp only[awp]);conv=>whnf
   refine And.intro (fun _=>?_) (fun h=>absurd he h)
   (try dsimp only[awp]);conv=>whnf
   refine fM ?_;(conv=>whnf);refine ⟨?_,rfl⟩;conv=>whnf
   all_goals exact wk
  ·rw [if_neg he] at hnd
   have he0 : ndErr f.vars i f.nodes[i] = 0:=by simpa using he
   rw [he0] at cni
   (try dsimp only[awp]);conv=>whnf
   refine .pure _ _ ?_ ⟨rfl,rfl⟩ cni fun _=>?_
   ·exact leL_refl _
   (try dsimp only[awp]);conv=>whnf
   refine And.intro (fun h=>absurd rfl h) (fun _=>?_)
   (try dsimp only[awp]);conv=>whnf
   refine zA ?_;conv=>whnf
   refine ⟨i + 1,?_,?_,?_⟩
   ·exact ⟨hil,hnd⟩
   ·all_goals exact wk
   ·omega
 have hil : i = f.nodes.length:=by (have : ¬ i < f.nodes.length:=by simpa using g1); omega
 subst hil
 rw [List.drop_length] at hnd
 have hE3:=hE2.trans (if_neg (by rw [hnd]; simp [ndsErr]))
 (try dsimp only[awp]);conv=>whnf
 refine .pure _ _ ?_ ⟨rfl,rfl⟩ cv fun _=>?_
 ·exact leL_refl _
 (try dsimp only[awp]);conv=>whnf
 refine And.intro (fun g4=>?_) (fun g4=>?_)
 ·have hE:=hE3.trans (if_pos (fun h=>by rw [decide_eq_true h] at g4; cases g4))
  rw [show foErr f = 10 from hE]
  (try dsimp only[awp]);conv=>whnf
  refine fM ?_;(conv=>whnf);refine ⟨?_,rfl⟩;conv=>whnf
  all_goals exact wk
 ·have hE:=hE3.trans (if_neg (fun h=>by rw [decide_eq_false h] at g4; cases g4))
  rw [show foErr f = 0 from hE]
  (try dsimp only[awp]);conv=>whnf
  refine fM ?_;(conv=>whnf);refine ⟨?_,rfl⟩;conv=>whnf
  all_goals exact wk

def cmpErr (a b : Fo) : Int:=if foErr a ≠ 0 then foErr a else if foErr b ≠ 0 then foErr b else if a.vars ≠ b.vars then 11 else 0

theorem cmpErr_ok {a b : Fo} (h : cmpErr a b = 0) : FOk a ∧ FOk b ∧ a.vars = b.vars:=by
 unfold cmpErr at h
 split at h
 ·contradiction
 split at h
 ·contradiction
 split at h
 ·cases h
 rename_i h1 h2 h3
 exact ⟨foErr_ok (by simpa using h1),foErr_ok (by simpa using h2),by simpa using h3⟩

theorem c_cmpcheck (a b : Fo) (R : AV) (hR : R = errAV (cmpErr a b)) : FnH Tryz.prog 48 [a.av,b.av] [] R []:=by
 have ca:=c_fCheckE a _ rfl
 have cb:=c_fCheckE b _ rfl
 refine FnH.intro lay mixed Tryz.func48 (by kernel_rfl) rfl (by kernel_rfl) rfl fun hok=>?_
 (try dsimp only[argC,succC]);(try dsimp only[awp]);conv=>whnf
 refine LoopE.step 2 ?_
 (try dsimp only[awp]);conv=>whnf
 refine And.intro (fun _=>?_) (fun h=>absurd (by simp) h)
 (try dsimp only[awp]);conv=>whnf
 refine AIdx.mk ⟨_,⟨by decide,rfl⟩,?_⟩
 (try dsimp only[awp]);conv=>whnf
 by_cases ha : foErr a ≠ 0
 ·rw [errAV_ne ha] at ca
  rw [show cmpErr a b = foErr a from if_pos ha,errAV_ne ha] at hR
  subst hR
  refine .pure _ _ ?_ ⟨rfl,rfl⟩ ca fun _=>?_
  ·exact leL_refl _
  (try dsimp only[awp]);conv=>whnf
  refine fM ?_;(conv=>whnf);refine ⟨?_,rfl⟩;conv=>whnf
  all_goals exact wk
 rw [show foErr a = 0 by simpa using ha,errAV_zero] at ca
 rw [show cmpErr a b = if foErr b ≠ 0 then foErr b else if a.vars ≠ b.vars then 11 else 0 from if_neg ha] at hR
 refine .pure _ _ ?_ ⟨rfl,rfl⟩ ca fun _=>?_
 ·exact leL_refl _
 (try dsimp only[awp]);conv=>whnf
 refine zA ?_;conv=>whnf
 refine And.intro (fun _=>?_) (fun h=>absurd (by simp) h)
 (try dsimp only[awp]);conv=>whnf
 refine AIdx.mk ⟨_,⟨by decide,rfl⟩,?_⟩
 (try dsimp only[awp]);conv=>whnf
 by_cases hb : foErr b ≠ 0
 ·rw [errAV_ne hb] at cb
  rw [if_pos hb,errAV_ne hb] at hR
  subst hR
  refine .pure _ _ ?_ ⟨rfl,rfl⟩ cb fun _=>?_
  ·exact leL_refl _
  (try dsimp only[awp]);conv=>whnf
  refine fM ?_;(conv=>whnf);refine ⟨?_,rfl⟩;conv=>whnf
  all_goals exact wk
 rw [show foErr b = 0 by simpa using hb,errAV_zero] at cb
 rw [if_neg hb] at hR
 refine .pure _ _ ?_ ⟨rfl,rfl⟩ cb fun _=>?_
 ·exact leL_refl _
 (try dsimp only[awp]);conv=>whnf
 refine zA ?_;conv=>whnf
 refine And.intro (fun h=>absurd h (by simp)) (fun _=>?_)
 (try dsimp only[awp]);conv=>whnf
 refine And.intro (fun g=>?_) (fun g=>?_)
 ·rw [if_pos g] at hR
  obtain rfl : R = .ifc 111 (.int .i64 11):=by rw [hR]; rfl
  (try dsimp only[awp]);conv=>whnf
  refine fM ?_;(conv=>whnf);refine ⟨?_,rfl⟩;conv=>whnf
  all_goals exact wk
 ·rw [if_neg g] at hR
  obtain rfl : R = .nilI:=by rw [hR]; rfl
  (try dsimp only[awp]);conv=>whnf
  refine fM ?_;(conv=>whnf);refine ⟨?_,rfl⟩;conv=>whnf
  all_goals exact wk

theorem c_r59Check (a b : Fo) : FnH Tryz.prog 15 [a.av,b.av] [] (.int .i64 (cmpErr a b)) []:=by
 have ca:=c_r08Check a
 have cb:=c_r08Check b
 refine FnH.intro lay mixed Tryz.func15 (by kernel_rfl) rfl (by kernel_rfl) rfl fun hok=>?_
 (try dsimp only[argC,succC]);(try dsimp only[awp]);conv=>whnf
 refine .pure _ _ ?_ ⟨rfl,rfl⟩ ca fun _=>?_
 ·exact leL_refl _
 (try dsimp only[awp]);conv=>whnf
 refine And.intro (fun ha=>?_) (fun ha=>?_)
 ·rw [show cmpErr a b = foErr a from if_pos ha]
  (try dsimp only[awp]);conv=>whnf
  refine fM ?_;(conv=>whnf);refine ⟨?_,rfl⟩;conv=>whnf
  all_goals exact wk
 rw [show cmpErr a b = if foErr b ≠ 0 then foErr b else if a.vars ≠ b.vars then 11 else 0 from if_neg ha]
 (try dsimp only[awp]);conv=>whnf
 refine .pure _ _ ?_ ⟨rfl,rfl⟩ cb fun _=>?_
 ·exact leL_refl _
 (try dsimp only[awp]);conv=>whnf
 refine And.intro (fun hb=>?_) (fun hb=>?_)
 ·rw [if_pos hb]
  (try dsimp only[awp]);conv=>whnf
  refine fM ?_;(conv=>whnf);refine ⟨?_,rfl⟩;conv=>whnf
  all_goals exact wk
 rw [if_neg hb]
 (try dsimp only[awp]);conv=>whnf
 refine And.intro (fun g=>?_) (fun g=>?_)
 ·rw [if_pos g]
  (try dsimp only[awp]);conv=>whnf
  refine fM ?_;(conv=>whnf);refine ⟨?_,rfl⟩;conv=>whnf
  all_goals exact wk
 ·rw [if_neg g]
  (try dsimp only[awp]);conv=>whnf
  refine fM ?_;(conv=>whnf);refine ⟨?_,rfl⟩;conv=>whnf
  all_goals exact wk

structure Df where
 eq : Bool
 st : Nat
 cnt : Nat
 ga : Nat
 lo : Nat
 deriving DecidableEq

def Df.av (d : Df) : AV:=.ag [.bool d.eq,.int .i64 d.st,.int .i64 d.cnt,.int .i64 d.ga,.int .i64 d.lo]

def dfK (va vb : Nat → Bool) : Nat → Df
 | 0=>⟨true,0,0,0,0⟩
 | s + 1=>if va s = vb s then dfK va vb s else ⟨false,if (dfK va vb s).eq = true then s else (dfK va vb s).st,(dfK va vb s).cnt + 1,if vb s = true then (dfK va vb s).ga + 1 else (dfK va vb s).ga,if vb s = true then (dfK va vb s).lo else (dfK va vb s).lo + 1⟩

def faV (f : Fo) (m : Nat) : Bool:=(valsS (l0 f.vars.toNat (bitsE m)) f.nodes).getD f.top.toNat false
def cmpD (a b : Fo) : Df:=dfK (faV a) (faV b) (2 ^ a.vars.toNat)

theorem dfK_spec (va vb : Nat → Bool) : ∀ n,((dfK va vb n).eq = true ↔ ∀ m < n,va m = vb m) ∧ ((dfK va vb n).eq = true → (dfK va vb n).st = 0) ∧
  ((dfK va vb n).eq = false → (dfK va vb n).st < n ∧ va (dfK va vb n).st ≠ vb (dfK va vb n).st ∧ ∀ m < n,va m ≠ vb m → (dfK va vb n).st ≤ m) ∧
  (dfK va vb n).cnt = (List.range n).countP (fun m=>va m ^^ vb m) ∧ (dfK va vb n).ga = (List.range n).countP (fun m=>(va m ^^ vb m) && vb m) ∧ (dfK va vb n).lo = (List.range n).countP (fun m=>(va m ^^ vb m) && va m)
 | 0=>by simp [dfK]
 | n + 1=>by
   obtain ⟨h1,h2,h3,h4,h5,h6⟩:=dfK_spec va vb n
   unfold dfK
   generalize dfK va vb n = d at *
   rw [List.range_succ,List.countP_append,List.countP_append,List.countP_append]
   split
   ·rename_i e
    refine ⟨h1.trans ⟨fun h m hm=>?_,fun h m hm=>h m (by omega)⟩,h2,fun h=>?_,?_,?_,?_⟩
    ·by_cases hmn : m = n
     ·rw [hmn]; exact e
     ·exact h m (by omega)
    ·obtain ⟨q1,q2,q3⟩:=h3 h
     refine ⟨by omega,q2,fun m hm hne=>?_⟩
     by_cases hmn : m = n
     ·rw [hmn] at hne; exact absurd e hne
     ·exact q3 m (by omega) hne
    ·rw [h4]; simp [e]
    ·rw [h5]; simp [e]
    ·rw [h6]; simp [e]
   ·rename_i e
    have hx : (va n ^^ vb n) = true:=by cases hv : va n <;> cases hw : vb n <;> simp_all
    refine ⟨⟨fun h=>(by cases h),fun h=>absurd (h n (by omega)) e⟩,fun h=>(by cases h),fun _=>?_,?_,?_,?_⟩
    ·dsimp only
     split
     ·rename_i hd
      refine ⟨by omega,e,fun m hm hne=>?_⟩
      by_cases hmn : m = n
      ·omega
      ·exact absurd (h1.1 hd m (by omega)) hne
     ·rename_i hd
      obtain ⟨q1,q2,q3⟩:=h3 (by simpa using hd)
      refine ⟨by omega,q2,fun m hm hne=>?_⟩
      by_cases hmn : m = n
      ·omega
      ·exact q3 m (by omega) hne
    ·dsimp only
     rw [h4]; simp [hx]
    ·dsimp only
     rw [h5]
     cases hv : vb n <;> cases hw : va n <;> simp_all
    ·dsimp only
     rw [h6]
     cases hv : va n <;> cases hw : vb n <;> simp_all

theorem GoodD.to {T T' : Tb} (h : Xt T T') {ns : List Node} {k : Nat} {x : Node} (g : GoodD T ns k x) : GoodD T' ns k x:=by
 have e : ∀ r,lvlG T' ns r = lvlG T ns r:=fun r=>by unfold lvlG; rw [h.n,h.pl]
 obtain ⟨a,b,c,d,f⟩:=g
 rw [← h.n] at a
 rw [← h.pl,← e] at d f
 exact ⟨a,b,c,d,f⟩

theorem countP_same {α : Type} {p q : α → Bool} : ∀ {l : List α},(∀ x ∈ l,p x = q x) → l.countP p = l.countP q
 | [],_=>rfl
 | x :: l,h=>by
   rw [List.countP_cons,List.countP_cons,countP_same fun y hy=>h y (by simp [hy]),h x (by simp)]

theorem cnt_bits {T : Tb} (hT : GoodT T) {r : Int} (hr : T.Rf r) : T.cnt r = (List.range (2 ^ T.n.toNat)).countP fun m=>ev T.nodes (bitsE m) r:=by
 unfold Tb.cnt
 rw [cntR_range]
 refine countP_same fun m _=>?_
 refine ev_indep hT r.toNat r hr (by have:=hr.1; omega) _ _ fun j h0 h1 _=>?_
 rw [if_pos ⟨h0,by omega⟩]
 rfl

theorem c_tNew3 {o : List Int} {n : Nat} (h : PermO o n) (hn : n ≤ 60) (o2 o1 o0 : HO) : FnH Tryz.prog 50 [iL o] [(2,o2),(1,o1),(0,o0)] (.ptr 6 [] 0) (tb3 (Tb.new o) [(2,o2),(1,o1),(0,o0)]):=by
 have c:=c_tNew h hn
 have:=FnH.frame (H:=[(2,o2),(1,o1),(0,o0)]) (args:=[iL o]) [] c ⟨rfl,rfl,rfl,rfl⟩ trivial (leL_refl _)
 have e : frH [] (hpN o) [(2,o2),(1,o1),(0,o0)] = tb3 (Tb.new o) [(2,o2),(1,o1),(0,o0)]:=by
  show (7,HO.tok 3 0) :: (6,HO.box (.ag [.sl 1 (o.map (.int .i64)) .no,.ms 3 0 o.length o.length 1,.sl 3 [] (.own 7),.mp 4,.mp 5])) :: (5,HO.amap shN []) :: (4,HO.amap shN []) :: (3,.arr 1 o.length ((plcF o o.length).map (.int .i64))) :: _ =
   (7,HO.tok 3 0) :: (6,HO.box (.ag [.sl 1 (o.map (.int .i64)) .no,.ms 3 0 (plcF o o.length).length (plcF o o.length).length 1,.sl 3 [] (.own 7),.mp 4,.mp 5])) :: (5,HO.amap shN []) :: (4,HO.amap shN []) :: (3,.arr 1 (plcF o o.length).length ((plcF o o.length).map (.int .i64))) :: _
  rw [plcF_len]; rfl
 rw [e] at this
 exact this

theorem dfK_same {va vb : Nat → Bool} : ∀ {n : Nat},(∀ m < n,va m = vb m) → dfK va vb n = ⟨true,0,0,0,0⟩
 | 0,_=>rfl
 | n + 1,h=>by
   unfold dfK
   rw [if_pos (h n (by omega))]
   exact dfK_same fun m hm=>h m (by omega)

theorem df_ext {d : Df} {e : Bool} {s c g l : Nat} (h1 : d.eq = e) (h2 : d.st = s) (h3 : d.cnt = c) (h4 : d.ga = g) (h5 : d.lo = l) : d = ⟨e,s,c,g,l⟩:=by
 obtain ⟨_,_,_,_,_⟩:=d
 dsimp only at *
 subst h1 h2 h3 h4 h5
 rfl

abbrev zDf : AV:=.ag [.ff,.int .i64 0,.int .i64 0,.int .i64 0,.int .i64 0]

theorem c_Compare (a b : Fo) (h0 : cmpErr a b = 0) (h7 : a.vars ≤ 7) : FnH Tryz.prog 14 [a.av,b.av] [] (.tup [(cmpD a b).av,.nilI]) []:=by
 obtain ⟨ha,hb,hab⟩:=cmpErr_ok h0
 have cc:=c_cmpcheck a b _ rfl
 rw [h0,errAV_zero] at cc
 have hav:=ha.vars
 have hp:=depO_perm a ha
 have cd:=c_oDepth a ha
 generalize depO a = o at *
 have hpb : PermO o b.vars.toNat:=by rw [← hab]; exact hp
 have hT0 : GoodT (Tb.new o):=new_good hp (by omega)
 have hn0 : (Tb.new o).n = a.vars:=by show (o.length : Int) = _; rw [hp.len]; omega
 obtain ⟨nsa,xa,ba,ga,ra0,ra1,va,la⟩:=c_dBuild (N:=7) (by omega) a ha (by omega) hp
 obtain ⟨nsb,xb,bb,gb,rb0,rb1,vb,lb⟩:=c_dBuild (N:=7) (by omega) b hb (by omega) hpb
 have hz : (Tb.new o).nodes.length = 0:=rfl
 obtain ⟨T1,ya,ia,g1,x1,r1,v1,s1⟩:=c_tImport (Tb.new o) o nsa xa hT0 ga (by omega) ⟨ra0,ra1⟩
 obtain ⟨T2,yb,ib,g2,x2,r2,v2,s2⟩:=c_tImport T1 o nsb xb g1 (fun k hk=>(gb k hk).to x1) (by omega) ⟨rb0,rb1⟩
 have hn2 : T2.n = a.vars:=by rw [x2.n,x1.n,hn0]
 have r12:=x2.rf r1
 obtain ⟨T3,d,xo,p3⟩:=c_tXor 7 T2 g2 (by omega) ya yb r12 r2 (by omega)
 have s3:=p3.size
 have hn3 : T3.n = a.vars:=by rw [p3.ext.n,hn2]
 have sm:=c_tSmall 7 (by omega) T3 p3.good (by omega) (by omega) d p3.rf
 have cn:=fun o2 o1 o0=>c_tNew3 hp (by omega) o2 o1 o0
 have ea : ∀ t,ev T2.nodes t ya = (valsS (l0 a.vars.toNat t) a.nodes).getD a.top.toNat false:=fun t=>by rw [x2.ev r1,v1,va]
 have eb : ∀ t,ev T2.nodes t yb = (valsS (l0 b.vars.toNat t) b.nodes).getD b.top.toNat false:=fun t=>by rw [v2,vb]
 have ed : ∀ m,ev T3.nodes (bitsE m) d = (faV a m ^^ faV b m):=fun m=>by rw [p3.val,ea,eb]; rfl
 have spec:=dfK_spec (faV a) (faV b) (2 ^ a.vars.toNat)
 have hcmp : cmpD a b = dfK (faV a) (faV b) (2 ^ a.vars.toNat):=rfl
 rw [← hcmp] at spec
 have iR : ∀ (m : Nat) (t : Int → Bool),(∀ j,0 ≤ j → j < T3.n → bitsE m j = t j) → ev T3.nodes t d = ev T3.nodes (bitsE m) d:=fun m t ht =>
  ev_indep p3.good d.toNat d p3.rf (by have:=p3.rf.1; omega) _ _ fun j h0 h1 _=>(ht j h0 h1).symm
 refine FnH.intro lay mixed Tryz.func14 (by kernel_rfl) rfl (by kernel_rfl) rfl fun hok=>?_
 (try dsimp only[argC,succC]);(try dsimp only[awp]);conv=>whnf
 refine .pure _ _ ?_ ⟨rfl,rfl⟩ cc fun _=>?_
 ·exact leL_refl _
 (try dsimp only[awp]);conv=>whnf
 refine .pure _ _ ?_ ⟨rfl,rfl⟩ cd fun _=>?_
 ·exact leL_refl _
 (try dsimp only[awp]);conv=>whnf
 refine .gen _ _ (cn _ _ _) fun _=>?_
 (try dsimp only[awp]);conv=>whnf
 refine LoopE.step 2 ?_
 (try dsimp only[awp]);conv=>whnf
 refine And.intro (fun _=>?_) (fun h=>absurd (by simp) h)
 (try dsimp only[awp]);conv=>whnf
 refine AIdx.mk ⟨_,⟨by decide,rfl⟩,?_⟩
 (try dsimp only[awp]);conv=>whnf
 refine .pure _ _ ?_ ⟨rfl,rfl⟩ ba fun _=>?_
 ·exact leL_refl _
 (try dsimp only[awp]);conv=>whnf
 refine .gen _ _ (frB3 (As:=[.ptr 6 [] 0,diaAV o nsa xa]) (R':=.int .i64 ya) [(10,_),(9,_),(8,_)] (by simp) ia (fun _=>rfl) (fun _=>rfl) rfl) fun _=>?_
 (try dsimp only[awp]);conv=>whnf
 refine ⟨by decide,?_⟩
 (try dsimp only[awp]);conv=>whnf
 refine zA ?_;conv=>whnf
 refine And.intro (fun _=>?_) (fun h=>absurd (by simp) h)
 (try dsimp only[awp]);conv=>whnf
 refine AIdx.mk ⟨_,⟨by decide,rfl⟩,?_⟩
 (try dsimp only[awp]);conv=>whnf
 refine .pure _ _ ?_ ⟨rfl,rfl⟩ bb fun _=>?_
 ·exact leL_refl _
 (try dsimp only[awp]);conv=>whnf
 refine .gen _ _ (frB3 (As:=[.ptr 6 [] 0,diaAV o nsb xb]) (R':=.int .i64 yb) [(12,_),(11,_),(10,_),(9,_),(8,_)] (by simp) ib (fun _=>rfl) (fun _=>rfl) rfl) fun _=>?_
 (try dsimp only[awp]);conv=>whnf
 refine ⟨by decide,?_⟩
 (try dsimp only[awp]);conv=>whnf
 refine zA ?_;conv=>whnf
 refine And.intro (fun h=>absurd h (by simp)) (fun _=>?_)
 (try dsimp only[awp]);conv=>whnf
 refine ⟨by decide,?_⟩
 (try dsimp only[awp]);conv=>whnf
 refine ⟨by decide,?_⟩
 (try dsimp only[awp]);conv=>whnf
 refine .gen _ _ (frB3 (As:=[.ptr 6 [] 0,.int .i64 ya,.int .i64 yb]) (R':=.int .i64 d) [(12,_),(11,_),(10,_),(9,_),(8,_)] (by simp) xo (fun _=>rfl) (fun _=>rfl) rfl) fun _=>?_
 (try dsimp only[awp]);conv=>whnf
 refine .gen _ _ (frB3 (As:=[.ptr 6 [] 0,.int .i64 d,.int .i64 4096]) (R':=.tt) [(12,_),(11,_),(10,_),(9,_),(8,_)] (by simp) sm (fun _=>rfl) (fun _=>rfl) rfl) fun _=>?_
 (try dsimp only[awp]);conv=>whnf
 refine And.intro (fun hd=>?_) (fun hd=>?_)
 ·have hsame : cmpD a b = ⟨true,0,0,0,0⟩:=by
   rw [hcmp]
   refine dfK_same fun m _=>?_
   have:=ed m
   rw [hd,ev_zero] at this
   cases hx : faV a m <;> cases hy : faV b m <;> rw [hx,hy] at this <;> first | rfl | cases this
  rw [hsame]
  (try dsimp only[awp]);conv=>whnf
  refine fM ?_;(conv=>whnf);refine ⟨?_,rfl⟩;conv=>whnf
  all_goals exact wk
 have hdr:=p3.rf
 obtain ⟨T4,q,l4,g4,x4,q1,q2,q3,s4⟩:=c_least 7 (by omega) T3 p3.good (by omega) d hdr hd 300000 (by omega) (by
  have : 2 * T3.n.toNat * (2 ^ 7 * (2 ^ 7 + 2)) ≤ 2 * 7 * (2 ^ 7 * (2 ^ 7 + 2)):=Nat.mul_le_mul (by omega) (Nat.le_refl _)
  omega)
 rw [hn3] at l4
 have hn4 : T4.n = a.vars:=by rw [x4.n,hn3]
 have hd4:=x4.rf hdr
 have ct1:=c_tCount T4 g4 (by omega) d hd4
 have hyb4:=x4.rf (p3.ext.rf r2)
 have hya4:=x4.rf (p3.ext.rf r12)
 obtain ⟨T5,e1,an1,p5⟩:=c_tAnd 7 T4 g4 (by omega) d yb hd4 hyb4 (by omega)
 have s5:=p5.size
 have hn5 : T5.n = a.vars:=by rw [p5.ext.n,hn4]
 have ct2:=c_tCount T5 p5.good (by omega) e1 p5.rf
 obtain ⟨T6,e2,an2,p6⟩:=c_tAnd 7 T5 p5.good (by omega) d ya (p5.ext.rf hd4) (p5.ext.rf hya4) (by omega)
 have s6:=p6.size
 have hn6 : T6.n = a.vars:=by rw [p6.ext.n,hn5]
 have ct3:=c_tCount T6 p6.good (by omega) e2 p6.rf
 have eb3 : ∀ m,ev T3.nodes (bitsE m) yb = faV b m:=fun m=>by rw [p3.ext.ev r2,eb]; rfl
 have ea3 : ∀ m,ev T3.nodes (bitsE m) ya = faV a m:=fun m=>by rw [p3.ext.ev r12,ea]; rfl
 have k1 : T4.cnt d = (cmpD a b).cnt:=by
  rw [cnt_bits g4 hd4,spec.2.2.2.1,hn4]
  exact countP_same fun m _=>by rw [x4.ev hdr,ed]
 have k2 : T5.cnt e1 = (cmpD a b).ga:=by
  rw [cnt_bits p5.good p5.rf,spec.2.2.2.2.1,hn5]
  exact countP_same fun m _=>by rw [p5.val,x4.ev hdr,x4.ev (p3.ext.rf r2),ed,eb3]
 have k3 : T6.cnt e2 = (cmpD a b).lo:=by
  rw [cnt_bits p6.good p6.rf,spec.2.2.2.2.2,hn6]
  exact countP_same fun m _=>by rw [p6.val,p5.ext.ev hd4,p5.ext.ev hya4,x4.ev hdr,x4.ev (p3.ext.rf r12),ed,ea3]
 have k4 : (cmpD a b).eq = false:=by
  cases he : (cmpD a b).eq with
  | false=>rfl
  | true =>
    have h1:=spec.1.1 he q (by rw [← hn3]; exact q3)
    rw [ed,h1] at q1
    cases hy : faV b q <;> simp [hy] at q1
 have k5 : (cmpD a b).st = q:=by
  obtain ⟨w1,w2,w3⟩:=spec.2.2.1 k4
  have h1:=w3 q (by rw [← hn3]; exact q3) (fun h1=>by
   rw [ed,h1] at q1
   cases hy : faV b q <;> simp [hy] at q1)
  have h2:=q2 (cmpD a b).st (by
   rw [ed]
   cases hx : faV a (cmpD a b).st <;> cases hy : faV b (cmpD a b).st <;> simp_all)
  omega
 have hfin : cmpD a b = ⟨false,q,T4.cnt d,T5.cnt e1,T6.cnt e2⟩:=df_ext k4 k5 k1.symm k2.symm k3.symm
 rw [hfin]
 clear hfin k1 k2 k3 k4 k5 spec
 refine ADraw.both [] [12,19] ⟨[true,true,true,false,false,true,true,false,true,true,true,true,false,false,false,true,true,true,true,false,false,false,true,false,true],by kernel_rfl,?_⟩
 conv=>whnf
 refine .gen _ _ (frB3 (As:=[.ptr 6 [] 0,.int .i64 d,.int .i64 a.vars]) (R':=.int .i64 q) [(12,_),(11,_),(10,_),(9,_),(8,_)] (by simp) l4 (fun _=>rfl) (fun _=>rfl) rfl) fun _=>?_
 conv=>whnf
 refine .gen _ _ (frB3 (As:=[.ptr 6 [] 0,.int .i64 d]) (R':=.int .i64 (T4.cnt d : Nat)) [(12,_),(11,_),(10,_),(9,_),(8,_)] (by simp) ct1 (fun _=>rfl) (fun _=>rfl) rfl) fun _=>?_
 conv=>whnf
 refine ⟨by decide,?_⟩
 conv=>whnf
 (repeat (refine aI (by (conv=>whnf)<;>exact rfl) ?_;(conv=>whnf)))
 refine .gen _ _ (frB3 (As:=[.ptr 6 [] 0,.int .i64 d,.int .i64 yb]) (R':=.int .i64 e1) [(12,_),(11,_),(10,_),(9,_),(8,_)] (by simp) an1 (fun _=>rfl) (fun _=>rfl) rfl) fun _=>?_
 conv=>whnf
 refine .gen _ _ (frB3 (As:=[.ptr 6 [] 0,.int .i64 e1]) (R':=.int .i64 (T5.cnt e1 : Nat)) [(12,_),(11,_),(10,_),(9,_),(8,_)] (by simp) ct2 (fun _=>rfl) (fun _=>rfl) rfl) fun _=>?_
 conv=>whnf
 refine ⟨by decide,?_⟩
 conv=>whnf
 (repeat (refine aI (by (conv=>whnf)<;>exact rfl) ?_;(conv=>whnf)))
 refine .gen _ _ (frB3 (As:=[.ptr 6 [] 0,.int .i64 d,.int .i64 ya]) (R':=.int .i64 e2) [(12,_),(11,_),(10,_),(9,_),(8,_)] (by simp) an2 (fun _=>rfl) (fun _=>rfl) rfl) fun _=>?_
 conv=>whnf
 refine .gen _ _ (frB3 (As:=[.ptr 6 [] 0,.int .i64 e2]) (R':=.int .i64 (T6.cnt e2 : Nat)) [(12,_),(11,_),(10,_),(9,_),(8,_)] (by simp) ct3 (fun _=>rfl) (fun _=>rfl) rfl) fun _=>?_
 conv=>whnf
 refine fM ?_;(conv=>whnf);refine ⟨?_,rfl⟩;conv=>whnf
 all_goals exact wk



abbrev QQ:=_root_.Rat

def sgI (s : Bool) (n : Nat) : Int:=if s = true then -(n : Int) else n

def canR (q : QQ) : Rat:=if q.num = 0 then ⟨false,[],[]⟩ else ⟨decide (q.num < 0),wd q.num.natAbs,wd q.den⟩

theorem sgI_abs (s : Bool) (n : Nat) : (sgI s n).natAbs = n:=by cases s <;> simp [sgI]
theorem sgI_num (z : Int) : sgI (decide (z < 0)) z.natAbs = z:=by
 unfold sgI
 by_cases h : z < 0
 ·rw [if_pos (by simpa using h)]; omega
 ·rw [if_neg (by simpa using h)]; omega

theorem form_can (s : Bool) (n d : Nat) (hd : d ≠ 0) : formR s n d = canR (mkRat (sgI s n) d):=by
 have e1:=Rat.num_mkRat (sgI s n) d
 have e2:=Rat.den_mkRat (sgI s n) d
 rw [if_neg hd,sgI_abs] at e1 e2
 unfold canR formR
 rw [e1,e2]
 have hgd : d.gcd n ∣ n:=Nat.gcd_dvd_right d n
 have hgp : 0 < d.gcd n:=Nat.gcd_pos_of_pos_left n (by omega)
 have hge : n.gcd d = d.gcd n:=Nat.gcd_comm n d
 rw [hge]
 generalize d.gcd n = g at *
 have ediv : (sgI s n) / (g : Int) = sgI s (n / g):=by
  cases s
  ·show (n : Int) / (g : Int) = ((n / g : Nat) : Int)
   exact (Int.natCast_ediv n g).symm
  ·show -(n : Int) / (g : Int) = -((n / g : Nat) : Int)
   rw [Int.natCast_ediv]
   exact Int.neg_ediv_of_dvd (by obtain ⟨c,rfl⟩:=hgd; exact ⟨(c : Int),by simp⟩)
 rw [ediv,sgI_abs]
 by_cases hz : n = 0
 ·subst hz
  rw [if_pos rfl,if_pos (by cases s <;> simp [sgI])]
 ·have hq : 0 < n / g:=Nat.div_pos (Nat.le_of_dvd (by omega) hgd) hgp
  rw [if_neg hz,if_neg (by cases s <;> simp [sgI] <;> omega)]
  congr 1
  generalize n / g = m at *
  cases s
  ·symm; simp [sgI];
  ·symm; simp [sgI]; omega

theorem plain_of {n : Nat} (h : n ≠ 0) : plainR (wd n) = true:=by
 induction n using Nat.strongRecOn with
 | _ n ih =>
   rw [wd_pos h]
   by_cases h2 : n / 4294967296 = 0
   ·rw [h2,wd_zero]
    simp [plainR]
    omega
   ·have:=ih _ (Nat.div_lt_self (by omega) (by omega)) h2
    generalize wd (n / 4294967296) = l at *
    simp only [plainR,Bool.and_eq_true,decide_eq_true_eq] at this ⊢
    refine ⟨by simp,?_⟩
    cases l with
    | nil=>exact absurd rfl this.1
    | cons x l=>simpa [List.getLastD] using this.2

theorem parts_can (q : QQ) : partsR (canR q) = (decide (q.num < 0),q.num.natAbs,q.den):=by
 by_cases h : q.num = 0
 ·have e : canR q = ⟨false,[],[]⟩:=if_pos h
  have hd : q.den = 1:=by
   have:=q.reduced
   rw [h] at this
   simpa using this
  rw [e,h,hd]; rfl
 ·have e : canR q = ⟨decide (q.num < 0),wd q.num.natAbs,wd q.den⟩:=if_neg h
  have hn : q.num.natAbs ≠ 0:=by omega
  have hne : wd q.num.natAbs ≠ []:=by rw [wd_pos hn]; simp
  rw [e]
  unfold partsR
  have hv : valid ⟨decide (q.num < 0),wd q.num.natAbs,wd q.den⟩ = true:=by
   unfold valid
   rw [if_neg (fun h=>hne h.1)]
   dsimp only
   rw [plain_of hn,plain_of q.den_nz,val_wd,val_wd]
   simpa using q.reduced
  rw [if_pos ⟨hv,hne⟩]
  dsimp only
  rw [val_wd,val_wd]

theorem mul_can (p q : QQ) : mulR (canR p) (canR q) = canR (p * q):=by
 unfold mulR
 rw [parts_can,parts_can]
 dsimp only
 rw [form_can _ _ _ (Nat.mul_ne_zero p.den_nz q.den_nz)]
 congr 1
 rw [← Rat.mkRat_self p,← Rat.mkRat_self q,Rat.mkRat_mul_mkRat,Rat.mkRat_self,Rat.mkRat_self]
 congr 1
 rw [← Int.natAbs_mul]
 have h1:=sgI_num p.num
 have h2:=sgI_num q.num
 conv=>rhs; rw [← h1,← h2]
 rw [Int.natAbs_mul]
 generalize decide (p.num < 0) = s
 generalize decide (q.num < 0) = t
 cases s <;> cases t <;> simp [sgI] <;> grind

theorem sum_can (s t : Bool) (x y d : Nat) (hd : d ≠ 0) : sumR s t x y d = canR (mkRat (sgI s x + sgI t y) d):=by
 unfold sumR
 split
 ·rename_i h
  subst h
  rw [form_can _ _ _ hd]
  congr 2
  cases s <;> simp [sgI]; omega
 ·rename_i h
  split
  ·rename_i hl
   rw [form_can _ _ _ hd]
   congr 2
   cases s <;> cases t <;> simp [sgI] at h ⊢ <;> omega
  ·rename_i hl
   rw [form_can _ _ _ hd]
   congr 2
   cases s <;> cases t <;> simp [sgI] at h ⊢ <;> omega

theorem add_can (p q : QQ) : addR (canR p) (canR q) = canR (p + q):=by
 unfold addR
 rw [parts_can,parts_can]
 dsimp only
 rw [sum_can _ _ _ _ _ (Nat.mul_ne_zero p.den_nz q.den_nz)]
 congr 1
 conv=>rhs; rw [← Rat.mkRat_self p,← Rat.mkRat_self q]
 rw [Rat.mkRat_add_mkRat _ _ p.den_nz q.den_nz]
 congr 1
 have h1:=sgI_num p.num
 have h2:=sgI_num q.num
 conv=>rhs; rw [← h1,← h2]
 generalize decide (p.num < 0) = s
 generalize decide (q.num < 0) = t
 generalize p.num.natAbs = a
 generalize q.num.natAbs = b
 cases s <;> cases t <;> simp [sgI] <;> grind

theorem neg_can (p : QQ) : negR (canR p) = canR (-p):=by
 unfold negR
 rw [parts_can]
 dsimp only
 rw [form_can _ _ _ p.den_nz]
 congr 1
 conv=>rhs; rw [← Rat.mkRat_self p,Rat.neg_mkRat]
 congr 1
 have h1:=sgI_num p.num
 conv=>rhs; rw [← h1]
 generalize decide (p.num < 0) = s
 cases s <;> simp [sgI]

def qv (r : Rat) : QQ:=mkRat (sgI r.neg (val r.num)) (val r.den)

theorem valid_can {r : Rat} (h : valid r = true) (w1 : Ws r.num) (w2 : Ws r.den) : r = canR (qv r):=by
 obtain ⟨neg,num,den⟩:=r
 dsimp only at w1 w2
 unfold valid at h
 split at h
 ·rename_i e
  dsimp only at e h
  obtain ⟨rfl,rfl⟩:=e
  have : neg = false:=by simpa using h
  subst this
  rfl
 ·simp only [Bool.and_eq_true,decide_eq_true_eq] at h
  obtain ⟨⟨h1,h2⟩,h3⟩:=h
  obtain ⟨e1,n1⟩:=plain_wd h1 w1
  obtain ⟨e2,n2⟩:=plain_wd h2 w2
  dsimp only at *
  have:=form_can neg (val num) (val den) n2
  unfold qv
  rw [← this]
  unfold formR
  rw [if_neg n1,h3,Nat.div_one,Nat.div_one,e1,e2]

def Sz (q : QQ) (k : Nat) : Prop:=(wd q.num.natAbs).length ≤ k ∧ (wd q.den).length ≤ k

theorem Sz.mono {q : QQ} {k l : Nat} (h : Sz q k) (hl : k ≤ l) : Sz q l:=⟨by have:=h.1; omega,by have:=h.2; omega⟩
theorem Sz.neg {q : QQ} {k : Nat} (h : Sz q k) : Sz (-q) k:=by
 unfold Sz
 rw [Rat.neg_num,Rat.neg_den,Int.natAbs_neg]; exact h

theorem Sz_mk {z : Int} {d k : Nat} (hd : d ≠ 0) (h1 : (wd z.natAbs).length ≤ k) (h2 : (wd d).length ≤ k) : Sz (mkRat z d) k:=by
 unfold Sz
 rw [Rat.num_mkRat,Rat.den_mkRat,if_neg hd,if_neg hd]
 have hg : 0 < d.gcd z.natAbs:=Nat.gcd_pos_of_pos_left _ (by omega)
 generalize d.gcd z.natAbs = g at *
 refine ⟨Nat.le_trans (wd_len_mono ?_) h1,Nat.le_trans (wd_len_mono (Nat.div_le_self d g)) h2⟩
 have:=Int.natAbs_ediv_le_natAbs z (g : Int)
 exact this

theorem Sz.mul {p q : QQ} {k l : Nat} (hp : Sz p k) (hq : Sz q l) : Sz (p * q) (k + l):=by
 rw [← Rat.mkRat_self p,← Rat.mkRat_self q,Rat.mkRat_mul_mkRat]
 refine Sz_mk (Nat.mul_ne_zero p.den_nz q.den_nz) ?_ (wd_len_mul hp.2 hq.2)
 rw [Int.natAbs_mul]
 exact wd_len_mul hp.1 hq.1

theorem Sz.add {p q : QQ} {k l : Nat} (hp : Sz p k) (hq : Sz q l) : Sz (p + q) (k + l + 1):=by
 rw [← Rat.mkRat_self p,← Rat.mkRat_self q,Rat.mkRat_add_mkRat _ _ p.den_nz q.den_nz]
 have h1:=wd_len_mul hp.1 hq.2
 have h2:=wd_len_mul hq.1 hp.2
 refine Sz_mk (Nat.mul_ne_zero p.den_nz q.den_nz) ?_ (by have:=wd_len_mul hp.2 hq.2; omega)
 refine Nat.le_trans (wd_len_mono (y:=p.num.natAbs * q.den + q.num.natAbs * p.den) ?_) (wd_len_add h1 (by omega))
 refine Nat.le_trans (Int.natAbs_add_le _ _) ?_
 rw [Int.natAbs_mul,Int.natAbs_mul]
 simp

theorem Sz_len {q : QQ} {k : Nat} (h : Sz q k) : (canR q).num.length ≤ k ∧ (canR q).den.length ≤ k:=by
 unfold canR
 split
 ·exact ⟨Nat.zero_le _,Nat.zero_le _⟩
 ·exact h
end S
