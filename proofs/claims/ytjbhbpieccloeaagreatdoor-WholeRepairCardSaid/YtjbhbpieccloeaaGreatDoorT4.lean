/-
  Contracts of functions of the program, over the logic of the texts before. Nothing is assumed.
-/
import Derived.Test.YtjbhbpieccloeaaGreatDoorT3
import Derived.Test.YtjbhbpieccloeaaGreatDoorRows

open Go Go.AL Go.Proofs
namespace S
abbrev pz : TI:=⟨.dG,8,.aZ,none,false⟩
abbrev lf (n : Nat) (t : TI) : Lay:=.node .nil n t .nil
def L : Lay:=.node (.node (.node (.node (.node (.node (.node (lf 1 pz) 2 ⟨.int .i64,8,.int .i64 0,none,false⟩ .nil) 3 ⟨.int .i64,8,.int .i64 0,none,false⟩ (lf 4 ⟨.bool,1,.ff,none,false⟩)) 5 ⟨.int .u8,1,.int .u8 0,none,false⟩ (.node (.node (lf 6 ⟨.int .u8,1,.int .u8 0,none,false⟩) 7 ⟨.struct [(0,1,2),(1,1,3),(2,1,4),(3,1,6)],24,.ag [.int .i64 0,.int .i64 0,.ff,.int .u8 0],none,false⟩ .nil) 8 ⟨.struct [(0,1,2),(1,1,3),(2,1,4),(3,1,6)],24,.ag [.int .i64 0,.int .i64 0,.ff,.int .u8 0],none,false⟩ (lf 9 ⟨.str,16,.str [],none,false⟩))) 10 ⟨.str,16,.str [],none,false⟩ (.node (.node (.node (lf 11 ⟨.str,16,.str [],none,false⟩) 12 ⟨.int .u64,8,.int .u64 0,none,false⟩ .nil) 13 ⟨.struct [(0,1,9),(1,1,12)],24,.ag [.str [],.int .u64 0],none,false⟩ (lf 14 ⟨.struct [(0,1,9),(1,1,12)],24,.ag [.str [],.int .u64 0],none,false⟩)) 15 ⟨.ptr 155,8,.fJ,none,false⟩ (.node (.node (lf 16 ⟨.ptr 158,8,.fJ,none,false⟩) 17 ⟨.ptr 166,8,.fJ,none,false⟩ .nil) 18 ⟨.struct [(0,1,17)],8,.ag [.fJ],none,false⟩ (lf 19 ⟨.struct [(0,1,17)],8,.ag [.fJ],none,false⟩)))) 20 ⟨.iface,16,.bH,none,false⟩ (.node (.node (.node (.node (lf 21 ⟨.int .i32,4,.int .i32 0,none,false⟩) 22 ⟨.slice 62,24,.aV,none,false⟩ .nil) 23 ⟨.struct [(0,1,3),(1,1,22),(2,1,3)],40,.ag [.int .i64 0,.aV,.int .i64 0],none,false⟩ (lf 24 ⟨.struct [(0,1,3),(1,1,22),(2,1,3)],40,.ag [.int .i64 0,.aV,.int .i64 0],none,false⟩)) 25 ⟨.slice 3,24,.aV,none,false⟩ (.node (.node (lf 26 ⟨.struct [(0,1,3),(1,1,25)],32,.ag [.int .i64 0,.aV],none,false⟩) 27 ⟨.struct [(0,1,3),(1,1,25)],32,.ag [.int .i64 0,.aV],none,false⟩ .nil) 28 ⟨.slice 30,24,.aV,none,false⟩ (lf 29 ⟨.struct [(0,1,3),(1,1,28),(2,1,3)],40,.ag [.int .i64 0,.aV,.int .i64 0],none,false⟩))) 30 ⟨.struct [(0,1,3),(1,1,28),(2,1,3)],40,.ag [.int .i64 0,.aV,.int .i64 0],none,false⟩ (.node (.node (.node (lf 31 ⟨.struct [(0,1,3),(1,1,3),(2,1,25),(3,3,30)],80,.ag [.int .i64 0,.int .i64 0,.aV,.ag [.int .i64 0,.aV,.int .i64 0]],none,false⟩) 32 ⟨.struct [(0,1,3),(1,1,3),(2,1,25),(3,3,30)],80,.ag [.int .i64 0,.int .i64 0,.aV,.ag [.int .i64 0,.aV,.int .i64 0]],none,false⟩ .nil) 33 pz (lf 34 pz)) 35 pz (.node (lf 36 ⟨.iface,16,.bH,none,false⟩) 37 ⟨.iface,16,.bH,none,false⟩ (lf 39 pz))))) 41 pz (.node (.node (.node (.node (.node (lf 42 pz) 43 ⟨.int .i64,8,.int .i64 0,none,false⟩ .nil) 45 pz (lf 46 pz)) 48 pz (.node (.node (lf 49 ⟨.slice 32,24,.aV,none,false⟩) 50 pz .nil) 51 pz (lf 52 ⟨.ptr 92,8,.fJ,none,false⟩))) 54 pz (.node (.node (.node (lf 55 pz) 56 pz .nil) 57 pz (lf 58 pz)) 59 ⟨.slice 4,24,.aV,none,false⟩ (.node (lf 60 pz) 61 ⟨.struct [(0,1,3),(1,1,3),(2,1,25)],40,.ag [.int .i64 0,.int .i64 0,.aV],none,false⟩ (lf 62 ⟨.struct [(0,1,3),(1,1,3),(2,1,25)],40,.ag [.int .i64 0,.int .i64 0,.aV],none,false⟩)))) 63 pz (.node (.node (.node (.node (lf 64 pz) 65 pz .nil) 66 pz (lf 67 ⟨.struct [(0,3,24),(3,2,27),(5,1,3),(6,1,3),(7,1,4),(8,1,37)],112,.ag [.ag [.int .i64 0,.aV,.int .i64 0],.ag [.int .i64 0,.aV],.int .i64 0,.int .i64 0,.ff,.bH],none,false⟩)) 68 ⟨.struct [(0,3,24),(3,2,27),(5,1,3),(6,1,3),(7,1,4),(8,1,37)],112,.ag [.ag [.int .i64 0,.aV,.int .i64 0],.ag [.int .i64 0,.aV],.int .i64 0,.int .i64 0,.ff,.bH],none,false⟩ (.node (.node (lf 69 pz) 72 pz .nil) 73 pz (lf 74 pz))) 75 ⟨.struct [(0,2,27),(2,6,32),(8,1,3)],120,.ag [.ag [.int .i64 0,.aV],.ag [.int .i64 0,.int .i64 0,.aV,.ag [.int .i64 0,.aV,.int .i64 0]],.int .i64 0],none,false⟩ (.node (.node (.node (lf 76 ⟨.struct [(0,2,27),(2,6,32),(8,1,3)],120,.ag [.ag [.int .i64 0,.aV],.ag [.int .i64 0,.int .i64 0,.aV,.ag [.int .i64 0,.aV,.int .i64 0]],.int .i64 0],none,false⟩) 78 pz .nil) 79 ⟨.struct [(0,1,3),(1,1,3)],16,.ag [.int .i64 0,.int .i64 0],none,true⟩ (lf 80 ⟨.struct [(0,1,3),(1,1,3)],16,.ag [.int .i64 0,.int .i64 0],none,true⟩)) 81 pz (.node (lf 82 pz) 83 ⟨.slice 87,24,.aV,none,false⟩ (lf 85 pz)))))) 86 ⟨.struct [(0,2,80),(2,1,3)],24,.ag [.ag [.int .i64 0,.int .i64 0],.int .i64 0],none,false⟩ (.node (.node (.node (.node (.node (.node (lf 87 ⟨.struct [(0,2,80),(2,1,3)],24,.ag [.ag [.int .i64 0,.int .i64 0],.int .i64 0],none,false⟩) 88 pz .nil) 89 pz (lf 90 ⟨.slice 110,24,.aV,none,false⟩)) 91 ⟨.struct [(0,3,24),(3,1,3),(4,1,90)],72,.ag [.ag [.int .i64 0,.aV,.int .i64 0],.int .i64 0,.aV],none,false⟩ (.node (.node (lf 92 ⟨.struct [(0,3,24),(3,1,3),(4,1,90)],72,.ag [.ag [.int .i64 0,.aV,.int .i64 0],.int .i64 0,.aV],none,false⟩) 93 pz .nil) 94 pz (lf 95 pz))) 96 pz (.node (.node (.node (lf 97 ⟨.ptr 68,8,.fJ,none,false⟩) 98 pz .nil) 99 pz (lf 100 pz)) 101 pz (.node (.node (lf 102 ⟨.ptr 76,8,.fJ,none,false⟩) 103 pz .nil) 104 pz (lf 105 pz)))) 106 pz (.node (.node (.node (.node (lf 107 pz) 108 pz .nil) 109 ⟨.struct [(0,1,3),(1,1,4),(2,1,4)],16,.ag [.int .i64 0,.ff,.ff],none,true⟩ (lf 110 ⟨.struct [(0,1,3),(1,1,4),(2,1,4)],16,.ag [.int .i64 0,.ff,.ff],none,true⟩)) 112 pz (.node (.node (lf 113 pz) 114 ⟨.int .u64,8,.int .u64 0,none,false⟩ .nil) 115 pz (lf 116 ⟨.slice 25,24,.aV,none,false⟩))) 117 pz (.node (.node (.node (lf 118 pz) 119 pz .nil) 120 ⟨.struct [(0,1,3),(1,1,3)],16,.ag [.int .i64 0,.int .i64 0],none,true⟩ (lf 121 ⟨.struct [(0,1,3),(1,1,3)],16,.ag [.int .i64 0,.int .i64 0],none,true⟩)) 122 pz (.node (lf 123 ⟨.int .u32,4,.int .u32 0,none,false⟩) 124 pz (lf 125 ⟨.int .u64,8,.int .u64 0,none,false⟩))))) 126 pz (.node (.node (.node (.node (.node (lf 127 pz) 128 ⟨.map 3 4,8,.jQ,(some (.int .i64 0)),false⟩ .nil) 129 ⟨.ptr 121,8,.fJ,none,false⟩ (lf 130 pz)) 131 ⟨.arr 32 5,32,.ag [.int .u8 0,.int .u8 0,.int .u8 0,.int .u8 0,.int .u8 0,.int .u8 0,.int .u8 0,.int .u8 0,.int .u8 0,.int .u8 0,.int .u8 0,.int .u8 0,.int .u8 0,.int .u8 0,.int .u8 0,.int .u8 0,.int .u8 0,.int .u8 0,.int .u8 0,.int .u8 0,.int .u8 0,.int .u8 0,.int .u8 0,.int .u8 0,.int .u8 0,.int .u8 0,.int .u8 0,.int .u8 0,.int .u8 0,.int .u8 0,.int .u8 0,.int .u8 0],none,false⟩ (.node (.node (lf 132 ⟨.arr 64 5,64,.ag [.int .u8 0,.int .u8 0,.int .u8 0,.int .u8 0,.int .u8 0,.int .u8 0,.int .u8 0,.int .u8 0,.int .u8 0,.int .u8 0,.int .u8 0,.int .u8 0,.int .u8 0,.int .u8 0,.int .u8 0,.int .u8 0,.int .u8 0,.int .u8 0,.int .u8 0,.int .u8 0,.int .u8 0,.int .u8 0,.int .u8 0,.int .u8 0,.int .u8 0,.int .u8 0,.int .u8 0,.int .u8 0,.int .u8 0,.int .u8 0,.int .u8 0,.int .u8 0,.int .u8 0,.int .u8 0,.int .u8 0,.int .u8 0,.int .u8 0,.int .u8 0,.int .u8 0,.int .u8 0,.int .u8 0,.int .u8 0,.int .u8 0,.int .u8 0,.int .u8 0,.int .u8 0,.int .u8 0,.int .u8 0,.int .u8 0,.int .u8 0,.int .u8 0,.int .u8 0,.int .u8 0,.int .u8 0,.int .u8 0,.int .u8 0,.int .u8 0,.int .u8 0,.int .u8 0,.int .u8 0,.int .u8 0,.int .u8 0,.int .u8 0,.int .u8 0],none,false⟩) 133 pz .nil) 134 pz (lf 135 pz))) 136 pz (.node (.node (.node (lf 137 ⟨.int .i64,8,.int .i64 0,none,false⟩) 139 pz .nil) 140 pz (lf 141 pz)) 143 pz (.node (lf 144 ⟨.int .u64,8,.int .u64 0,none,false⟩) 145 pz (lf 146 pz)))) 147 pz (.node (.node (.node (.node (lf 148 ⟨.ptr 3,8,.fJ,none,false⟩) 149 pz .nil) 150 ⟨.ptr 144,8,.fJ,none,false⟩ (lf 152 pz)) 153 pz (.node (.node (lf 154 ⟨.struct [(0,1,17),(1,1,17),(2,1,17),(3,1,9)],40,.ag [.fJ,.fJ,.fJ,.str []],none,false⟩) 155 ⟨.struct [(0,1,17),(1,1,17),(2,1,17),(3,1,9)],40,.ag [.fJ,.fJ,.fJ,.str []],none,false⟩ .nil) 156 ⟨.arr 0 16,0,.ag [],none,false⟩ (lf 157 ⟨.struct [(0,0,156)],0,.ag [.ag []],none,false⟩))) 158 ⟨.struct [(0,0,156)],0,.ag [.ag []],none,false⟩ (.node (.node (.node (lf 159 ⟨.int .u8,1,.int .u8 0,none,false⟩) 160 ⟨.int .u8,1,.int .u8 0,none,false⟩ .nil) 161 pz (lf 162 ⟨.ptr 5,8,.fJ,none,false⟩)) 163 ⟨.int .i32,4,.int .i32 0,none,false⟩ (.node (lf 164 ⟨.int .i32,4,.int .i32 0,none,false⟩) 165 ⟨.struct [(0,1,12),(1,1,12),(2,1,123),(3,1,159),(4,1,5),(5,1,5),(6,1,160),(7,1,161),(8,1,162),(9,1,163),(10,1,164)],48,.ag [.int .u64 0,.int .u64 0,.int .u32 0,.int .u8 0,.int .u8 0,.int .u8 0,.int .u8 0,.aZ,.fJ,.int .i32 0,.int .i32 0],none,false⟩ (lf 166 ⟨.struct [(0,1,12),(1,1,12),(2,1,123),(3,1,159),(4,1,5),(5,1,5),(6,1,160),(7,1,161),(8,1,162),(9,1,163),(10,1,164)],48,.ag [.int .u64 0,.int .u64 0,.int .u32 0,.int .u8 0,.int .u8 0,.int .u8 0,.int .u8 0,.aZ,.fJ,.int .i32 0,.int .i32 0],none,false⟩))))))
theorem lay : bZ Tryz.prog L:=vW (by kernel_rfl)
theorem mixed : Tryz.prog.follows .mixedOrders = true:=by kernel_rfl

abbrev iL (l : List Int) : AV:=.sl 1 (l.map (.int .i64)) .no
structure Rat where
 neg : Bool
 num : List Int
 den : List Int
 deriving DecidableEq,Inhabited

structure Gate where
 kind : Int
 k : Int
 args : List Int
 dorm : Rat
 deriving DecidableEq,Inhabited

structure St where
 failed : Int
 memo : List Int
 deriving DecidableEq,Inhabited

theorem PK {α : Type} {f : α -> AV} : ∀ {l : List α},yL (l.map f) -> ∀ x ∈ l,Ok (f x)
 | [],_,x,hx=>by simp at hx
 | y :: l,h,x,hx=>by
   simp only [List.map_cons,yL] at h
   rcases List.mem_cons.1 hx with rfl | hx
   ·exact h.1
   ·exact PK h.2 x hx

theorem bM {l m : List AV} (h : l = m) : gq l m:=h ▸ bK l

set_option maxRecDepth 100000

def evs (n : Nat) (f : Nat) : List Bool:=(List.range n).map f.testBit

theorem Yn {f : Nat -> Bool} {n i : Nat} {A : AV} (hi : i < n) (hA : pK A (.bool (f i))) :
  gq (((List.range i).map (fun j=>AV.bool (f j)) ++ List.replicate (n - i) AV.ff).set i A) ((List.range (i + 1)).map (fun j=>AV.bool (f j)) ++ List.replicate (n - (i + 1)) AV.ff):=by
 have e1 : n - i = (n - (i + 1)) + 1:=by omega
 have key : ∀ (l : List AV) (r : List AV),gq (l ++ A :: r) (l ++ AV.bool (f i) :: r):=by
  intro l r
  induction l with
  | nil=>exact ⟨hA,bK r⟩
  | cons x l ih=>exact ⟨nV x,ih⟩
 rw [e1,List.replicate_succ,List.set_append_right _ _ (by simp)]
 simp only [List.length_map,List.length_range,Nat.sub_self,List.set_cons_zero]
 rw [List.range_succ,List.map_append,List.append_assoc]
 exact key _ _


theorem iY {α β : Type} {f : β -> α -> β} {s : β} {l : List α} {i : Nat} (h : i < l.length) : (l.take (i + 1)).foldl f s = f ((l.take i).foldl f s) l[i]:=by
 rw [List.take_add_one,List.getElem?_eq_getElem h,List.foldl_append]; rfl

def vZ {α : Type} (p : α -> Bool) : List α -> Int
 | []=>-1
 | x :: l=>if p x then 0 else (match vZ p l with | -1=>-1 | n=>n + 1)

theorem gK {α : Type} (p : α -> Bool) : ∀ l : List α,(vZ p l = -1 /\ ∀ x ∈ l,p x = false) \/ ∃ (i : Nat) (h : i < l.length),vZ p l = i /\ p l[i] = true /\ ∀ (j : Nat) (hj : j < i),p l[j] = false
 | []=>.inl ⟨rfl,by simp⟩
 | x :: l=>by
   simp only [vZ]
   cases hx : p x with
   | true=>exact .inr ⟨0,by simp,by simp,by simpa using hx,by simp⟩
   | false =>
     rcases gK p l with ⟨h1,h2⟩ | ⟨i,h,h1,h2,h3⟩
     ·refine .inl ⟨by simp [h1],?_⟩
      intro y hy
      rcases List.mem_cons.1 hy with rfl | hy
      ·exact hx
      ·exact h2 y hy
     ·refine .inr ⟨i + 1,by simpa using h,?_,by simpa using h2,?_⟩
      ·simp only [Bool.false_eq_true,if_false]
       rw [h1]
       split
       ·rename_i h4; omega
       ·simp
      ·intro j hj
       cases j with
       | zero=>simpa using hx
       | succ j=>simpa using h3 j (by omega)

theorem F8 {α : Type} {p : α -> Bool} {l : List α} {i : Nat} (h : i < l.length) (hp : p l[i] = true) (hn : ∀ (j : Nat) (hj : j < i),p l[j] = false) : vZ p l = i:=by
 rcases gK p l with ⟨_,h2⟩ | ⟨k,hk,h1,h2,h3⟩
 ·rw [h2 _ (List.getElem_mem h)] at hp; cases hp
 ·rcases Nat.lt_trichotomy i k with hik | rfl | hik
  ·rw [h3 i hik] at hp; cases hp
  ·exact h1
  ·rw [hn k hik] at h2; cases h2

theorem F9 {α : Type} {p : α -> Bool} {l : List α} (hn : ∀ (j : Nat) (hj : j < l.length),p l[j] = false) : vZ p l = -1:=by
 rcases gK p l with ⟨h1,_⟩ | ⟨k,hk,_,h2,_⟩
 ·exact h1
 ·rw [hn k hk] at h2; cases h2

theorem kS (l : List Int) (g : Nat) (cap : List AV) (p : Int -> Bool) (H : Heap) (hg : ∀ x ∈ l,aQ Tryz.prog g (.int .i64 x :: cap) H (.bool (p x)) H) :
  aQ Tryz.prog 51 [iL l,.fn g cap] H (.int .i64 (vZ p l)) H:=by
 refine aQ.intro lay mixed Tryz.func51 (by kernel_rfl) rfl (by kernel_rfl) rfl fun hok=>?_
 have hl : l.length <= 9223372036854775807:=by simpa [yL,Ok,maxL] using hok.1.1
 conv=>whnf
 refine aN.of <| aA.inv (.refl _ _) (fun (i : Nat)=>i <= l.length /\ ∀ (j : Nat) (hj : j < l.length),j < i -> p l[j] = false) (fun (i : Nat)=>[(8,.int .i64 i)]) (fun _=>_) (fun (i : Nat)=>l.length - i) 0 ?_ (fun _=>rfl) ?_ ?_
 ·exact ⟨Nat.zero_le _,by omega⟩
 ·all_goals exact wk
 rintro i ⟨hi,hn⟩ _
 conv=>whnf
 refine And.intro (fun h=>?_) (fun h=>?_)
 ·have hlt : i < l.length:=by simpa using h
  conv=>whnf
  refine iq hlt ?_
  conv=>whnf
  refine .gen _ _ (hg _ (List.getElem_mem hlt)) fun _=>?_
  conv=>whnf
  refine And.intro (fun h=>?_) (fun h=>?_)
  ·conv=>whnf
   (refine jY.same ?_;(conv=>whnf);refine ⟨?_,rfl⟩;(conv=>whnf))
   exact ⟨rfl,(F8 hlt h fun j hj=>hn j (by omega) hj).symm⟩
  ·conv=>whnf
   refine zA ?_;conv=>whnf
   refine ⟨i + 1,?_,?_,?_⟩
   ·refine ⟨hlt,fun j hj hji=>?_⟩
    by_cases YH : j = i
    ·subst YH; exact h
    ·exact hn j hj (by omega)
   ·all_goals exact wk
   ·omega
 ·have hlt : i = l.length:=by have : ¬ i < l.length:=by simpa using h
                              omega
  subst hlt
  conv=>whnf
  (refine jY.same ?_;(conv=>whnf);refine ⟨?_,rfl⟩;(conv=>whnf))
  exact ⟨rfl,(F9 fun j hj=>hn j hj hj).symm⟩

theorem lC {x y : AV} (hx : pK x y) : ∀ {l m : List AV},gq l m -> gq (l ++ [x]) (m ++ [y])
 | [],[],_=>⟨hx,trivial⟩
 | [],_ :: _,h=>by simp only [gq] at h
 | _ :: _,[],h=>by simp only [gq] at h
 | a :: l,b :: m,h=>by simp only [gq] at h; exact ⟨h.1,lC hx h.2⟩



theorem JK {α : Type} (p : α -> Bool) (l : List α) : (0 <= vZ p l) ↔ l.any p = true:=by
 rcases gK p l with ⟨h1,h2⟩ | ⟨i,h,h1,h2,h3⟩
 ·rw [h1]
  constructor
  ·intro h; omega
  ·intro h
   obtain ⟨x,hx,hp⟩:=List.any_eq_true.1 h
   rw [h2 x hx] at hp; cases hp
 ·rw [h1]
  exact ⟨fun _=>List.any_eq_true.2 ⟨_,List.getElem_mem h,h2⟩,fun _=>by omega⟩

def holds (v : List Bool) (i : Int) (g : Gate) : Bool :=
 decide (g.kind = 8) && v.getD (g.args.getD 0 0).toNat false && (g.args.drop 1).any fun y=>decide (i = y)


def val : List Int -> Nat
 | []=>0
 | x :: l=>x.toNat + 4294967296 * val l



def rW (e : Int) : AV:=if e = 0 then .bH else .jh 43 (.int .i64 e)



abbrev z0 : St:=⟨0,[]⟩

theorem Dn : rW 0 = .bH:=rfl
theorem fV {e : Int} (h : e ≠ 0) : rW e = .jh 43 (.int .i64 e):=if_neg h










theorem Ho {a n : Nat} (hn : n < 64) : uX .u64 (a : Int) (n : Int) = ((a / 2 ^ n : Nat) : Int):=by
 unfold uX
 have h1 : min (n : Int).toNat (IntKind.bits .u64) = n:=by show min n 64 = n; omega
 rw [h1]
 rw [Int.fdiv_eq_ediv_of_nonneg _ (by have:=Int.pow_pos (n:=(2 : Int)) (m:=n) (by decide); omega)]
 simp


def mid (us : List Int) (off : Nat) (s : List Int) : List Int:=us.take off ++ (s ++ us.drop (off + s.length))





def iU (x : Nat) : Nat:=if x = 0 then 0 else x.log2 + 1

theorem U3 {x l : Nat} (h1 : 2 ^ l <= x) (h2 : x < 2 ^ (l + 1)) : iU x = l + 1:=by
 have hx : x ≠ 0:=by have:=Nat.two_pow_pos l; omega
 unfold iU
 rw [if_neg hx,(Nat.log2_eq_iff hx).2 ⟨h1,h2⟩]

theorem zy {x : Nat} (hx : x ≠ 0) : ∃ l,iU x = l + 1 /\ 2 ^ l <= x /\ x < 2 ^ (l + 1):=by
 refine ⟨x.log2,by unfold iU; rw [if_neg hx],(Nat.log2_eq_iff hx).1 rfl⟩

theorem D9 {x k : Nat} (h : 2 ^ k <= x) : iU x = iU (x / 2 ^ k) + k:=by
 have hk:=Nat.two_pow_pos k
 have h0 : x / 2 ^ k ≠ 0:=by
  have:=(Nat.le_div_iff_mul_le hk (x:=1) (y:=x)).2 (by omega)
  omega
 obtain ⟨l,h1,h2,h3⟩:=zy h0
 have:=U3 (x:=x) (l:=l + k) (by
  rw [Nat.le_div_iff_mul_le hk] at h2
  rw [Nat.pow_add]; exact h2) (by
  rw [Nat.div_lt_iff_lt_mul hk] at h3
  rw [show l + k + 1 = l + 1 + k by omega,Nat.pow_add]; exact h3)
 rw [this,h1]; omega

theorem BF {x n : Nat} (h : x < 2 ^ n) : iU x <= n:=by
 by_cases hx : x = 0
 ·subst hx; simp [iU]
 ·obtain ⟨l,h1,h2,_⟩:=zy hx
  have : 2 ^ l < 2 ^ n:=by omega
  have:=(Nat.pow_lt_pow_iff_right (a:=2) (by omega)).1 this
  omega

theorem aidxT {T : List UInt8} {x : Nat} {n : Int} {k : UInt8 -> Prop} (hT : ((List.range 256).all fun i=>T[i]? == some (UInt8.ofNat (iU i))) = true) (hn : n = x) (hx : x < 256) (hk : k (UInt8.ofNat (iU x))) : kE T n k:=by
 subst hn
 refine ⟨⟨_,⟨Int.natCast_nonneg _,?_⟩,hk⟩⟩
 have:=List.all_eq_true.1 hT x (by simpa using hx)
 simpa using this



theorem c_Is (e c : Int) : aQ Tryz.prog 10 [rW e,.int .i64 c] [] (.bool (decide (e ≠ 0 /\ e = c))) []:=by
 by_cases h0 : e = 0
 ·subst h0
  rw [Dn]
  refine aQ.intro lay mixed Tryz.func10 (by kernel_rfl) rfl (by kernel_rfl) rfl fun hok=>?_
  conv=>whnf
  refine fM ?_;(conv=>whnf);refine ⟨?_,rfl⟩;conv=>whnf
  simp
 ·rw [fV h0]
  refine aQ.intro lay mixed Tryz.func10 (by kernel_rfl) rfl (by kernel_rfl) rfl fun hok=>?_
  conv=>whnf
  refine fM ?_;(conv=>whnf);refine ⟨?_,rfl⟩;conv=>whnf
  simp [h0]












abbrev Str:=List UInt8
structure Hs where
 name : Str
 on : Bool
 deriving DecidableEq,Inhabited








abbrev Node:=Int × Int × Int

abbrev Marks:=List (Node × Int)

def look : Marks -> Node -> Int
 | [],_=>0
 | (y,v) :: es,x=>if y = x then v else look es x

structure WS (σ : Type) where
 es : Marks
 st : σ

def isM (es : Marks) (x : Node) : Bool:=decide (look es x = 1) || decide (look es x = 2)

def free (all : List Node) (es : Marks) : Nat:=(all.filter fun x=>!isM es x).length




section
variable {σ : Type} (kids : Node -> List Node) (step : σ -> Node -> σ) (V : σ -> Node -> Prop)

structure Inv (s : WS σ) : Prop where
 rank : ∃ rank : Node -> Nat,∀ x,look s.es x = 2 -> ∀ y ∈ kids x,y.1 = 2 -> look s.es y = 2 /\ rank y < rank x
 met : ∀ x,look s.es x = 2 -> V s.st x /\ ∀ y ∈ kids x,y.1 ≠ 2 -> V s.st y

variable {kids step V}

end






structure Nd where
 kind : Int
 k : Int
 args : List Int
 deriving DecidableEq,Inhabited

abbrev Nd.av (x : Nd) : AV:=.ag [.int .i64 x.kind,.int .i64 x.k,iL x.args]

structure Fo where
 vars : Int
 nodes : List Nd
 top : Int
 deriving DecidableEq,Inhabited

abbrev Fo.av (x : Fo) : AV:=.ag [.int .i64 x.vars,.sl 3 (x.nodes.map Nd.av) .no,.int .i64 x.top]


def Yp (l : List Bool) (r : Int) : Bool:=if r <= 0 then false else if r = 1 then true else l.getD (r - 2).toNat false
def Zm (s : Int -> Bool) (l : List Bool) (x : Node) : List Bool:=l ++ [if s x.1 then Yp l x.2.2 else Yp l x.2.1]
def Zl (s : Int -> Bool) (nodes : List Node) : List Bool:=nodes.foldl (Zm s) []
def ev (nodes : List Node) (s : Int -> Bool) (r : Int) : Bool:=Yp (Zl s nodes) r




mutual
theorem SC {σ : Nat -> Nat} {m : Nat} (hσ : ∀ k,k < m -> σ k = k) : ∀ (A : AV),dD m A = true -> iE σ A = A
 | .bool _,_ | .tt,_ | .ff,_ | .dec _,_ | .int _ _,_ | .str _,_ | .bH,_ | .aV,_ | .cp _,_ | .fJ,_ | .aZ,_ | .jQ,_ | .und,_ | .sl _ _ .no,_ | .sl _ _ .full,_=>rfl
 | .jh t x,h=>by simp only [iE]; rw [SC hσ x (by simpa only [dD] using h)]
 | .sl _ _ (.own k),h=>by simp only [dD] at h; simp only [iE]; rw [hσ k (Nat.le_of_ble_eq_true h)]
 | .ms k _ _ _ _,h=>by simp only [dD] at h; simp only [iE]; rw [hσ k (Nat.le_of_ble_eq_true h)]
 | .ptr k _ _,h=>by simp only [dD] at h; simp only [iE]; rw [hσ k (Nat.le_of_ble_eq_true h)]
 | .mp k,h=>by simp only [dD] at h; simp only [iE]; rw [hσ k (Nat.le_of_ble_eq_true h)]
 | .gs k _,h=>by simp only [dD] at h; simp only [iE]; rw [hσ k (Nat.le_of_ble_eq_true h)]
 | .bm _ k,h=>by simp only [dD] at h; simp only [iE]; rw [hσ k (Nat.le_of_ble_eq_true h)]
 | .ag l,h=>by simp only [iE]; rw [Ci hσ l (by simpa only [dD] using h)]
 | .dA l,h=>by simp only [iE]; rw [Ci hσ l (by simpa only [dD] using h)]
 | .fn _ cap,h=>by simp only [iE]; rw [Ci hσ cap (by simpa only [dD] using h)]
theorem Ci {σ : Nat -> Nat} {m : Nat} (hσ : ∀ k,k < m -> σ k = k) : ∀ (l : List AV),fH m l = true -> EP σ l = l
 | [],_=>rfl
 | x :: l,h=>by
   simp only [fH] at h
   cases hx : dD m x with
   | false=>rw [hx] at h; cases h
   | true=>rw [hx] at h; simp only [EP]; rw [SC hσ x hx,Ci hσ l h]
end











structure IX (v : Int) (i : Nat) (x : Nd) : Prop where
 kind : 0 <= x.kind /\ x.kind <= 5
 num : if x.kind = 0 then x.args.length = 0 else if x.kind = 1 then x.args.length = 1 else 1 <= x.args.length /\ x.args.length <= 16
 args : ∀ a ∈ x.args,0 <= a /\ a < v + i
 k : if x.kind = 0 then x.k = 0 \/ x.k = 1 else if x.kind = 4 then 1 <= x.k /\ x.k <= x.args.length else x.k = 0

structure su (f : Fo) : Prop where
 vars : 0 <= f.vars /\ f.vars <= 24
 len : f.nodes.length <= 128
 nodes : ∀ (i : Nat) (h : i < f.nodes.length),IX f.vars i f.nodes[i]
 top : 0 <= f.top /\ f.top < f.vars + f.nodes.length

theorem Iy (x : Nd) (v : Int) (i : Nat) (h : IX v i x) : aQ Tryz.prog 77 [.int .i64 x.kind,.int .i64 x.args.length] [] .tt []:=by
 have h2:=h.num
 refine aQ.intro lay mixed Tryz.func77 (by kernel_rfl) rfl (by kernel_rfl) rfl fun hok=>?_
 (try dsimp only[aP,aC]);(try dsimp only[aj]);conv=>whnf
 refine And.intro (fun g=>?_) (fun g=>?_)
 ·rw [if_pos g] at h2
  (try dsimp only[aj]);conv=>whnf
  refine fM ?_;(conv=>whnf);refine ⟨?_,rfl⟩;conv=>whnf
  show (x.args.length : Int) = 0
  omega
 rw [if_neg g] at h2
 (try dsimp only[aj]);conv=>whnf
 refine And.intro (fun g=>?_) (fun g=>?_)
 ·rw [if_pos g] at h2
  (try dsimp only[aj]);conv=>whnf
  refine fM ?_;(conv=>whnf);refine ⟨?_,rfl⟩;conv=>whnf
  show (x.args.length : Int) = 1
  omega
 rw [if_neg g] at h2
 (try dsimp only[aj]);conv=>whnf
 refine And.intro (fun g=>?_) (fun g=>by exfalso; omega)
 (try dsimp only[aj]);conv=>whnf
 refine fM ?_;(conv=>whnf);refine ⟨?_,rfl⟩;conv=>whnf
 show (x.args.length : Int) <= 16
 omega

theorem Iw (f : Fo) (hv : 0 <= f.vars /\ f.vars <= 24) (i : Nat) (hi : i < f.nodes.length) (hl : f.nodes.length <= 128) (h : IX f.vars i f.nodes[i]) : aQ Tryz.prog 59 [f.av,.int .i64 i] [] .bH []:=by
 have ca:=Iy _ _ _ h
 obtain ⟨h1,h2,h3,h4⟩:=h
 have hal : f.nodes[i].args.length <= 16:=by
  split at h2
  ·omega
  ·split at h2 <;> omega
 refine aQ.intro lay mixed Tryz.func59 (by kernel_rfl) rfl (by kernel_rfl) rfl fun hok=>?_
 (try dsimp only[aP,aC]);(try dsimp only[aj]);conv=>whnf
 refine iq hi ?_
 generalize f.nodes[i] = x at *
 (try dsimp only[aj]);conv=>whnf
 refine And.intro (fun g=>by exfalso; omega) (fun g=>?_)
 (try dsimp only[aj]);conv=>whnf
 refine And.intro (fun g=>by exfalso; omega) (fun g=>?_)
 (try dsimp only[aj]);conv=>whnf
 rw [show (((x.args.map (AV.int .i64)).length : Nat) : Int) = (x.args.length : Int) by simp]
 refine .pure _ _ ?_ ⟨rfl,rfl⟩ ca fun _=>?_
 ·all_goals exact wk
 (try dsimp only[aj]);conv=>whnf
 refine aN.of <| aA.inv (.refl _ _) (fun (j : Nat)=>j <= x.args.length) (fun (j : Nat)=>[(33,.int .i64 j)]) (fun _=>_) (fun (j : Nat)=>x.args.length - j) 0 ?_ (fun _=>rfl) ?_ ?_
 ·exact Nat.zero_le _
 ·all_goals exact wk
 intro j hj _
 (try dsimp only[aj]);conv=>whnf
 refine And.intro (fun g1=>?_) (fun g1=>?_)
 ·have hjl : j < x.args.length:=by simpa using g1
  have ha:=h3 _ (List.getElem_mem hjl)
  (try dsimp only[aj]);conv=>whnf
  refine iq hjl ?_
  generalize x.args[j] = a at *
  (try dsimp only[aj]);conv=>whnf
  refine And.intro (fun g=>by exfalso; omega) (fun g=>?_)
  (try dsimp only[aj]);conv=>whnf
  refine zA ?_;conv=>whnf
  refine And.intro (fun g=>by exfalso; omega) (fun g=>?_)
  (try dsimp only[aj]);conv=>whnf
  refine zA ?_;conv=>whnf
  refine ⟨j + 1,?_,?_,?_⟩
  ·exact hjl
  ·all_goals exact wk
  ·omega
 (try dsimp only[aj]);conv=>whnf
 refine And.intro (fun g=>?_) (fun g=>?_)
 ·rw [if_pos g] at h4
  (try dsimp only[aj]);conv=>whnf
  refine And.intro (fun g=>?_) (fun g=>?_)
  ·(try dsimp only[aj]);conv=>whnf
   refine And.intro (fun g=>by exfalso; omega) (fun g=>?_)
   (try dsimp only[aj]);conv=>whnf
   refine fM ?_;(conv=>whnf);refine ⟨?_,rfl⟩;conv=>whnf
   all_goals exact wk
  ·(try dsimp only[aj]);conv=>whnf
   refine fM ?_;(conv=>whnf);refine ⟨?_,rfl⟩;conv=>whnf
   all_goals exact wk
 rw [if_neg g] at h4
 (try dsimp only[aj]);conv=>whnf
 refine And.intro (fun g=>?_) (fun g=>?_)
 ·rw [if_pos g] at h4
  (try dsimp only[aj]);conv=>whnf
  refine And.intro (fun g=>by exfalso; omega) (fun g=>?_)
  (try dsimp only[aj]);conv=>whnf
  refine And.intro (fun g=>by exfalso; simp at g; omega) (fun g=>?_)
  (try dsimp only[aj]);conv=>whnf
  refine fM ?_;(conv=>whnf);refine ⟨?_,rfl⟩;conv=>whnf
  all_goals exact wk
 rw [if_neg g] at h4
 (try dsimp only[aj]);conv=>whnf
 refine And.intro (fun g=>by exfalso; omega) (fun g=>?_)
 (try dsimp only[aj]);conv=>whnf
 refine fM ?_;(conv=>whnf);refine ⟨?_,rfl⟩;conv=>whnf
 all_goals exact wk

theorem UO (f : Fo) (h : su f) : aQ Tryz.prog 60 [f.av,.int .i64 f.top] [] .tt []:=by
 obtain ⟨h1,h2,_,h4⟩:=h
 refine aQ.intro lay mixed Tryz.func60 (by kernel_rfl) rfl (by kernel_rfl) rfl fun hok=>?_
 (try dsimp only[aP,aC]);(try dsimp only[aj]);conv=>whnf
 refine And.intro (fun _=>?_) (fun g=>by exfalso; omega)
 (try dsimp only[aj]);conv=>whnf
 refine And.intro (fun _=>?_) (fun g=>by exfalso; omega)
 (try dsimp only[aj]);conv=>whnf
 refine And.intro (fun g=>?_) (fun g=>?_)
 ·(try dsimp only[aj]);conv=>whnf
  refine fM ?_;(conv=>whnf);refine ⟨?_,rfl⟩;conv=>whnf
  all_goals exact wk
 ·(try dsimp only[aj]);conv=>whnf
  refine zA ?_;conv=>whnf
  refine fM ?_;(conv=>whnf);refine ⟨?_,rfl⟩;conv=>whnf
  show f.top - f.vars < (((f.nodes.map Nd.av).length : Nat) : Int)
  simp
  omega

theorem DY (f : Fo) (h : su f) : aQ Tryz.prog 37 [f.av] [] .bH []:=by
 have cv:=UO f h
 obtain ⟨h1,h2,h3,h4⟩:=h
 have cn:=fun i hi=>Iw f h1 i hi h2 (h3 i hi)
 refine aQ.intro lay mixed Tryz.func37 (by kernel_rfl) rfl (by kernel_rfl) rfl fun hok=>?_
 (try dsimp only[aP,aC]);(try dsimp only[aj]);conv=>whnf
 refine And.intro (fun g=>by exfalso; omega) (fun g=>?_)
 (try dsimp only[aj]);conv=>whnf
 refine And.intro (fun g=>by exfalso; omega) (fun g=>?_)
 (try dsimp only[aj]);conv=>whnf
 refine And.intro (fun g=>by exfalso; simp at g; omega) (fun g=>?_)
 (try dsimp only[aj]);conv=>whnf
 refine aN.of <| aA.inv (.refl _ _) (fun (i : Nat)=>i <= f.nodes.length) (fun (i : Nat)=>[(22,.int .i64 i)]) (fun _=>_) (fun (i : Nat)=>f.nodes.length - i) 0 ?_ (fun _=>rfl) ?_ ?_
 ·exact Nat.zero_le _
 ·all_goals exact wk
 intro i hi _
 (try dsimp only[aj]);conv=>whnf
 refine And.intro (fun g1=>?_) (fun g1=>?_)
 ·have hil : i < f.nodes.length:=by simpa using g1
  (try dsimp only[aj]);conv=>whnf
  refine .pure _ _ ?_ ⟨rfl,rfl⟩ (cn i hil) fun _=>?_
  ·exact au _
  (try dsimp only[aj]);conv=>whnf
  refine zA ?_;conv=>whnf
  refine ⟨i + 1,?_,?_,?_⟩
  ·exact hil
  ·all_goals exact wk
  ·omega
 (try dsimp only[aj]);conv=>whnf
 refine .pure _ _ ?_ ⟨rfl,rfl⟩ cv fun _=>?_
 ·exact au _
 (try dsimp only[aj]);conv=>whnf
 refine fM ?_;(conv=>whnf);refine ⟨?_,rfl⟩;conv=>whnf
 all_goals exact wk

theorem UM (f : Fo) (h : su f) (set : Int) (hs : 0 <= set /\ set < 2 ^ f.vars.toNat) : aQ Tryz.prog 22 [f.av,.int .i64 set] [] .bH []:=by
 have cc:=DY f h
 obtain ⟨h1,h2,h3,h4⟩:=h
 refine aQ.intro lay mixed Tryz.func22 (by kernel_rfl) rfl (by kernel_rfl) rfl fun hok=>?_
 (try dsimp only[aP,aC]);(try dsimp only[aj]);conv=>whnf
 refine .pure _ _ ?_ ⟨rfl,rfl⟩ cc fun _=>?_
 ·exact au _
 (try dsimp only[aj]);conv=>whnf
 refine And.intro (fun g=>by exfalso; omega) (fun g=>?_)
 (try dsimp only[aj]);conv=>whnf
 obtain ⟨v,hv⟩ : ∃ v : Nat,f.vars = v:=⟨f.vars.toNat,by omega⟩
 rw [hv] at h1 hs ⊢
 refine ⟨by omega,?_⟩
 rw [jH (by omega)]
 (try dsimp only[aj]);conv=>whnf
 refine And.intro (fun g=>?_) (fun g=>?_)
 ·exfalso
  rw [Int.toNat_natCast] at hs
  have:=hs.2
  push_cast at g
  omega
 (try dsimp only[aj]);conv=>whnf
 refine fM ?_;(conv=>whnf);refine ⟨?_,rfl⟩;conv=>whnf
 all_goals exact wk

def qo (v : List Bool) (args : List Int) : Nat:=args.foldl (fun n a=>if v.getD a.toNat false = true then n + 1 else n) 0

def lU (x : Nd) (n : Nat) : Bool :=
 if x.kind = 0 then decide (x.k = 1) else if x.kind = 1 then decide (n = 0) else if x.kind = 2 then decide (n = x.args.length) else if x.kind = 3 then decide (0 < n)
 else if x.kind = 4 then decide (x.k <= n) else if x.kind = 5 then decide (n % 2 = 1) else false

def AB (v : List Bool) (x : Nd) : List Bool:=v ++ [lU x (qo v x.args)]
def valsF (vars set : Nat) (nodes : List Nd) : List Bool:=nodes.foldl AB (evs vars set)

theorem Ji (vars set : Nat) : ∀ (nodes : List Nd),(valsF vars set nodes).length = vars + nodes.length:=by
 have key : ∀ (l : List Nd) (v : List Bool),(l.foldl AB v).length = v.length + l.length:=by
  intro l
  induction l with
  | nil=>intro v; simp
  | cons x l ih=>intro v; simp only [List.foldl_cons,ih,AB,List.length_append,List.length_cons,List.length_nil]; omega
 intro nodes
 unfold valsF
 rw [key]
 simp [evs]

theorem QT {v : List Bool} {args : List Int} {j : Nat} (h : j < args.length) : qo v (args.take (j + 1)) = if v.getD (args[j]).toNat false = true then qo v (args.take j) + 1 else qo v (args.take j):=by
 unfold qo
 rw [List.take_add_one,List.getElem?_eq_getElem h,List.foldl_append]; rfl

theorem WU (v : List Bool) : ∀ (args : List Int),qo v args <= args.length:=by
 have key : ∀ (l : List Int) (n : Nat),l.foldl (fun n a=>if v.getD a.toNat false = true then n + 1 else n) n <= n + l.length:=by
  intro l
  induction l with
  | nil=>intro n; simp
  | cons a l ih =>
    intro n
    simp only [List.foldl_cons,List.length_cons]
    split
    ·have:=ih (n + 1); omega
    ·have:=ih n; omega
 intro args
 have:=key args 0
 unfold qo
 omega

theorem Ri (f : Fo) (h : su f) (set : Nat) (hs : set < 2 ^ 63) : aQ Tryz.prog 23 [f.av,.int .i64 set] [] (.sl 1 ((valsF f.vars.toNat set f.nodes).map .bool) .no) []:=by
 obtain ⟨h1,h2,h3,h4⟩:=h
 refine aQ.intro lay mixed Tryz.func23 (by kernel_rfl) rfl (by kernel_rfl) rfl fun hok=>?_
 (try dsimp only[aP,aC]);(try dsimp only[aj]);conv=>whnf
 refine ⟨eU (by simp; omega) (by simp; omega),?_⟩
 (try dsimp only[aj]);conv=>whnf
 refine ⟨by refine ⟨by omega,by omega,by simp; omega,by simp; omega⟩,?_⟩
 refine .wr ?_
 (try dsimp only[aj]);conv=>whnf
 refine aN.of <| aA.inv (.refl _ _) (fun i : Nat=>i <= f.vars.toNat) (fun i=>[(24,.int .i64 i)]) (fun i=>[(1,.arr 1 (f.vars + ((f.nodes.map Nd.av).length : Int)).toNat ((List.range i).map (fun j=>AV.bool (set.testBit j)) ++ List.replicate (f.vars.toNat - i) .ff)),(0,.box f.av)]) (fun i=>f.vars.toNat - i) 0 ?_ (fun _=>rfl) ?_ ?_
 ·exact Nat.zero_le _
 ·refine ⟨by (repeat' first|exact rfl|exact trivial|exact wR|exact lR _|apply aI),.mk ?_ ?_⟩
  ·all_goals exact wk
  ·exact ⟨by simp,by simp,trivial⟩
 intro i hi _
 (try dsimp only[aj]);conv=>whnf
 refine And.intro (fun g1=>?_) (fun g1=>?_)
 ·have hlt : i < f.vars.toNat:=by omega
  (try dsimp only[aj]);conv=>whnf
  refine ⟨by omega,?_⟩
  (try dsimp only[aj]);conv=>whnf
  refine ⟨⟨by omega,by omega⟩,?_⟩
  (try dsimp only[aj]);conv=>whnf
  refine ⟨by simp; omega,rfl,?_⟩
  (try dsimp only[aj]);conv=>whnf
  refine zA ?_;conv=>whnf
  refine ⟨i + 1,?_,?_,?_⟩
  ·exact hlt
  ·refine ⟨by (repeat' first|exact rfl|exact trivial|exact wR|exact lR _|apply aI),.mk ?_ ?_⟩
   ·repeat' first|exact rfl|exact trivial|exact wR|exact lR _|apply aI
    ·simp only [Nat.zero_add,Int.toNat_natCast]
     refine Yn hlt ?_
     show _ ↔ _
     rw [ou hs (by omega)]
     cases set.testBit i <;> simp
   ·exact ⟨by simp,by simp,trivial⟩
  ·omega
 have hil : i = f.vars.toNat:=by omega
 subst hil
 clear g1
 have hev : (List.range f.vars.toNat).map (fun j=>AV.bool (set.testBit j)) ++ List.replicate (f.vars.toNat - f.vars.toNat) .ff = (evs f.vars.toNat set).map .bool:=by simp [evs]
 rw [hev]
 (try dsimp only[aj]);conv=>whnf
 refine aN.of <| aA.inv (.keep 5 1 f.vars.toNat _ 1 _ rfl rfl (by simp [evs]) (.refl _ _)) (fun i : Nat=>i <= f.nodes.length) (fun i=>[(39,.int .i64 i),(5,.sl 1 ((valsF f.vars.toNat set (f.nodes.take i)).map .bool) (.own 2))]) (fun i=>[(2,.tok 1 (f.vars.toNat + i)),(1,.gone),(0,.box f.av)]) (fun i=>f.nodes.length - i) 0 ?_ (fun _=>rfl) ?_ ?_
 ·exact Nat.zero_le _
 ·refine ⟨?_,.mk ?_ (by simp [ak])⟩
  ·repeat' first|exact rfl|exact trivial|exact wR|exact lR _|apply aI
   all_goals (refine bM ?_; simp [evs,valsF]; rw [List.take_of_length_le (by simp)]; done)
  ·all_goals exact wk
 intro i hi _
 (try dsimp only[aj]);conv=>whnf
 refine And.intro (fun g1=>?_) (fun g1=>?_)
 ·have hlt : i < f.nodes.length:=by simpa using g1
  have hok:=h3 i hlt
  have hvl:=Ji f.vars.toNat set (f.nodes.take i)
  rw [List.length_take,Nat.min_eq_left hi] at hvl
  have hvs : valsF f.vars.toNat set (f.nodes.take (i + 1)) = AB (valsF f.vars.toNat set (f.nodes.take i)) f.nodes[i]:=by
   unfold valsF
   rw [List.take_add_one,List.getElem?_eq_getElem hlt,List.foldl_append]; rfl
  (try dsimp only[aj]);conv=>whnf
  refine iq hlt ?_
  generalize f.nodes[i] = x at *
  generalize valsF f.vars.toNat set (f.nodes.take i) = V at *
  (try dsimp only[aj]);conv=>whnf
  refine aN.of <| aA.inv (.refl _ _) (fun j : Nat=>j <= x.args.length) (fun j=>[(46,.int .i64 j),(9,.int .i64 (qo V (x.args.take j)))]) (fun _=>(3,.box x.av) :: [(2,.tok 1 (f.vars.toNat + i)),(1,.gone),(0,.box f.av)]) (fun j=>x.args.length - j) 0 ?_ (fun _=>rfl) ?_ ?_
  ·exact Nat.zero_le _
  ·refine ⟨?_,.mk ?_ (by simp [ak])⟩
   ·all_goals exact wk
   ·all_goals exact wk
  intro j hj _
  (try dsimp only[aj]);conv=>whnf
  refine And.intro (fun g2=>?_) (fun g2=>?_)
  ·have hjl : j < x.args.length:=by simpa using g2
   have ha:=hok.args _ (List.getElem_mem hjl)
   have hc:=QT (v:=V) hjl
   have hal16 : x.args.length <= 16:=by
    have hal:=hok.num
    split at hal
    ·omega
    ·split at hal <;> omega
   (try dsimp only[aj]);conv=>whnf
   refine iq hjl ?_
   generalize x.args[j] = a at *
   (try dsimp only[aj]);conv=>whnf
   refine Au false (by rw [hvl]; omega) ?_
   (try dsimp only[aj]);conv=>whnf
   refine And.intro (fun g3=>?_) (fun g3=>?_)
   ·rw [if_pos g3] at hc
    have hcl:=WU V (x.args.take j)
    rw [List.length_take] at hcl
    (try dsimp only[aj]);conv=>whnf
    refine zA ?_;conv=>whnf
    (try dsimp only[aj]);conv=>whnf
    refine zA ?_;conv=>whnf
    refine ⟨j + 1,?_,?_,?_⟩
    ·exact hjl
    ·rw [hc]
     refine ⟨?_,.mk ?_ (by simp [ak])⟩
     ·all_goals exact wk
     ·all_goals exact wk
    ·omega
   ·rw [if_neg (by rw [g3]; simp)] at hc
    (try dsimp only[aj]);conv=>whnf
    refine zA ?_;conv=>whnf
    refine ⟨j + 1,?_,?_,?_⟩
    ·exact hjl
    ·rw [hc]
     refine ⟨?_,.mk ?_ (by simp [ak])⟩
     ·all_goals exact wk
     ·all_goals exact wk
    ·omega
  have hjl : j = x.args.length:=by (have : ¬ j < x.args.length:=by simpa using g2); omega
  subst hjl
  clear g2
  rw [List.take_length]
  have hk:=hok.kind
  have hkk:=hok.k
  have hnd : ∀ b : Bool,lU x (qo V x.args) = b -> valsF f.vars.toNat set (f.nodes.take (i + 1)) = V ++ [b]:=fun b hb=>by rw [hvs,AB,hb]
  clear hvs
  generalize qo V x.args = c at *
  (try dsimp only[aj]);conv=>whnf
  refine And.intro (fun k0=>?_) (fun k0=>?_)
  ·(try dsimp only[aj]);conv=>whnf
   have hb:=hnd (decide (x.k = 1)) (by unfold lU; rw [if_pos k0])
   (try dsimp only[aj]);conv=>whnf
   refine ⟨by rw [List.length_map,hvl],.mk (by simp [maxL]; omega) (by simp; omega) ?_⟩
   (try dsimp only[aj]);conv=>whnf
   refine zA ?_;conv=>whnf
   refine ⟨i + 1,?_,?_,?_⟩
   ·exact hlt
   ·rw [hb]
    refine ⟨?_,.mk ?_ (by simp [ak])⟩
    ·repeat' first|exact rfl|exact trivial|exact wR|exact lR _|apply aI
     all_goals (show gq _ (List.map _ (_ ++ [_])); rw [List.map_append]; refine lC ?_ (lR _); show _ ↔ _; simp; try (first | omega | (rw [show (2 : Int) = ((2 : Nat) : Int) from rfl,pY]; omega)))
    ·repeat' first|exact rfl|exact trivial|exact wR|exact lR _|apply aI
     all_goals first | (simp [hvl]; done) | (simp [hvl]; omega)
   ·omega
  (try dsimp only[aj]);conv=>whnf
  refine And.intro (fun k1=>?_) (fun k1=>?_)
  ·(try dsimp only[aj]);conv=>whnf
   have hb:=hnd (decide (c = 0)) (by unfold lU; rw [if_neg k0,if_pos k1])
   (try dsimp only[aj]);conv=>whnf
   refine ⟨by rw [List.length_map,hvl],.mk (by simp [maxL]; omega) (by simp; omega) ?_⟩
   (try dsimp only[aj]);conv=>whnf
   refine zA ?_;conv=>whnf
   refine ⟨i + 1,?_,?_,?_⟩
   ·exact hlt
   ·rw [hb]
    refine ⟨?_,.mk ?_ (by simp [ak])⟩
    ·repeat' first|exact rfl|exact trivial|exact wR|exact lR _|apply aI
     all_goals (show gq _ (List.map _ (_ ++ [_])); rw [List.map_append]; refine lC ?_ (lR _); show _ ↔ _; simp; try (first | omega | (rw [show (2 : Int) = ((2 : Nat) : Int) from rfl,pY]; omega)))
    ·repeat' first|exact rfl|exact trivial|exact wR|exact lR _|apply aI
     all_goals first | (simp [hvl]; done) | (simp [hvl]; omega)
   ·omega
  (try dsimp only[aj]);conv=>whnf
  refine And.intro (fun k2=>?_) (fun k2=>?_)
  ·(try dsimp only[aj]);conv=>whnf
   have hb:=hnd (decide (c = x.args.length)) (by unfold lU; rw [if_neg k0,if_neg k1,if_pos k2])
   (try dsimp only[aj]);conv=>whnf
   refine ⟨by rw [List.length_map,hvl],.mk (by simp [maxL]; omega) (by simp; omega) ?_⟩
   (try dsimp only[aj]);conv=>whnf
   refine zA ?_;conv=>whnf
   refine ⟨i + 1,?_,?_,?_⟩
   ·exact hlt
   ·rw [hb]
    refine ⟨?_,.mk ?_ (by simp [ak])⟩
    ·repeat' first|exact rfl|exact trivial|exact wR|exact lR _|apply aI
     all_goals (show gq _ (List.map _ (_ ++ [_])); rw [List.map_append]; refine lC ?_ (lR _); show _ ↔ _; simp; try (first | omega | (rw [show (2 : Int) = ((2 : Nat) : Int) from rfl,pY]; omega)))
    ·repeat' first|exact rfl|exact trivial|exact wR|exact lR _|apply aI
     all_goals first | (simp [hvl]; done) | (simp [hvl]; omega)
   ·omega
  (try dsimp only[aj]);conv=>whnf
  refine And.intro (fun k3=>?_) (fun k3=>?_)
  ·(try dsimp only[aj]);conv=>whnf
   have hb:=hnd (decide (0 < c)) (by unfold lU; rw [if_neg k0,if_neg k1,if_neg k2,if_pos k3])
   (try dsimp only[aj]);conv=>whnf
   refine ⟨by rw [List.length_map,hvl],.mk (by simp [maxL]; omega) (by simp; omega) ?_⟩
   (try dsimp only[aj]);conv=>whnf
   refine zA ?_;conv=>whnf
   refine ⟨i + 1,?_,?_,?_⟩
   ·exact hlt
   ·rw [hb]
    refine ⟨?_,.mk ?_ (by simp [ak])⟩
    ·repeat' first|exact rfl|exact trivial|exact wR|exact lR _|apply aI
     all_goals (show gq _ (List.map _ (_ ++ [_])); rw [List.map_append]; refine lC ?_ (lR _); show _ ↔ _; simp; try (first | omega | (rw [show (2 : Int) = ((2 : Nat) : Int) from rfl,pY]; omega)))
    ·repeat' first|exact rfl|exact trivial|exact wR|exact lR _|apply aI
     all_goals first | (simp [hvl]; done) | (simp [hvl]; omega)
   ·omega
  (try dsimp only[aj]);conv=>whnf
  refine And.intro (fun k4=>?_) (fun k4=>?_)
  ·(try dsimp only[aj]);conv=>whnf
   have hb:=hnd (decide (x.k <= c)) (by unfold lU; rw [if_neg k0,if_neg k1,if_neg k2,if_neg k3,if_pos k4])
   (try dsimp only[aj]);conv=>whnf
   refine ⟨by rw [List.length_map,hvl],.mk (by simp [maxL]; omega) (by simp; omega) ?_⟩
   (try dsimp only[aj]);conv=>whnf
   refine zA ?_;conv=>whnf
   refine ⟨i + 1,?_,?_,?_⟩
   ·exact hlt
   ·rw [hb]
    refine ⟨?_,.mk ?_ (by simp [ak])⟩
    ·repeat' first|exact rfl|exact trivial|exact wR|exact lR _|apply aI
     all_goals (show gq _ (List.map _ (_ ++ [_])); rw [List.map_append]; refine lC ?_ (lR _); show _ ↔ _; simp; try (first | omega | (rw [show (2 : Int) = ((2 : Nat) : Int) from rfl,pY]; omega)))
    ·repeat' first|exact rfl|exact trivial|exact wR|exact lR _|apply aI
     all_goals first | (simp [hvl]; done) | (simp [hvl]; omega)
   ·omega
  (try dsimp only[aj]);conv=>whnf
  refine And.intro (fun k5=>?_) (fun k5=>by exfalso; omega)
  (try dsimp only[aj]);conv=>whnf
  refine ⟨by decide,?_⟩
  (try dsimp only[aj]);conv=>whnf
  have hb:=hnd (decide (c % 2 = 1)) (by unfold lU; rw [if_neg k0,if_neg k1,if_neg k2,if_neg k3,if_neg k4,if_pos k5])
  (try dsimp only[aj]);conv=>whnf
  refine ⟨by rw [List.length_map,hvl],.mk (by simp [maxL]; omega) (by simp; omega) ?_⟩
  (try dsimp only[aj]);conv=>whnf
  refine zA ?_;conv=>whnf
  refine ⟨i + 1,?_,?_,?_⟩
  ·exact hlt
  ·rw [hb]
   refine ⟨?_,.mk ?_ (by simp [ak])⟩
   ·repeat' first|exact rfl|exact trivial|exact wR|exact lR _|apply aI
    all_goals (show gq _ (List.map _ (_ ++ [_])); rw [List.map_append]; refine lC ?_ (lR _); show _ ↔ _; simp; try (first | omega | (rw [show (2 : Int) = ((2 : Nat) : Int) from rfl,pY]; omega)))
   ·repeat' first|exact rfl|exact trivial|exact wR|exact lR _|apply aI
    all_goals first | (simp [hvl]; done) | (simp [hvl]; omega)
  ·omega
 have hil : i = f.nodes.length:=by (have : ¬ i < f.nodes.length:=by simpa using g1); omega
 subst hil
 rw [List.take_length]
 (try dsimp only[aj]);conv=>whnf
 refine ⟨⟨_,_,.refl _ _,?_⟩⟩
 conv=>whnf
 refine ⟨?_,rfl,by simp [nextId],.mk ?_ (by simp [ak])⟩
 ·all_goals exact wk
 ·all_goals exact wk

theorem kT (f : Fo) (h : su f) (set : Nat) (hs : set < 2 ^ f.vars.toNat) : aQ Tryz.prog 8 [f.av,.int .i64 set] [] (.dA [.bool ((valsF f.vars.toNat set f.nodes).getD f.top.toNat false),.bH]) []:=by
 have h1:=h.vars
 have hs2 : set < 2 ^ 63:=Nat.lt_of_lt_of_le hs (Nat.pow_le_pow_right (by decide) (by omega))
 have hs3 : (set : Int) < 2 ^ f.vars.toNat:=by
  have : ((set : Nat) : Int) < ((2 ^ f.vars.toNat : Nat) : Int):=by exact_mod_cast hs
  simpa using this
 have cc:=UM f h set ⟨by omega,hs3⟩
 have cv:=Ri f h set hs2
 have hl:=Ji f.vars.toNat set f.nodes
 have ht:=h.top
 generalize valsF f.vars.toNat set f.nodes = V at *
 refine aQ.intro lay mixed Tryz.func8 (by kernel_rfl) rfl (by kernel_rfl) rfl fun hok=>?_
 (try dsimp only[aP,aC]);(try dsimp only[aj]);conv=>whnf
 refine .pure _ _ ?_ ⟨rfl,rfl⟩ cc fun _=>?_
 ·exact au _
 (try dsimp only[aj]);conv=>whnf
 refine aY.auto (by kernel_rfl) ?_;conv=>whnf
 refine dV.pure _ _ ?_ ⟨rfl,rfl⟩ cv ?_
 ·exact au _
 (try dsimp only[aj]);conv=>whnf
 refine Au false (by rw [hl]; omega) ?_
 (try dsimp only[aj]);conv=>whnf
 refine fM ?_;(conv=>whnf);refine ⟨?_,rfl⟩;conv=>whnf
 all_goals exact wk


theorem Ik {l : List Int} {i j : Nat} {x : Int} (hi : i < l.length) : (l.set i x).getD j 0 = if j = i then x else l.getD j 0:=by
 rw [List.getD_eq_getElem?_getD,List.getElem?_set]
 by_cases h : i = j
 ·subst h
  rw [if_pos rfl,if_pos hi,if_pos rfl]; rfl
 ·rw [if_neg h,if_neg (fun e=>h e.symm),List.getD_eq_getElem?_getD]




end S

open Go Go.AL Go.Proofs
namespace Go.AL
section
variable {P : Program} {ops : Array Oper} {Q : Exit -> Act -> World -> Prop} {a : Act} {w : World} {o : Oper} {l : List Oper}

end
end Go.AL

namespace S
set_option maxRecDepth 100000

end S

open Go Go.AL Go.Proofs
namespace Go.AL
section
variable {P : Program} {L : Lay} {ops : Array Oper} {Q : Exit -> Act -> World -> Prop} {a : Act} {w : World} {o : Oper} {l : List Oper}

end
end Go.AL

namespace S
set_option maxRecDepth 100000

section
variable {w : World} {Im : Nat -> Nat -> Prop}

end




def qg (d : List Bool) (args : List Int) : List Bool:=args.foldl (fun d a=>d.set a.toNat true) d

theorem uH : ∀ (args : List Int) (d : List Bool),(qg d args).length = d.length
 | [],_=>rfl
 | a :: l,d=>by show (qg (d.set a.toNat true) l).length = _; rw [uH l]; simp

theorem zo {d : List Bool} {i j : Nat} : (d.set i true).getD j false = true ↔ d.getD j false = true \/ (j < d.length /\ i = j):=by
 rw [List.getD_eq_getElem?_getD,List.getD_eq_getElem?_getD,List.getElem?_set]
 by_cases h : i = j
 ·subst h
  rw [if_pos rfl]
  by_cases hl : i < d.length
  ·rw [if_pos hl]; simp [hl]
  ·rw [if_neg hl]; simp [hl]
 ·rw [if_neg h]; simp [h]

theorem uI : ∀ (args : List Int) (d : List Bool) (j : Nat),(qg d args).getD j false = true ↔ d.getD j false = true \/ (j < d.length /\ ∃ a ∈ args,a.toNat = j)
 | [],d,j=>by simp [qg]
 | a :: l,d,j=>by
   show (qg (d.set a.toNat true) l).getD j false = true ↔ _
   rw [uI l,zo]
   simp only [List.length_set,List.mem_cons]
   constructor
   ·rintro ((h | ⟨h1,h2⟩) | ⟨h1,b,h2,h3⟩)
    ·exact .inl h
    ·exact .inr ⟨h1,a,.inl rfl,h2⟩
    ·exact .inr ⟨h1,b,.inr h2,h3⟩
   ·rintro (h | ⟨h1,b,rfl | h2,h3⟩)
    ·exact .inl (.inl h)
    ·exact .inl (.inr ⟨h1,h3⟩)
    ·exact .inr ⟨h1,b,h2,h3⟩

theorem CS {d : List Bool} {args : List Int} {j : Nat} (h : j < args.length) : qg d (args.take (j + 1)) = (qg d (args.take j)).set args[j].toNat true:=by
 unfold qg
 rw [List.take_add_one,List.getElem?_eq_getElem h,List.foldl_append]; rfl

def argsAt (l : List Nd) (i : Nat) : List Int:=(l.getD i default).args

def lZ (v : Nat) (l : List Nd) (top : Nat) : Nat -> List Bool
 | 0=>(List.replicate (v + l.length) false).set top true
 | k + 1=>if (lZ v l top k).getD (v + (l.length - 1 - k)) false = true then qg (lZ v l top k) (argsAt l (l.length - 1 - k)) else lZ v l top k

def belF (v : Nat) (l : List Nd) (top : Nat) : List Bool:=lZ v l top l.length

theorem jE (v : Nat) (l : List Nd) (top : Nat) : ∀ k,(lZ v l top k).length = v + l.length
 | 0=>by simp [lZ]
 | k + 1=>by
   unfold lZ
   split
   ·rw [uH,jE]
   ·exact jE v l top k

inductive Y9 (v : Nat) (l : List Nd) (top : Nat) : Nat -> Prop
 | root : Y9 v l top top
 | step {i : Nat} {a : Int} (h : Y9 v l top (v + i)) (hi : i < l.length) (ha : a ∈ argsAt l i) : Y9 v l top a.toNat

theorem KY {v : Nat} {l : List Nd} {top : Nat} (ht : top < v + l.length) (hw : ∀ i < l.length,∀ a ∈ argsAt l i,0 <= a /\ a < (v : Int) + i) : ∀ k,k <= l.length ->
  (∀ j,(lZ v l top k).getD j false = true -> Y9 v l top j) /\ (lZ v l top k).getD top false = true /\
  ∀ i,l.length <= i + k -> i < l.length -> (lZ v l top k).getD (v + i) false = true -> ∀ a ∈ argsAt l i,(lZ v l top k).getD a.toNat false = true
 | 0,_=>by
   refine ⟨fun j h=>?_,?_,fun i h1 h2=>by omega⟩
   ·unfold lZ at h
    rw [zo] at h
    rcases h with h | ⟨_,rfl⟩
    ·rw [List.getD_eq_getElem?_getD,List.getElem?_replicate] at h
     split at h <;> cases h
    ·exact .root
   ·unfold lZ
    rw [zo]
    exact .inr ⟨by simpa using ht,rfl⟩
 | k + 1,hk=>by
   obtain ⟨h1,h2,h3⟩:=KY ht hw k (by omega)
   have hl:=jE v l top k
   unfold lZ
   split
   ·rename_i hm
    refine ⟨fun j h=>?_,?_,fun i g1 g2 g3 a ha=>?_⟩
    ·rw [uI] at h
     rcases h with h | ⟨_,a,ha,rfl⟩
     ·exact h1 j h
     ·exact .step (h1 _ hm) (by omega) ha
    ·rw [uI]; exact .inl h2
    ·rw [uI] at g3 ⊢
     by_cases e : i = l.length - 1 - k
     ·subst e
      have:=hw _ g2 a ha
      exact .inr ⟨by rw [hl]; omega,a,ha,rfl⟩
     ·rcases g3 with g3 | ⟨_,b,hb,g4⟩
      ·exact .inl (h3 i (by omega) g2 g3 a ha)
      ·have:=hw _ (by omega) b hb
       omega
   ·rename_i hm
    refine ⟨h1,h2,fun i g1 g2 g3 a ha=>?_⟩
    by_cases e : i = l.length - 1 - k
    ·subst e; exact absurd g3 hm
    ·exact h3 i (by omega) g2 g3 a ha

theorem Eb {v : Nat} {l : List Nd} {top : Nat} (ht : top < v + l.length) (hw : ∀ i < l.length,∀ a ∈ argsAt l i,0 <= a /\ a < (v : Int) + i) (j : Nat) : (belF v l top).getD j false = true ↔ Y9 v l top j:=by
 obtain ⟨h1,h2,h3⟩:=KY ht hw l.length (Nat.le_refl _)
 refine ⟨h1 j,fun h=>?_⟩
 unfold belF
 induction h with
 | root=>exact h2
 | step _ hi ha ih=>exact h3 _ (by omega) hi ih _ ha

theorem su.args {f : Fo} (h : su f) : ∀ i < f.nodes.length,∀ a ∈ argsAt f.nodes i,0 <= a /\ a < (f.vars.toNat : Int) + i:=by
 intro i hi a ha
 have hv:=h.vars
 unfold argsAt at ha
 rw [List.getD_eq_getElem?_getD,List.getElem?_eq_getElem hi] at ha
 have:=(h.nodes i hi).args a ha
 omega

theorem zf {A : AV} (h : pK A (.bool true)) : ∀ (d : List Bool) (i : Nat),gq ((d.map AV.bool).set i A) ((d.set i true).map AV.bool)
 | [],_=>trivial
 | _ :: _,0=>⟨h,bK _⟩
 | _ :: d,i + 1=>⟨nV _,zf h d i⟩
theorem zh {A : AV} (h : pK A (.bool true)) : ∀ (n i : Nat),gq ((List.replicate n AV.ff).set i A) (((List.replicate n false).set i true).map AV.bool)
 | 0,_=>trivial
 | n + 1,0=>⟨h,by
     show gq (List.replicate n AV.ff) ((List.replicate n false).map AV.bool)
     induction n with
     | zero=>trivial
     | succ n ih=>exact ⟨rfl,ih⟩⟩
 | n + 1,i + 1=>⟨rfl,zh h n i⟩

theorem UN (f : Fo) (h : su f) : aQ Tryz.prog 79 [f.av] [] (.sl 1 ((belF f.vars.toNat f.nodes f.top.toNat).map .bool) .no) []:=by
 have hw:=h.args
 obtain ⟨h1,h2,h3,h4⟩:=h
 have htn : f.top.toNat < f.vars.toNat + f.nodes.length:=by omega
 refine aQ.intro lay mixed Tryz.func79 (by kernel_rfl) rfl (by kernel_rfl) rfl fun hok=>?_
 (try dsimp only[aP,aC]);(try dsimp only[aj]);conv=>whnf
 refine ⟨eU (by simp; omega) (by simp; omega),?_⟩
 (try dsimp only[aj]);conv=>whnf
 refine ⟨by refine ⟨by omega,by omega,by simp; omega,by simp; omega⟩,?_⟩
 refine .wr ?_
 (try dsimp only[aj]);conv=>whnf
 refine ⟨⟨by omega,by simp; omega⟩,?_⟩
 (try dsimp only[aj]);conv=>whnf
 refine ⟨by simp; omega,rfl,?_⟩
 (try dsimp only[aj]);conv=>whnf
 refine ⟨eU (by simp; omega) (by simp; omega),?_⟩
 (try dsimp only[aj]);conv=>whnf
 refine aN.of <| aA.inv (.refl _ _) (fun k : Nat=>k <= f.nodes.length) (fun k=>[(4,.int .i64 ((f.nodes.length : Int) - 1 - k))]) (fun k=>[(1,.arr 1 (f.vars + ((f.nodes.map Nd.av).length : Int)).toNat ((lZ f.vars.toNat f.nodes f.top.toNat k).map .bool)),(0,.box f.av)]) (fun k=>f.nodes.length - k) 0 ?_ (fun _=>rfl) ?_ ?_
 ·exact Nat.zero_le _
 ·refine ⟨?_,.mk ?_ ?_⟩
  ·repeat' first|exact rfl|exact trivial|exact wR|exact lR _|apply aI
   all_goals (simp; done)
  ·repeat' first|exact rfl|exact trivial|exact wR|exact lR _|apply aI
   all_goals (rw [Nat.zero_add,show (f.vars + ((f.nodes.map Nd.av).length : Int)).toNat = f.vars.toNat + f.nodes.length by simp; omega]; refine zh ?_ _ _; first | exact rfl | (show _ ↔ _; simp))
  ·exact ⟨by simp,by simp,trivial⟩
 intro k hk _
 have hbl:=jE f.vars.toNat f.nodes f.top.toNat k
 (try dsimp only[aj]);conv=>whnf
 refine And.intro (fun g1=>?_) (fun g1=>?_)
 ·have hlt : k < f.nodes.length:=by omega
  have hb1 : lZ f.vars.toNat f.nodes f.top.toNat (k + 1) = if (lZ f.vars.toNat f.nodes f.top.toNat k).getD (f.vars.toNat + (f.nodes.length - 1 - k)) false = true then qg (lZ f.vars.toNat f.nodes f.top.toNat k) (argsAt f.nodes (f.nodes.length - 1 - k)) else lZ f.vars.toNat f.nodes f.top.toNat k:=rfl
  have hai:=hw (f.nodes.length - 1 - k) (by omega)
  have hia : f.nodes.length - 1 - k < f.nodes.length:=by omega
  have hae : argsAt f.nodes (f.nodes.length - 1 - k) = (f.nodes[f.nodes.length - 1 - k]).args:=by unfold argsAt; rw [List.getD_eq_getElem?_getD,List.getElem?_eq_getElem hia]; rfl
  rw [hae] at hb1 hai
  have hnl : (f.nodes[f.nodes.length - 1 - k]).args.length <= 16:=by
   have hal:=(h3 _ hia).num
   split at hal
   ·omega
   ·split at hal <;> omega
  generalize lZ f.vars.toNat f.nodes f.top.toNat k = d at *
  rw [show (f.nodes.length : Int) - 1 - k = ((f.nodes.length - 1 - k : Nat) : Int) by omega]
  (try dsimp only[aj]);conv=>whnf
  refine ⟨eU (by omega) (by omega),?_⟩
  (try dsimp only[aj]);conv=>whnf
  refine ⟨⟨by omega,by simp; omega⟩,?_⟩
  (try dsimp only[aj]);conv=>whnf
  rw [show 0 + (f.vars + ((f.nodes.length - 1 - k : Nat) : Int)).toNat = f.vars.toNat + (f.nodes.length - 1 - k) by omega]
  refine Au false (by simp; omega) ?_
  (try dsimp only[aj]);conv=>whnf
  refine ⟨rfl,?_⟩
  (try dsimp only[aj]);conv=>whnf
  refine And.intro (fun g2=>?_) (fun g2=>?_)
  ·rw [Int.toNat_natCast] at g2
   rw [if_pos g2] at hb1
   (try dsimp only[aj]);conv=>whnf
   refine iq hia ?_
   generalize f.nodes[f.nodes.length - 1 - k] = x at *
   (try dsimp only[aj]);conv=>whnf
   refine aN.of <| aA.inv (.refl _ _) (fun j : Nat=>j <= x.args.length) (fun j=>[(40,.int .i64 j)]) (fun j=>[(1,.arr 1 (f.vars + ((f.nodes.map Nd.av).length : Int)).toNat ((qg d (x.args.take j)).map .bool)),(0,.box f.av)]) (fun j=>x.args.length - j) 0 ?_ (fun _=>rfl) ?_ ?_
   ·exact Nat.zero_le _
   ·refine ⟨?_,.mk ?_ ?_⟩
    ·all_goals exact wk
    ·all_goals exact wk
    ·exact ⟨by simp,by simp,trivial⟩
   intro j hj _
   have hml:=uH (x.args.take j) d
   (try dsimp only[aj]);conv=>whnf
   refine And.intro (fun g3=>?_) (fun g3=>?_)
   ·have hjl : j < x.args.length:=by simpa using g3
    have hmt:=CS (d:=d) hjl
    have ha:=hai _ (List.getElem_mem hjl)
    (try dsimp only[aj]);conv=>whnf
    refine iq hjl ?_
    generalize x.args[j] = a at *
    (try dsimp only[aj]);conv=>whnf
    refine ⟨⟨by omega,by simp; omega⟩,?_⟩
    (try dsimp only[aj]);conv=>whnf
    refine ⟨by simp; omega,rfl,?_⟩
    (try dsimp only[aj]);conv=>whnf
    refine zA ?_;conv=>whnf
    refine ⟨j + 1,?_,?_,?_⟩
    ·exact hjl
    ·rw [hmt]
     refine ⟨?_,.mk ?_ ?_⟩
     ·all_goals exact wk
     ·repeat' first|exact rfl|exact trivial|exact wR|exact lR _|apply aI
      all_goals (rw [Nat.zero_add]; refine zf ?_ _ _; first | exact rfl | (show _ ↔ _; simp))
     ·exact ⟨by simp,by simp,trivial⟩
    ·omega
   have hjl : j = x.args.length:=by (have : ¬ j < x.args.length:=by simpa using g3); omega
   subst hjl
   clear g3
   rw [List.take_length,<- hb1]
   (try dsimp only[aj]);conv=>whnf
   refine ⟨eU (by omega) (by omega),?_⟩
   (try dsimp only[aj]);conv=>whnf
   refine ⟨k + 1,?_,?_,?_⟩
   ·exact hlt
   ·refine ⟨?_,.mk ?_ ?_⟩
    ·repeat' first|exact rfl|exact trivial|exact wR|exact lR _|apply aI
     all_goals (push_cast; omega)
    ·all_goals exact wk
    ·exact ⟨by simp,by simp,trivial⟩
   ·omega
  ·rw [Int.toNat_natCast] at g2
   rw [if_neg (by rw [g2]; simp)] at hb1
   rw [<- hb1]
   (try dsimp only[aj]);conv=>whnf
   refine ⟨eU (by omega) (by omega),?_⟩
   (try dsimp only[aj]);conv=>whnf
   refine ⟨k + 1,?_,?_,?_⟩
   ·exact hlt
   ·refine ⟨?_,.mk ?_ ?_⟩
    ·repeat' first|exact rfl|exact trivial|exact wR|exact lR _|apply aI
     all_goals (push_cast; omega)
    ·all_goals exact wk
    ·exact ⟨by simp,by simp,trivial⟩
   ·omega
 have hkl : k = f.nodes.length:=by omega
 subst hkl
 (try dsimp only[aj]);conv=>whnf
 refine ⟨⟨_,_,.keep 2 1 _ _ _ _ rfl rfl ?_ (.refl _ _),?_⟩⟩
 ·have:=jE f.vars.toNat f.nodes f.top.toNat f.nodes.length
  simp [this]; omega
 conv=>whnf
 refine ⟨?_,rfl,by simp [nextId],.mk ?_ (by simp [ak])⟩
 ·repeat' first|exact rfl|exact trivial|exact wR|exact lR _|apply aI
  all_goals (refine bM ?_; rw [List.take_of_length_le (by rw [List.length_map,jE]; simp; omega)]; rfl)
 ·all_goals exact wk



def dS (l0 : List Bool) (nodes : List Nd) : List Bool:=nodes.foldl AB l0

theorem Fh (l0 : List Bool) : ∀ (nodes : List Nd),(dS l0 nodes).length = l0.length + nodes.length:=by
 intro nodes
 unfold dS
 induction nodes generalizing l0 with
 | nil=>simp
 | cons x l ih=>rw [List.foldl_cons,ih]; simp [AB]; omega

theorem PZ (l0 : List Bool) (l r : List Nd) : ∃ t,dS l0 (l ++ r) = dS l0 l ++ t:=by
 unfold dS
 rw [List.foldl_append]
 generalize l.foldl AB l0 = u
 induction r generalizing u with
 | nil=>exact ⟨[],by simp⟩
 | cons x r ih =>
   obtain ⟨t,ht⟩:=ih (AB u x)
   exact ⟨[lU x (qo u x.args)] ++ t,by rw [List.foldl_cons,ht]; simp [AB]⟩

theorem kL (l0 : List Bool) (l r : List Nd) {j : Nat} (h : j < l0.length + l.length) : (dS l0 (l ++ r)).getD j false = (dS l0 l).getD j false:=by
 obtain ⟨t,ht⟩:=PZ l0 l r
 rw [ht,List.getD_eq_getElem?_getD,List.getElem?_append_left (by rw [Fh]; exact h),<- List.getD_eq_getElem?_getD]

theorem BP (l0 : List Bool) (l : List Nd) {k : Nat} (h : k < l.length) : (dS l0 l).getD (l0.length + k) false = lU l[k] (qo (dS l0 (l.take k)) l[k].args):=by
 have e : l = (l.take k ++ [l[k]]) ++ l.drop (k + 1):=by rw [<- List.take_succ_eq_append_getElem h,List.take_append_drop]
 have hl : (l.take k).length = k:=by rw [List.length_take]; omega
 have:=kL l0 (l.take k ++ [l[k]]) (l.drop (k + 1)) (j:=l0.length + k) (by simp; omega)
 rw [<- e] at this
 rw [this]
 unfold dS
 rw [List.foldl_append]
 show ((AB (dS l0 (l.take k)) l[k]).getD _ false) = _
 have hv:=Fh l0 (l.take k)
 rw [hl] at hv
 unfold AB
 rw [List.getD_eq_getElem?_getD,List.getElem?_append_right (by omega),hv,Nat.sub_self]; rfl

theorem BO (l0 : List Bool) (l : List Nd) {j k : Nat} (h : j < l0.length + k) (hk : k <= l.length) : (dS l0 (l.take k)).getD j false = (dS l0 l).getD j false:=by
 have:=kL l0 (l.take k) (l.drop k) (j:=j) (by rw [List.length_take]; omega)
 rw [List.take_append_drop] at this
 exact this.symm

theorem DL {u w : List Bool} {f : Int -> Int} : ∀ {args : List Int},(∀ a ∈ args,u.getD (f a).toNat false = w.getD a.toNat false) -> qo u (args.map f) = qo w args:=by
 have key : ∀ (args : List Int) (n : Nat),(∀ a ∈ args,u.getD (f a).toNat false = w.getD a.toNat false) -> (args.map f).foldl (fun n a=>if u.getD a.toNat false = true then n + 1 else n) n = args.foldl (fun n a=>if w.getD a.toNat false = true then n + 1 else n) n:=by
  intro args
  induction args with
  | nil=>intro n _; rfl
  | cons a l ih =>
    intro n h
    rw [List.map_cons,List.foldl_cons,List.foldl_cons,h a (by simp)]
    exact ih _ fun b hb=>h b (by simp [hb])
 intro args h
 exact key args 0 h

theorem Qp {k n : Int} {a b : List Int} (h : a.length = b.length) (c : Nat) : lU ⟨k,n,a⟩ c = lU ⟨k,n,b⟩ c:=by
 unfold lU; simp only [h]

def VF (to : List Int) (a : Int) : Int:=to.getD a.toNat 0
def Jl (to : List Int) (x : Nd) : Nd:=⟨x.kind,x.k,x.args.map (VF to)⟩

def I7 (v : Nat) (l : List Nd) (d : List Bool) : Nat -> List Int × List Nd
 | 0=>((List.range v).map (fun i : Nat=>(i : Int)) ++ List.replicate l.length 0,[])
 | k + 1=>if d.getD (v + k) false = true then ((I7 v l d k).1.set (v + k) ((v : Int) + (I7 v l d k).2.length),(I7 v l d k).2 ++ [Jl (I7 v l d k).1 (l.getD k default)]) else I7 v l d k

structure TrI (v : Nat) (l : List Nd) (d : List Bool) (k : Nat) (s : List Int × List Nd) : Prop where
 len : s.1.length = v + l.length
 out : s.2.length <= k
 ref : ∀ j : Nat,j < v + k -> (j < v \/ d.getD j false = true) -> 0 <= s.1.getD j 0 /\ s.1.getD j 0 < (v : Int) + s.2.length
 nd : ∀ (i : Nat) (h : i < s.2.length),IX v i s.2[i]
 val : ∀ l0 : List Bool,l0.length = v -> ∀ j : Nat,j < v + k -> (j < v \/ d.getD j false = true) -> (dS l0 s.2).getD (s.1.getD j 0).toNat false = (dS l0 l).getD j false

theorem Om {v : Nat} {l : List Nd} {d : List Bool} (hn : ∀ (i : Nat) (h : i < l.length),IX v i l[i]) (hd : ∀ i < l.length,d.getD (v + i) false = true -> ∀ a ∈ argsAt l i,a < (v : Int) \/ d.getD a.toNat false = true) :
  ∀ k,k <= l.length -> TrI v l d k (I7 v l d k)
 | 0,_=>by
   have h0 : ∀ j : Nat,j < v -> ((List.range v).map (fun i : Nat=>(i : Int)) ++ List.replicate l.length 0).getD j 0 = (j : Int):=fun j hj=>by
    rw [List.getD_eq_getElem?_getD,List.getElem?_append_left (by simpa using hj),List.getElem?_map,List.getElem?_range hj]; rfl
   refine ⟨by simp [I7],Nat.le_refl _,fun j hj _=>?_,fun i h=>absurd h (Nat.not_lt_zero _),fun l0 hl j hj _=>?_⟩
   ·show 0 <= (_ ++ _ : List Int).getD j 0 /\ (_ ++ _ : List Int).getD j 0 < _
    rw [h0 j hj]; simp [I7]; omega
   ·show (dS l0 []).getD ((_ ++ _ : List Int).getD j 0).toNat false = _
    rw [h0 j hj,Int.toNat_natCast]
    have:=kL l0 [] l (j:=j) (by simp; omega)
    exact this.symm
 | k + 1,hk=>by
   have ih:=Om hn hd k (by omega)
   have hkl : k < l.length:=by omega
   have ex : l.getD k default = l[k]:=by rw [List.getD_eq_getElem?_getD,List.getElem?_eq_getElem hkl]; rfl
   have ea : argsAt l k = l[k].args:=by unfold argsAt; rw [ex]
   unfold I7
   generalize I7 v l d k = s at *
   obtain ⟨i1,i2,i3,i4,i5⟩:=ih
   split
   ·rename_i hm
    have nk:=hn k hkl
    have hda:=hd k hkl hm
    rw [ea] at hda
    rw [ex]
    have aok : ∀ a ∈ l[k].args,0 <= a /\ a.toNat < v + k /\ (a.toNat < v \/ d.getD a.toNat false = true):=fun a ha=>by
     have h1:=nk.args a ha
     exact ⟨h1.1,by omega,(hda a ha).imp (fun h=>by omega) id⟩
    have hg : ∀ j,(s.1.set (v + k) ((v : Int) + s.2.length)).getD j 0 = if j = v + k then (v : Int) + s.2.length else s.1.getD j 0:=fun j=>Ik (by omega)
    refine ⟨by simp [i1],by simp; omega,fun j hj hjd=>?_,fun i hi=>?_,fun l0 hl j hj hjd=>?_⟩
    ·dsimp only
     rw [hg]
     split
     ·simp; omega
     ·rename_i hne
      have h5:=i3 j (by omega) hjd
      refine ⟨h5.1,?_⟩
      rw [List.length_append,List.length_singleton]
      omega
    ·dsimp only at hi ⊢
     by_cases hlt : i < s.2.length
     ·rw [List.getElem_append_left hlt]; exact i4 i hlt
     ·obtain rfl : i = s.2.length:=by simp at hi; omega
      rw [List.getElem_append_right (Nat.le_refl _)]
      simp only [Nat.sub_self,List.getElem_cons_zero]
      refine ⟨nk.kind,?_,fun a ha=>?_,?_⟩
      ·simp only [Jl,List.length_map]; exact nk.num
      ·obtain ⟨b,hb,rfl⟩:=List.mem_map.1 ha
       have h1:=aok b hb
       exact i3 b.toNat h1.2.1 h1.2.2
      ·simp only [Jl,List.length_map]; exact nk.k
    ·dsimp only
     rw [hg]
     split
     ·rename_i e
      subst e
      rw [show ((v : Int) + (s.2.length : Int)).toNat = l0.length + s.2.length by omega]
      have h1:=BP l0 (s.2 ++ [Jl s.1 l[k]]) (k:=s.2.length) (by simp)
      have h2:=BP l0 l hkl
      rw [h1,<- hl,h2,List.take_left']
      ·simp only [List.getElem_append_right (Nat.le_refl _),Nat.sub_self,List.getElem_cons_zero]
       have hc : qo (dS l0 s.2) (Jl s.1 l[k]).args = qo (dS l0 (l.take k)) l[k].args:=by
        refine DL fun a ha=>?_
        have h3:=aok a ha
        rw [BO l0 l (by omega) (by omega)]
        exact i5 l0 hl a.toNat h3.2.1 h3.2.2
       rw [hc]
       exact Qp (by simp) _
      ·rfl
     ·rename_i hne
      have h3:=i3 j (by omega) hjd
      rw [kL l0 s.2 _ (by omega)]
      exact i5 l0 hl j (by omega) hjd
   ·rename_i hm
    refine ⟨i1,by omega,fun j hj hjd=>?_,i4,fun l0 hl j hj hjd=>?_⟩
    ·rcases Nat.lt_or_ge j (v + k) with h | h
     ·exact i3 j h hjd
     ·obtain rfl : j = v + k:=by omega
      rcases hjd with h' | h'
      ·omega
      ·exact absurd h' hm
    ·rcases Nat.lt_or_ge j (v + k) with h | h
     ·exact i5 l0 hl j h hjd
     ·obtain rfl : j = v + k:=by omega
      rcases hjd with h' | h'
      ·omega
      ·exact absurd h' hm

def Ba (f : Fo) : List Bool:=belF f.vars.toNat f.nodes f.top.toNat
def P7 (f : Fo) (k : Nat) : List Int × List Nd:=I7 f.vars.toNat f.nodes (Ba f) k
def trimF (f : Fo) : Fo:=⟨f.vars,(P7 f f.nodes.length).2,VF (P7 f f.nodes.length).1 f.top⟩

theorem Oj (f : Fo) (h : su f) (k : Nat) (hk : k <= f.nodes.length) : TrI f.vars.toNat f.nodes (Ba f) k (P7 f k):=by
 have h1:=h.vars
 have h4:=h.top
 have ha:=h.args
 have hb:=fun j=>Eb (v:=f.vars.toNat) (l:=f.nodes) (top:=f.top.toNat) (by omega) ha j
 refine Om (fun i hi=>?_) (fun i hi hd a haa=>?_) k hk
 ·have:=h.nodes i hi
  rw [show (f.vars.toNat : Int) = f.vars by omega]; exact this
 ·refine .inr ?_
  have h2:=(hb _).1 hd
  exact (hb _).2 (.step h2 hi haa)

theorem Bf (f : Fo) (h : su f) : su (trimF f) /\ ∀ l0 : List Bool,l0.length = f.vars.toNat -> (dS l0 (trimF f).nodes).getD (trimF f).top.toNat false = (dS l0 f.nodes).getD f.top.toNat false:=by
 have h1:=h.vars
 have h3:=h.len
 have h4:=h.top
 have ti:=Oj f h f.nodes.length (Nat.le_refl _)
 have hb:=fun j=>Eb (v:=f.vars.toNat) (l:=f.nodes) (top:=f.top.toNat) (by omega) h.args j
 have ht : f.top.toNat < f.vars.toNat \/ (Ba f).getD f.top.toNat false = true:=.inr ((hb _).2 .root)
 have rf:=ti.ref f.top.toNat (by omega) ht
 have out:=ti.out
 refine ⟨⟨h1,by show (P7 f f.nodes.length).2.length <= 128; omega,fun i hi=>?_,?_⟩,fun l0 hl=>?_⟩
 ·have:=ti.nd i hi
  rw [show (f.vars.toNat : Int) = f.vars by omega] at this; exact this
 ·show 0 <= VF _ f.top /\ VF _ f.top < f.vars + _
  unfold VF trimF
  dsimp only
  omega
 ·exact ti.val l0 hl f.top.toNat (by omega) ht

def xU (n k : Nat) : List Int:=(List.range k).map (fun i : Nat=>(i : Int)) ++ List.replicate (n - k) 0

theorem Nc {n k : Nat} (h : k < n) : (xU n k).set k (k : Int) = xU n (k + 1):=by
 unfold xU
 obtain ⟨m,hm⟩ : ∃ m,n - k = m + 1:=⟨n - k - 1,by omega⟩
 rw [hm,show n - (k + 1) = m by omega,List.set_append_right _ _ (by simp),List.range_succ,List.map_append,List.append_assoc]
 simp [List.replicate_succ]

theorem QF {n k : Nat} (h : k <= n) : (xU n k).length = n:=by simp [xU]; omega

theorem Pm (f : Fo) (h : su f) : aQ Tryz.prog 63 [f.av] [] (.dA [(trimF f).av,.bH]) []:=by
 have cc:=DY f h
 have cb:=UN f h
 have hbl : (belF f.vars.toNat f.nodes f.top.toNat).length = f.vars.toNat + f.nodes.length:=jE _ _ _ _
 have hinv:=Oj f h
 obtain ⟨h1,h2,h3,h4⟩:=h
 refine aQ.intro lay mixed Tryz.func63 (by kernel_rfl) rfl (by kernel_rfl) rfl fun hok=>?_
 (try dsimp only[aP,aC]);(try dsimp only[aj]);conv=>whnf
 refine .pure _ _ ?_ ⟨rfl,rfl⟩ cc fun _=>?_
 ·exact au _
 (try dsimp only[aj]);conv=>whnf
 refine ⟨eU (by simp; omega) (by simp; omega),?_⟩
 (try dsimp only[aj]);conv=>whnf
 rw [List.length_map,show f.vars + (f.nodes.length : Int) = ((f.vars.toNat + f.nodes.length : Nat) : Int) by omega]
 refine ⟨⟨by omega,Int.le_refl _,by show ((f.vars.toNat + f.nodes.length : Nat) : Int) * ((8 : Nat) : Int) <= 281474976710656; omega,by omega⟩,.wr ?_⟩
 rw [Int.toNat_natCast]
 (try dsimp only[aj]);conv=>whnf
 refine aN.of <| (aA.inv (.refl _ _) (fun k : Nat=>k <= f.vars.toNat) (fun k=>[(32,.int .i64 k)]) (fun k=>[(3,.arr 1 (f.vars.toNat + f.nodes.length) ((xU (f.vars.toNat + f.nodes.length) k).map (.int .i64))),(2,.box (.ag [.int .i64 f.vars,.aV,.int .i64 0])),(1,.box (.ag [.int .i64 0,.aV,.int .i64 0])),(0,.box f.av)]) (fun k=>f.vars.toNat - k) 0 (Nat.zero_le _) ?_ ?_ ?_)
 ·exact fun _=>rfl
 ·refine ⟨?_,.mk ?_ (by simp [ak])⟩
  ·all_goals exact wk
  ·repeat' first|exact rfl|exact trivial|exact wR|exact lR _|apply aI
   all_goals first | (show gq (List.replicate _ _) (List.map _ ([] ++ List.replicate _ 0)); rw [List.nil_append,List.map_replicate]; exact bK _) | skip
 intro k hk _
 have hfl:=QF (n:=f.vars.toNat + f.nodes.length) (k:=k) (by omega)
 (try dsimp only[aj]);conv=>whnf
 refine And.intro (fun g=>?_) (fun g=>?_)
 ·have hlt : k < f.vars.toNat:=by omega
  have hfs:=Nc (n:=f.vars.toNat + f.nodes.length) (k:=k) (by omega)
  generalize xU (f.vars.toNat + f.nodes.length) k = d at *
  (try dsimp only[aj]);conv=>whnf
  refine ⟨⟨by omega,by omega⟩,?_⟩
  (try dsimp only[aj]);conv=>whnf
  refine ⟨by rw [List.length_map]; omega,rfl,?_⟩
  (try dsimp only[aj]);conv=>whnf
  refine zA ?_;conv=>whnf
  refine ⟨k + 1,?_,?_,?_⟩
  ·exact hlt
  ·rw [<- hfs]
   refine ⟨?_,.mk ?_ (by simp [ak])⟩
   ·all_goals exact wk
   ·repeat' first|exact rfl|exact trivial|exact wR|exact lR _|apply aI
    all_goals (rw [Nat.zero_add,Int.toNat_natCast,List.map_set]; exact bK _)
  ·omega
 have hk : k = f.vars.toNat:=by omega
 subst hk
 clear g
 have e0 : xU (f.vars.toNat + f.nodes.length) f.vars.toNat = (P7 f 0).1:=by
  show _ = _ ++ List.replicate f.nodes.length 0
  unfold xU
  rw [Nat.add_sub_cancel_left]
 rw [e0]
 have cb' : aQ Tryz.prog 79 [f.av] [] (.sl 1 ((Ba f).map .bool) .no) []:=cb
 have hbl' : (Ba f).length = f.vars.toNat + f.nodes.length:=hbl
 unfold trimF
 have htr : ∀ k,P7 f (k + 1) = if (Ba f).getD (f.vars.toNat + k) false = true then ((P7 f k).1.set (f.vars.toNat + k) ((f.vars.toNat : Int) + (P7 f k).2.length),(P7 f k).2 ++ [Jl (P7 f k).1 (f.nodes.getD k default)]) else P7 f k:=fun k=>rfl
 have ZI : (P7 f 0).2 = []:=rfl
 generalize P7 f = tr at *
 generalize Ba f = d at *
 (try dsimp only[aj]);conv=>whnf
 refine aY.auto (by kernel_rfl) ?_;conv=>whnf
 refine dV.pure _ _ ?_ ⟨rfl,rfl⟩ cb' ?_
 ·exact au _
 conv=>whnf
 have hle : ((d.map AV.bool).drop f.vars.toNat).take (((d.map AV.bool).length : Int).toNat - f.vars.toNat) = (d.drop f.vars.toNat).map AV.bool:=by
  rw [<- List.map_drop,<- List.map_take,List.take_of_length_le (by simp)]
 refine VB.mk ⟨by simp; omega,?_⟩
 rw [hle]
 conv=>whnf
 have hdl : (d.drop f.vars.toNat).length = f.nodes.length:=by rw [List.length_drop]; omega
 refine aN.of <| (aA.inv (.Ub 2 [1] 3 [] (.ag [.int .i64 f.vars,.aV,.int .i64 0]) .aV _ rfl rfl (.inl ⟨rfl,rfl⟩) rfl (.refl _ _)) (fun k : Nat=>k <= f.nodes.length) (fun k=>[(46,.int .i64 k)]) (fun k=>[(4,.tok 3 (tr k).2.length),(3,.arr 1 (f.vars.toNat + f.nodes.length) ((tr k).1.map (.int .i64))),(2,.box (.ag [.int .i64 f.vars,.sl 3 ((tr k).2.map Nd.av) (.own 4),.int .i64 0])),(1,.box (.ag [.int .i64 0,.aV,.int .i64 0])),(0,.box f.av)]) (fun k=>f.nodes.length - k) 0 (Nat.zero_le _) ?_ ?_ ?_)
 ·exact fun _=>rfl
 ·refine ⟨?_,.mk ?_ (by simp [ak])⟩
  ·all_goals exact wk
  ·repeat' first|exact rfl|exact trivial|exact wR|exact lR _|apply aI
   all_goals first | (rw [ZI]; trivial) | (rw [ZI]; rfl) | skip
 intro k hk _
 have ik:=hinv k hk
 (try dsimp only[aj]);conv=>whnf
 refine And.intro (fun g=>?_) (fun g=>?_)
 ·have hlt : k < f.nodes.length:=by simp at g; omega
  have hs1:=htr k
  have hnl : (f.nodes[k]).args.length <= 16:=by
   have hal:=(h3 _ hlt).num
   split at hal
   ·omega
   ·split at hal <;> omega
  have hna:=(h3 _ hlt).args
  have ex : f.nodes.getD k default = f.nodes[k]:=by rw [List.getD_eq_getElem?_getD,List.getElem?_eq_getElem hlt]; rfl
  rw [ex] at hs1
  (try dsimp only[aj]);conv=>whnf
  refine Au false (by omega) ?_
  rw [show (d.drop f.vars.toNat).getD ((k : Nat) : Int).toNat false = d.getD (f.vars.toNat + k) false by rw [Int.toNat_natCast,List.getD_eq_getElem?_getD,List.getD_eq_getElem?_getD,List.getElem?_drop]]
  (try dsimp only[aj]);conv=>whnf
  refine And.intro (fun g2=>?_) (fun g2=>?_)
  ·have g2' : ¬ d.getD (f.vars.toNat + k) false = true:=by
    intro h; rw [h] at g2; cases g2
   rw [if_neg g2'] at hs1
   (try dsimp only[aj]);conv=>whnf
   refine zA ?_;conv=>whnf
   refine ⟨k + 1,?_,?_,?_⟩
   ·exact hlt
   ·rw [hs1]
    refine ⟨?_,.mk ?_ (by simp [ak])⟩
    ·all_goals exact wk
    ·all_goals exact wk
   ·omega
  have g2' : d.getD (f.vars.toNat + k) false = true:=by
   cases h : d.getD (f.vars.toNat + k) false with
   | true=>rfl
   | false=>rw [h] at g2; cases g2
  rw [if_pos g2'] at hs1
  (try dsimp only[aj]);conv=>whnf
  refine iq hlt ?_
  generalize f.nodes[k] = x at *
  obtain ⟨il,io,ir,ind,iv⟩:=ik
  generalize tr k = st at *
  obtain ⟨to,out⟩:=st
  dsimp only at *
  (try dsimp only[aj]);conv=>whnf
  refine aN.of <| (aA.inv (.Ub 6 [2] 1 [] (.ag [.int .i64 x.kind,.int .i64 x.k,.aV]) .aV _ rfl rfl (.inl ⟨rfl,rfl⟩) rfl (.refl _ _)) (fun j : Nat=>j <= x.args.length) (fun j=>[(66,.int .i64 j)]) (fun j=>[(7,.tok 1 j),(6,.box (.ag [.int .i64 x.kind,.int .i64 x.k,.sl 1 (((x.args.take j).map (VF to)).map (.int .i64)) (.own 7)])),(5,.box x.av),(4,.tok 3 out.length),(3,.arr 1 (f.vars.toNat + f.nodes.length) (to.map (.int .i64))),(2,.box (.ag [.int .i64 f.vars,.sl 3 (out.map Nd.av) (.own 4),.int .i64 0])),(1,.box (.ag [.int .i64 0,.aV,.int .i64 0])),(0,.box f.av)]) (fun j=>x.args.length - j) 0 (Nat.zero_le _) ?_ ?_ ?_)
  ·exact fun _=>rfl
  ·refine ⟨?_,.mk ?_ (by simp [ak])⟩
   ·all_goals exact wk
   ·all_goals exact wk
  intro j hj _
  have htl : ((x.args.take j).map (VF to)).length = j:=by rw [List.length_map,List.length_take]; omega
  (try dsimp only[aj]);conv=>whnf
  refine And.intro (fun g3=>?_) (fun g3=>?_)
  ·have hjl : j < x.args.length:=by simpa using g3
   have ha:=hna _ (List.getElem_mem hjl)
   have ht1 : (x.args.take (j + 1)).map (VF to) = (x.args.take j).map (VF to) ++ [VF to x.args[j]]:=by rw [List.take_succ_eq_append_getElem hjl,List.map_append]; rfl
   (try dsimp only[aj]);conv=>whnf
   refine iq hjl ?_
   generalize x.args[j] = a at *
   (try dsimp only[aj]);conv=>whnf
   refine aY.auto (by kernel_rfl) ?_;conv=>whnf
   refine ⟨⟨by omega,by omega⟩,?_⟩
   conv=>whnf
   rw [Nat.zero_add]
   refine Au 0 ⟨by omega,by omega⟩ ?_
   conv=>whnf
   refine ⟨rfl,?_⟩
   conv=>whnf
   refine ⟨by rw [List.length_map,htl],.mk (by simp [maxL]; omega) (by simp; omega) ?_⟩
   (try dsimp only[aj]);conv=>whnf
   refine zA ?_;conv=>whnf
   refine ⟨j + 1,?_,?_,?_⟩
   ·exact hjl
   ·rw [ht1]
    refine ⟨?_,.mk ?_ (by simp [ak])⟩
    ·all_goals exact wk
    ·repeat' first|exact rfl|exact trivial|exact wR|exact lR _|apply aI
     all_goals first | (simp; omega) | (show gq _ (List.map _ (_ ++ [_])); rw [List.map_append]; exact bK _)
   ·omega
  have hjl : j = x.args.length:=by (have : ¬ j < x.args.length:=by simpa using g3); omega
  subst hjl
  rw [List.take_length]
  (try dsimp only[aj]);conv=>whnf
  refine ⟨eU (by omega) (by omega),?_⟩
  (try dsimp only[aj]);conv=>whnf
  refine ⟨eU (by simp; omega) (by simp; omega),?_⟩
  (try dsimp only[aj]);conv=>whnf
  refine ⟨⟨by omega,by omega⟩,?_⟩
  (try dsimp only[aj]);conv=>whnf
  refine ⟨by rw [List.length_map]; omega,rfl,?_⟩
  (try dsimp only[aj]);conv=>whnf
  refine ⟨by rw [List.length_map],.mk (by simp [maxL]; omega) (by simp; omega) ?_⟩
  (try dsimp only[aj]);conv=>whnf
  refine zA ?_;conv=>whnf
  refine ⟨k + 1,?_,?_,?_⟩
  ·exact hlt
  ·rw [hs1]
   refine ⟨?_,.mk ?_ (by simp [ak])⟩
   ·all_goals exact wk
   ·repeat' first|exact rfl|exact trivial|exact wR|exact lR _|apply aI
    all_goals first | (simp; done) | (show gq _ (List.map _ (_ ++ [_])); rw [List.map_append]; exact bK _) | (rw [List.map_set,Nat.zero_add,List.length_map,show (f.vars + (k : Int)).toNat = f.vars.toNat + k by omega,show f.vars + (out.length : Int) = (f.vars.toNat : Int) + out.length by omega]; exact bK _) | skip
  ·omega
 have hk : k = f.nodes.length:=by simp at g; omega
 subst hk
 obtain ⟨il,io,ir,ind,iv⟩:=ik
 generalize tr f.nodes.length = st at *
 obtain ⟨to,out⟩:=st
 dsimp only at *
 (try dsimp only[aj]);conv=>whnf
 refine ⟨⟨h4.1,by omega⟩,?_⟩
 (try dsimp only[aj]);conv=>whnf
 rw [Nat.zero_add]
 refine Au 0 ⟨by omega,by omega⟩ ?_
 (try dsimp only[aj]);conv=>whnf
 refine ⟨rfl,?_⟩
 (try dsimp only[aj]);conv=>whnf
 refine ⟨⟨_,_,.refl _ _,?_⟩⟩
 conv=>whnf
 refine ⟨?_,rfl,by simp [nextId],.mk ?_ (by simp [ak])⟩
 ·all_goals exact wk
 ·all_goals exact wk


def l0 (v : Nat) (t : Int -> Bool) : List Bool:=(List.range v).map fun i : Nat=>t (i : Int)


def EZ (k : Int) (n : Nat) : Bool:=if k = 0 then decide (n = 0) else if k = 1 then decide (n = 1) else decide (1 <= n /\ n <= 16)
def tX (v : Int) (i : Nat) (a : Int) : Bool:=decide (a < 0 \/ v + i <= a)
def pO (x : Nd) : Int:=if x.kind = 0 then (if x.k ≠ 0 /\ x.k ≠ 1 then 3 else 0) else if x.kind = 4 then (if x.k < 1 \/ (x.args.length : Int) < x.k then 3 else 0) else if x.k ≠ 0 then 2 else 0
def aO (v : Int) (i : Nat) (x : Nd) : Int:=if x.kind < 0 \/ 5 < x.kind then 7 else if EZ x.kind x.args.length = false then 11 else if x.args.any (tX v i) = true then 10 else pO x
def mO (v : Int) : Nat -> List Nd -> Int
 | _,[]=>0
 | i,x :: l=>if aO v i x ≠ 0 then aO v i x else mO v (i + 1) l
def nZ (f : Fo) : Int:=if f.vars < 0 \/ 24 < f.vars then 3 else if 128 < f.nodes.length then 4 else if mO f.vars 0 f.nodes ≠ 0 then mO f.vars 0 f.nodes else if ¬ (0 <= f.top /\ f.top < f.vars + f.nodes.length) then 10 else 0

theorem Ti {v : Int} {i : Nat} {x : Nd} (h : aO v i x = 0) : IX v i x:=by
 unfold aO at h
 split at h
 ·cases h
 rename_i h1
 split at h
 ·cases h
 rename_i h2
 split at h
 ·cases h
 rename_i h3
 have h2 : EZ x.kind x.args.length = true:=by simpa using h2
 have h3 : ∀ a ∈ x.args,0 <= a /\ a < v + i:=fun a ha=>by
  have : tX v i a = false:=by
   cases hb : tX v i a with
   | false=>rfl
   | true=>exact absurd (List.any_eq_true.2 ⟨a,ha,hb⟩) h3
  unfold tX at this
  have:=of_decide_eq_false this
  omega
 refine ⟨by omega,?_,h3,?_⟩
 ·unfold EZ at h2
  split
  ·rename_i e; rw [if_pos e] at h2; simpa using h2
  ·rename_i e; rw [if_neg e] at h2
   split
   ·rename_i e; rw [if_pos e] at h2; simpa using h2
   ·rename_i e; rw [if_neg e] at h2; simpa using h2
 ·unfold pO at h
  split
  ·rename_i e
   rw [if_pos e] at h
   split at h
   ·cases h
   ·omega
  ·rename_i e
   rw [if_neg e] at h
   split
   ·rename_i e
    rw [if_pos e] at h
    split at h
    ·cases h
    ·omega
   ·rename_i e
    rw [if_neg e] at h
    split at h
    ·cases h
    ·omega

theorem FU {v : Int} : ∀ (l : List Nd) (i : Nat),mO v i l = 0 -> ∀ (k : Nat) (h : k < l.length),IX v (i + k) l[k]
 | [],_,_,k,h=>absurd h (Nat.not_lt_zero _)
 | x :: l,i,he,k,h=>by
   unfold mO at he
   split at he
   ·contradiction
   rename_i e
   have e : aO v i x = 0:=by simpa using e
   cases k with
   | zero=>exact Ti e
   | succ k =>
     have:=FU l (i + 1) he k (by simpa using h)
     rw [show i + 1 + k = i + (k + 1) by omega] at this
     exact this

theorem Uc {f : Fo} (h : nZ f = 0) : su f:=by
 unfold nZ at h
 split at h
 ·cases h
 split at h
 ·cases h
 split at h
 ·contradiction
 split at h
 ·cases h
 rename_i h1 h2 h3 h4
 refine ⟨by omega,by omega,fun i hi=>?_,by omega⟩
 have:=FU f.nodes 0 (by simpa using h3) i hi
 rw [Nat.zero_add] at this
 exact this

theorem JF {v : Int} {l : List Nd} {i : Nat} (h : i < l.length) : mO v i (l.drop i) = if aO v i l[i] ≠ 0 then aO v i l[i] else mO v (i + 1) (l.drop (i + 1)):=by
 rw [List.drop_eq_getElem_cons h]; rfl

theorem nM {p : Int -> Bool} {l : List Int} {j : Nat} (h : j < l.length) (h1 : (l.take j).any p = false) (h2 : p l[j] = false) : (l.take (j + 1)).any p = false:=by
 rw [List.take_succ_eq_append_getElem h,List.any_append,h1]; simp [h2]

theorem Q5 (f : Fo) (hv : 0 <= f.vars /\ f.vars <= 24) (i : Nat) (hi : i < f.nodes.length) (hl : f.nodes.length <= 128) : aQ Tryz.prog 40 [f.av,.int .i64 i] [] (.int .i64 (aO f.vars i f.nodes[i])) []:=by
 refine aQ.intro lay mixed Tryz.func40 (by kernel_rfl) rfl (by kernel_rfl) rfl fun hok=>?_
 have hlen:=PK hok.1.2.1.2 _ (List.getElem_mem hi)
 have hal : (f.nodes[i]).args.length <= 9223372036854775807:=by have:=hlen.2.2.1.1; simpa [maxL] using this
 clear hok hlen
 (try dsimp only[aP,aC]);(try dsimp only[aj]);conv=>whnf
 refine iq hi ?_
 generalize f.nodes[i] = x at *
 have hE1 : 0 <= x.kind /\ x.kind <= 5 -> aO f.vars i x = if EZ x.kind x.args.length = false then 11 else if x.args.any (tX f.vars i) = true then 10 else pO x:=fun h=>if_neg (by omega)
 (try dsimp only[aj]);conv=>whnf
 refine And.intro (fun g0=>?_) (fun g0=>?_)
 ·have hN : EZ x.kind x.args.length = false ↔ ((x.args.length : Int) < 0 \/ 0 < (x.args.length : Int)):=by
   unfold EZ; rw [if_pos g0,decide_eq_false_iff_not]; omega
  replace hE1:=hE1 (by omega)
  (try dsimp only[aj]);conv=>whnf
  rw [List.length_map]
  refine And.intro (fun g=>?_) (fun g=>?_)
  ·have hE:=hE1.trans (if_pos (hN.2 (.inl g)))
   rw [show aO f.vars i x = 11 from hE]
   (try dsimp only[aj]);conv=>whnf
   refine fM ?_;(conv=>whnf);refine ⟨?_,rfl⟩;conv=>whnf
   all_goals exact wk
  (try dsimp only[aj]);conv=>whnf
  rw [List.length_map]
  refine And.intro (fun g'=>?_) (fun g'=>?_)
  ·have hE:=hE1.trans (if_pos (hN.2 (.inr g')))
   rw [show aO f.vars i x = 11 from hE]
   (try dsimp only[aj]);conv=>whnf
   refine fM ?_;(conv=>whnf);refine ⟨?_,rfl⟩;conv=>whnf
   all_goals exact wk
  have hE2:=hE1.trans (if_neg (fun h=>(hN.1 h).elim g g'))
  clear hE1
  (try dsimp only[aj]);conv=>whnf
  refine aN.of <| aA.inv (.refl _ _) (fun (j : Nat)=>j <= x.args.length /\ (x.args.take j).any (tX f.vars i) = false) (fun (j : Nat)=>[(41,.int .i64 j)]) (fun _=>_) (fun (j : Nat)=>x.args.length - j) 0 ?_ (fun _=>rfl) ?_ ?_
  ·exact ⟨Nat.zero_le _,rfl⟩
  ·all_goals exact wk
  rintro j ⟨hj,hany⟩ _
  (try dsimp only[aj]);conv=>whnf
  refine And.intro (fun g1=>?_) (fun g1=>?_)
  ·have hjl : j < x.args.length:=by simpa using g1
   have hat:=nM hjl hany
   have hin:=List.getElem_mem hjl
   (try dsimp only[aj]);conv=>whnf
   refine iq hjl ?_
   generalize x.args[j] = a at *
   have bad : tX f.vars i a = true -> aO f.vars i x = 10:=fun hb=>hE2.trans (if_pos (List.any_eq_true.2 ⟨a,hin,hb⟩))
   (try dsimp only[aj]);conv=>whnf
   refine And.intro (fun g=>?_) (fun g=>?_)
   ·have hE:=bad (decide_eq_true (.inl g))
    rw [show aO f.vars i x = 10 from hE]
    (try dsimp only[aj]);conv=>whnf
    refine fM ?_;(conv=>whnf);refine ⟨?_,rfl⟩;conv=>whnf
    all_goals exact wk
   (try dsimp only[aj]);conv=>whnf
   refine zA ?_;conv=>whnf
   refine And.intro (fun g'=>?_) (fun g'=>?_)
   ·have hE:=bad (decide_eq_true (.inr g'))
    rw [show aO f.vars i x = 10 from hE]
    (try dsimp only[aj]);conv=>whnf
    refine fM ?_;(conv=>whnf);refine ⟨?_,rfl⟩;conv=>whnf
    all_goals exact wk
   (try dsimp only[aj]);conv=>whnf
   refine zA ?_;conv=>whnf
   refine ⟨j + 1,?_,?_,?_⟩
   ·exact ⟨hjl,hat (decide_eq_false (by omega))⟩
   ·all_goals exact wk
   ·omega
  have hjl : j = x.args.length:=by (have : ¬ j < x.args.length:=by simpa using g1); omega
  subst hjl
  rw [List.take_length] at hany
  have hK:=hE2.trans (if_neg (by rw [hany]; simp))
  clear hE2 g g' hN
  (try dsimp only[aj]);conv=>whnf
  refine And.intro (fun g=>?_) (fun g=>?_)
  ·rw [show pO x = if x.k ≠ 0 /\ x.k ≠ 1 then 3 else 0 from if_pos g] at hK
   (try dsimp only[aj]);conv=>whnf
   refine And.intro (fun g=>?_) (fun g=>?_)
   ·(try dsimp only[aj]);conv=>whnf
    refine And.intro (fun g'=>?_) (fun g'=>?_)
    ·have hE:=hK.trans (if_pos ⟨g,g'⟩)
     rw [show aO f.vars i x = 3 from hE]
     (try dsimp only[aj]);conv=>whnf
     refine fM ?_;(conv=>whnf);refine ⟨?_,rfl⟩;conv=>whnf
     all_goals exact wk
    ·have hE:=hK.trans (if_neg (fun h=>g' h.2))
     rw [show aO f.vars i x = 0 from hE]
     (try dsimp only[aj]);conv=>whnf
     refine fM ?_;(conv=>whnf);refine ⟨?_,rfl⟩;conv=>whnf
     all_goals exact wk
   ·have hE:=hK.trans (if_neg (fun h=>g h.1))
    rw [show aO f.vars i x = 0 from hE]
    (try dsimp only[aj]);conv=>whnf
    refine fM ?_;(conv=>whnf);refine ⟨?_,rfl⟩;conv=>whnf
    all_goals exact wk
  have gk:=g
  (try dsimp only[aj]);conv=>whnf
  refine And.intro (fun g=>?_) (fun g=>?_)
  ·rw [show pO x = if x.k < 1 \/ (x.args.length : Int) < x.k then 3 else 0 from (if_neg gk).trans (if_pos g)] at hK
   (try dsimp only[aj]);conv=>whnf
   refine And.intro (fun g=>?_) (fun g=>?_)
   ·have hE:=hK.trans (if_pos (.inl g))
    rw [show aO f.vars i x = 3 from hE]
    (try dsimp only[aj]);conv=>whnf
    refine fM ?_;(conv=>whnf);refine ⟨?_,rfl⟩;conv=>whnf
    all_goals exact wk
   ·(try dsimp only[aj]);conv=>whnf
    refine And.intro (fun g'=>?_) (fun g'=>?_)
    ·have hE:=hK.trans (if_pos (.inr (by simpa using g')))
     rw [show aO f.vars i x = 3 from hE]
     (try dsimp only[aj]);conv=>whnf
     refine fM ?_;(conv=>whnf);refine ⟨?_,rfl⟩;conv=>whnf
     all_goals exact wk
    ·have hE:=hK.trans (if_neg (fun h=>h.elim g (fun h=>g' (by simpa using h))))
     rw [show aO f.vars i x = 0 from hE]
     (try dsimp only[aj]);conv=>whnf
     refine fM ?_;(conv=>whnf);refine ⟨?_,rfl⟩;conv=>whnf
     all_goals exact wk
  rw [show pO x = if x.k ≠ 0 then 2 else 0 from (if_neg gk).trans (if_neg g)] at hK
  (try dsimp only[aj]);conv=>whnf
  refine And.intro (fun g=>?_) (fun g=>?_)
  ·have hE:=hK.trans (if_pos g)
   rw [show aO f.vars i x = 2 from hE]
   (try dsimp only[aj]);conv=>whnf
   refine fM ?_;(conv=>whnf);refine ⟨?_,rfl⟩;conv=>whnf
   all_goals exact wk
  ·have hE:=hK.trans (if_neg g)
   rw [show aO f.vars i x = 0 from hE]
   (try dsimp only[aj]);conv=>whnf
   refine fM ?_;(conv=>whnf);refine ⟨?_,rfl⟩;conv=>whnf
   all_goals exact wk
 (try dsimp only[aj]);conv=>whnf
 refine And.intro (fun g1=>?_) (fun g1=>?_)
 ·have hN : EZ x.kind x.args.length = false ↔ ((x.args.length : Int) < 1 \/ 1 < (x.args.length : Int)):=by
   unfold EZ; rw [if_neg g0,if_pos g1,decide_eq_false_iff_not]; omega
  replace hE1:=hE1 (by omega)
  (try dsimp only[aj]);conv=>whnf
  rw [List.length_map]
  refine And.intro (fun g=>?_) (fun g=>?_)
  ·have hE:=hE1.trans (if_pos (hN.2 (.inl g)))
   rw [show aO f.vars i x = 11 from hE]
   (try dsimp only[aj]);conv=>whnf
   refine fM ?_;(conv=>whnf);refine ⟨?_,rfl⟩;conv=>whnf
   all_goals exact wk
  (try dsimp only[aj]);conv=>whnf
  rw [List.length_map]
  refine And.intro (fun g'=>?_) (fun g'=>?_)
  ·have hE:=hE1.trans (if_pos (hN.2 (.inr g')))
   rw [show aO f.vars i x = 11 from hE]
   (try dsimp only[aj]);conv=>whnf
   refine fM ?_;(conv=>whnf);refine ⟨?_,rfl⟩;conv=>whnf
   all_goals exact wk
  have hE2:=hE1.trans (if_neg (fun h=>(hN.1 h).elim g g'))
  clear hE1
  (try dsimp only[aj]);conv=>whnf
  refine aN.of <| aA.inv (.refl _ _) (fun (j : Nat)=>j <= x.args.length /\ (x.args.take j).any (tX f.vars i) = false) (fun (j : Nat)=>[(41,.int .i64 j)]) (fun _=>_) (fun (j : Nat)=>x.args.length - j) 0 ?_ (fun _=>rfl) ?_ ?_
  ·exact ⟨Nat.zero_le _,rfl⟩
  ·all_goals exact wk
  rintro j ⟨hj,hany⟩ _
  (try dsimp only[aj]);conv=>whnf
  refine And.intro (fun g1=>?_) (fun g1=>?_)
  ·have hjl : j < x.args.length:=by simpa using g1
   have hat:=nM hjl hany
   have hin:=List.getElem_mem hjl
   (try dsimp only[aj]);conv=>whnf
   refine iq hjl ?_
   generalize x.args[j] = a at *
   have bad : tX f.vars i a = true -> aO f.vars i x = 10:=fun hb=>hE2.trans (if_pos (List.any_eq_true.2 ⟨a,hin,hb⟩))
   (try dsimp only[aj]);conv=>whnf
   refine And.intro (fun g=>?_) (fun g=>?_)
   ·have hE:=bad (decide_eq_true (.inl g))
    rw [show aO f.vars i x = 10 from hE]
    (try dsimp only[aj]);conv=>whnf
    refine fM ?_;(conv=>whnf);refine ⟨?_,rfl⟩;conv=>whnf
    all_goals exact wk
   (try dsimp only[aj]);conv=>whnf
   refine zA ?_;conv=>whnf
   refine And.intro (fun g'=>?_) (fun g'=>?_)
   ·have hE:=bad (decide_eq_true (.inr g'))
    rw [show aO f.vars i x = 10 from hE]
    (try dsimp only[aj]);conv=>whnf
    refine fM ?_;(conv=>whnf);refine ⟨?_,rfl⟩;conv=>whnf
    all_goals exact wk
   (try dsimp only[aj]);conv=>whnf
   refine zA ?_;conv=>whnf
   refine ⟨j + 1,?_,?_,?_⟩
   ·exact ⟨hjl,hat (decide_eq_false (by omega))⟩
   ·all_goals exact wk
   ·omega
  have hjl : j = x.args.length:=by (have : ¬ j < x.args.length:=by simpa using g1); omega
  subst hjl
  rw [List.take_length] at hany
  have hK:=hE2.trans (if_neg (by rw [hany]; simp))
  clear hE2 g g' hN
  (try dsimp only[aj]);conv=>whnf
  refine And.intro (fun g=>?_) (fun g=>?_)
  ·rw [show pO x = if x.k ≠ 0 /\ x.k ≠ 1 then 3 else 0 from if_pos g] at hK
   (try dsimp only[aj]);conv=>whnf
   refine And.intro (fun g=>?_) (fun g=>?_)
   ·(try dsimp only[aj]);conv=>whnf
    refine And.intro (fun g'=>?_) (fun g'=>?_)
    ·have hE:=hK.trans (if_pos ⟨g,g'⟩)
     rw [show aO f.vars i x = 3 from hE]
     (try dsimp only[aj]);conv=>whnf
     refine fM ?_;(conv=>whnf);refine ⟨?_,rfl⟩;conv=>whnf
     all_goals exact wk
    ·have hE:=hK.trans (if_neg (fun h=>g' h.2))
     rw [show aO f.vars i x = 0 from hE]
     (try dsimp only[aj]);conv=>whnf
     refine fM ?_;(conv=>whnf);refine ⟨?_,rfl⟩;conv=>whnf
     all_goals exact wk
   ·have hE:=hK.trans (if_neg (fun h=>g h.1))
    rw [show aO f.vars i x = 0 from hE]
    (try dsimp only[aj]);conv=>whnf
    refine fM ?_;(conv=>whnf);refine ⟨?_,rfl⟩;conv=>whnf
    all_goals exact wk
  have gk:=g
  (try dsimp only[aj]);conv=>whnf
  refine And.intro (fun g=>?_) (fun g=>?_)
  ·rw [show pO x = if x.k < 1 \/ (x.args.length : Int) < x.k then 3 else 0 from (if_neg gk).trans (if_pos g)] at hK
   (try dsimp only[aj]);conv=>whnf
   refine And.intro (fun g=>?_) (fun g=>?_)
   ·have hE:=hK.trans (if_pos (.inl g))
    rw [show aO f.vars i x = 3 from hE]
    (try dsimp only[aj]);conv=>whnf
    refine fM ?_;(conv=>whnf);refine ⟨?_,rfl⟩;conv=>whnf
    all_goals exact wk
   ·(try dsimp only[aj]);conv=>whnf
    refine And.intro (fun g'=>?_) (fun g'=>?_)
    ·have hE:=hK.trans (if_pos (.inr (by simpa using g')))
     rw [show aO f.vars i x = 3 from hE]
     (try dsimp only[aj]);conv=>whnf
     refine fM ?_;(conv=>whnf);refine ⟨?_,rfl⟩;conv=>whnf
     all_goals exact wk
    ·have hE:=hK.trans (if_neg (fun h=>h.elim g (fun h=>g' (by simpa using h))))
     rw [show aO f.vars i x = 0 from hE]
     (try dsimp only[aj]);conv=>whnf
     refine fM ?_;(conv=>whnf);refine ⟨?_,rfl⟩;conv=>whnf
     all_goals exact wk
  rw [show pO x = if x.k ≠ 0 then 2 else 0 from (if_neg gk).trans (if_neg g)] at hK
  (try dsimp only[aj]);conv=>whnf
  refine And.intro (fun g=>?_) (fun g=>?_)
  ·have hE:=hK.trans (if_pos g)
   rw [show aO f.vars i x = 2 from hE]
   (try dsimp only[aj]);conv=>whnf
   refine fM ?_;(conv=>whnf);refine ⟨?_,rfl⟩;conv=>whnf
   all_goals exact wk
  ·have hE:=hK.trans (if_neg g)
   rw [show aO f.vars i x = 0 from hE]
   (try dsimp only[aj]);conv=>whnf
   refine fM ?_;(conv=>whnf);refine ⟨?_,rfl⟩;conv=>whnf
   all_goals exact wk
 have hN : EZ x.kind x.args.length = false ↔ ((x.args.length : Int) < 1 \/ 16 < (x.args.length : Int)):=by
  unfold EZ; rw [if_neg g0,if_neg g1,decide_eq_false_iff_not]; omega
 (try dsimp only[aj]);conv=>whnf
 refine And.intro (fun g2=>?_) (fun g2=>?_)
 ·replace hE1:=hE1 (by omega)
  (try dsimp only[aj]);conv=>whnf
  refine And.intro (fun _=>?_) (fun h=>absurd g2 h)
  (try dsimp only[aj]);conv=>whnf
  rw [List.length_map]
  refine And.intro (fun g=>?_) (fun g=>?_)
  ·have hE:=hE1.trans (if_pos (hN.2 (.inl g)))
   rw [show aO f.vars i x = 11 from hE]
   (try dsimp only[aj]);conv=>whnf
   refine fM ?_;(conv=>whnf);refine ⟨?_,rfl⟩;conv=>whnf
   all_goals exact wk
  (try dsimp only[aj]);conv=>whnf
  rw [List.length_map]
  refine And.intro (fun g'=>?_) (fun g'=>?_)
  ·have hE:=hE1.trans (if_pos (hN.2 (.inr g')))
   rw [show aO f.vars i x = 11 from hE]
   (try dsimp only[aj]);conv=>whnf
   refine fM ?_;(conv=>whnf);refine ⟨?_,rfl⟩;conv=>whnf
   all_goals exact wk
  have hE2:=hE1.trans (if_neg (fun h=>(hN.1 h).elim g g'))
  clear hE1
  (try dsimp only[aj]);conv=>whnf
  refine aN.of <| aA.inv (.refl _ _) (fun (j : Nat)=>j <= x.args.length /\ (x.args.take j).any (tX f.vars i) = false) (fun (j : Nat)=>[(41,.int .i64 j)]) (fun _=>_) (fun (j : Nat)=>x.args.length - j) 0 ?_ (fun _=>rfl) ?_ ?_
  ·exact ⟨Nat.zero_le _,rfl⟩
  ·all_goals exact wk
  rintro j ⟨hj,hany⟩ _
  (try dsimp only[aj]);conv=>whnf
  refine And.intro (fun g1=>?_) (fun g1=>?_)
  ·have hjl : j < x.args.length:=by simpa using g1
   have hat:=nM hjl hany
   have hin:=List.getElem_mem hjl
   (try dsimp only[aj]);conv=>whnf
   refine iq hjl ?_
   generalize x.args[j] = a at *
   have bad : tX f.vars i a = true -> aO f.vars i x = 10:=fun hb=>hE2.trans (if_pos (List.any_eq_true.2 ⟨a,hin,hb⟩))
   (try dsimp only[aj]);conv=>whnf
   refine And.intro (fun g=>?_) (fun g=>?_)
   ·have hE:=bad (decide_eq_true (.inl g))
    rw [show aO f.vars i x = 10 from hE]
    (try dsimp only[aj]);conv=>whnf
    refine fM ?_;(conv=>whnf);refine ⟨?_,rfl⟩;conv=>whnf
    all_goals exact wk
   (try dsimp only[aj]);conv=>whnf
   refine zA ?_;conv=>whnf
   refine And.intro (fun g'=>?_) (fun g'=>?_)
   ·have hE:=bad (decide_eq_true (.inr g'))
    rw [show aO f.vars i x = 10 from hE]
    (try dsimp only[aj]);conv=>whnf
    refine fM ?_;(conv=>whnf);refine ⟨?_,rfl⟩;conv=>whnf
    all_goals exact wk
   (try dsimp only[aj]);conv=>whnf
   refine zA ?_;conv=>whnf
   refine ⟨j + 1,?_,?_,?_⟩
   ·exact ⟨hjl,hat (decide_eq_false (by omega))⟩
   ·all_goals exact wk
   ·omega
  have hjl : j = x.args.length:=by (have : ¬ j < x.args.length:=by simpa using g1); omega
  subst hjl
  rw [List.take_length] at hany
  have hK:=hE2.trans (if_neg (by rw [hany]; simp))
  clear hE2 g g' hN
  (try dsimp only[aj]);conv=>whnf
  refine And.intro (fun g=>?_) (fun g=>?_)
  ·rw [show pO x = if x.k ≠ 0 /\ x.k ≠ 1 then 3 else 0 from if_pos g] at hK
   (try dsimp only[aj]);conv=>whnf
   refine And.intro (fun g=>?_) (fun g=>?_)
   ·(try dsimp only[aj]);conv=>whnf
    refine And.intro (fun g'=>?_) (fun g'=>?_)
    ·have hE:=hK.trans (if_pos ⟨g,g'⟩)
     rw [show aO f.vars i x = 3 from hE]
     (try dsimp only[aj]);conv=>whnf
     refine fM ?_;(conv=>whnf);refine ⟨?_,rfl⟩;conv=>whnf
     all_goals exact wk
    ·have hE:=hK.trans (if_neg (fun h=>g' h.2))
     rw [show aO f.vars i x = 0 from hE]
     (try dsimp only[aj]);conv=>whnf
     refine fM ?_;(conv=>whnf);refine ⟨?_,rfl⟩;conv=>whnf
     all_goals exact wk
   ·have hE:=hK.trans (if_neg (fun h=>g h.1))
    rw [show aO f.vars i x = 0 from hE]
    (try dsimp only[aj]);conv=>whnf
    refine fM ?_;(conv=>whnf);refine ⟨?_,rfl⟩;conv=>whnf
    all_goals exact wk
  have gk:=g
  (try dsimp only[aj]);conv=>whnf
  refine And.intro (fun g=>?_) (fun g=>?_)
  ·rw [show pO x = if x.k < 1 \/ (x.args.length : Int) < x.k then 3 else 0 from (if_neg gk).trans (if_pos g)] at hK
   (try dsimp only[aj]);conv=>whnf
   refine And.intro (fun g=>?_) (fun g=>?_)
   ·have hE:=hK.trans (if_pos (.inl g))
    rw [show aO f.vars i x = 3 from hE]
    (try dsimp only[aj]);conv=>whnf
    refine fM ?_;(conv=>whnf);refine ⟨?_,rfl⟩;conv=>whnf
    all_goals exact wk
   ·(try dsimp only[aj]);conv=>whnf
    refine And.intro (fun g'=>?_) (fun g'=>?_)
    ·have hE:=hK.trans (if_pos (.inr (by simpa using g')))
     rw [show aO f.vars i x = 3 from hE]
     (try dsimp only[aj]);conv=>whnf
     refine fM ?_;(conv=>whnf);refine ⟨?_,rfl⟩;conv=>whnf
     all_goals exact wk
    ·have hE:=hK.trans (if_neg (fun h=>h.elim g (fun h=>g' (by simpa using h))))
     rw [show aO f.vars i x = 0 from hE]
     (try dsimp only[aj]);conv=>whnf
     refine fM ?_;(conv=>whnf);refine ⟨?_,rfl⟩;conv=>whnf
     all_goals exact wk
  rw [show pO x = if x.k ≠ 0 then 2 else 0 from (if_neg gk).trans (if_neg g)] at hK
  (try dsimp only[aj]);conv=>whnf
  refine And.intro (fun g=>?_) (fun g=>?_)
  ·have hE:=hK.trans (if_pos g)
   rw [show aO f.vars i x = 2 from hE]
   (try dsimp only[aj]);conv=>whnf
   refine fM ?_;(conv=>whnf);refine ⟨?_,rfl⟩;conv=>whnf
   all_goals exact wk
  ·have hE:=hK.trans (if_neg g)
   rw [show aO f.vars i x = 0 from hE]
   (try dsimp only[aj]);conv=>whnf
   refine fM ?_;(conv=>whnf);refine ⟨?_,rfl⟩;conv=>whnf
   all_goals exact wk
 (try dsimp only[aj]);conv=>whnf
 refine And.intro (fun g3=>?_) (fun g3=>?_)
 ·replace hE1:=hE1 (by omega)
  (try dsimp only[aj]);conv=>whnf
  refine And.intro (fun _=>?_) (fun h=>absurd g3 h)
  (try dsimp only[aj]);conv=>whnf
  rw [List.length_map]
  refine And.intro (fun g=>?_) (fun g=>?_)
  ·have hE:=hE1.trans (if_pos (hN.2 (.inl g)))
   rw [show aO f.vars i x = 11 from hE]
   (try dsimp only[aj]);conv=>whnf
   refine fM ?_;(conv=>whnf);refine ⟨?_,rfl⟩;conv=>whnf
   all_goals exact wk
  (try dsimp only[aj]);conv=>whnf
  rw [List.length_map]
  refine And.intro (fun g'=>?_) (fun g'=>?_)
  ·have hE:=hE1.trans (if_pos (hN.2 (.inr g')))
   rw [show aO f.vars i x = 11 from hE]
   (try dsimp only[aj]);conv=>whnf
   refine fM ?_;(conv=>whnf);refine ⟨?_,rfl⟩;conv=>whnf
   all_goals exact wk
  have hE2:=hE1.trans (if_neg (fun h=>(hN.1 h).elim g g'))
  clear hE1
  (try dsimp only[aj]);conv=>whnf
  refine aN.of <| aA.inv (.refl _ _) (fun (j : Nat)=>j <= x.args.length /\ (x.args.take j).any (tX f.vars i) = false) (fun (j : Nat)=>[(41,.int .i64 j)]) (fun _=>_) (fun (j : Nat)=>x.args.length - j) 0 ?_ (fun _=>rfl) ?_ ?_
  ·exact ⟨Nat.zero_le _,rfl⟩
  ·all_goals exact wk
  rintro j ⟨hj,hany⟩ _
  (try dsimp only[aj]);conv=>whnf
  refine And.intro (fun g1=>?_) (fun g1=>?_)
  ·have hjl : j < x.args.length:=by simpa using g1
   have hat:=nM hjl hany
   have hin:=List.getElem_mem hjl
   (try dsimp only[aj]);conv=>whnf
   refine iq hjl ?_
   generalize x.args[j] = a at *
   have bad : tX f.vars i a = true -> aO f.vars i x = 10:=fun hb=>hE2.trans (if_pos (List.any_eq_true.2 ⟨a,hin,hb⟩))
   (try dsimp only[aj]);conv=>whnf
   refine And.intro (fun g=>?_) (fun g=>?_)
   ·have hE:=bad (decide_eq_true (.inl g))
    rw [show aO f.vars i x = 10 from hE]
    (try dsimp only[aj]);conv=>whnf
    refine fM ?_;(conv=>whnf);refine ⟨?_,rfl⟩;conv=>whnf
    all_goals exact wk
   (try dsimp only[aj]);conv=>whnf
   refine zA ?_;conv=>whnf
   refine And.intro (fun g'=>?_) (fun g'=>?_)
   ·have hE:=bad (decide_eq_true (.inr g'))
    rw [show aO f.vars i x = 10 from hE]
    (try dsimp only[aj]);conv=>whnf
    refine fM ?_;(conv=>whnf);refine ⟨?_,rfl⟩;conv=>whnf
    all_goals exact wk
   (try dsimp only[aj]);conv=>whnf
   refine zA ?_;conv=>whnf
   refine ⟨j + 1,?_,?_,?_⟩
   ·exact ⟨hjl,hat (decide_eq_false (by omega))⟩
   ·all_goals exact wk
   ·omega
  have hjl : j = x.args.length:=by (have : ¬ j < x.args.length:=by simpa using g1); omega
  subst hjl
  rw [List.take_length] at hany
  have hK:=hE2.trans (if_neg (by rw [hany]; simp))
  clear hE2 g g' hN
  (try dsimp only[aj]);conv=>whnf
  refine And.intro (fun g=>?_) (fun g=>?_)
  ·rw [show pO x = if x.k ≠ 0 /\ x.k ≠ 1 then 3 else 0 from if_pos g] at hK
   (try dsimp only[aj]);conv=>whnf
   refine And.intro (fun g=>?_) (fun g=>?_)
   ·(try dsimp only[aj]);conv=>whnf
    refine And.intro (fun g'=>?_) (fun g'=>?_)
    ·have hE:=hK.trans (if_pos ⟨g,g'⟩)
     rw [show aO f.vars i x = 3 from hE]
     (try dsimp only[aj]);conv=>whnf
     refine fM ?_;(conv=>whnf);refine ⟨?_,rfl⟩;conv=>whnf
     all_goals exact wk
    ·have hE:=hK.trans (if_neg (fun h=>g' h.2))
     rw [show aO f.vars i x = 0 from hE]
     (try dsimp only[aj]);conv=>whnf
     refine fM ?_;(conv=>whnf);refine ⟨?_,rfl⟩;conv=>whnf
     all_goals exact wk
   ·have hE:=hK.trans (if_neg (fun h=>g h.1))
    rw [show aO f.vars i x = 0 from hE]
    (try dsimp only[aj]);conv=>whnf
    refine fM ?_;(conv=>whnf);refine ⟨?_,rfl⟩;conv=>whnf
    all_goals exact wk
  have gk:=g
  (try dsimp only[aj]);conv=>whnf
  refine And.intro (fun g=>?_) (fun g=>?_)
  ·rw [show pO x = if x.k < 1 \/ (x.args.length : Int) < x.k then 3 else 0 from (if_neg gk).trans (if_pos g)] at hK
   (try dsimp only[aj]);conv=>whnf
   refine And.intro (fun g=>?_) (fun g=>?_)
   ·have hE:=hK.trans (if_pos (.inl g))
    rw [show aO f.vars i x = 3 from hE]
    (try dsimp only[aj]);conv=>whnf
    refine fM ?_;(conv=>whnf);refine ⟨?_,rfl⟩;conv=>whnf
    all_goals exact wk
   ·(try dsimp only[aj]);conv=>whnf
    refine And.intro (fun g'=>?_) (fun g'=>?_)
    ·have hE:=hK.trans (if_pos (.inr (by simpa using g')))
     rw [show aO f.vars i x = 3 from hE]
     (try dsimp only[aj]);conv=>whnf
     refine fM ?_;(conv=>whnf);refine ⟨?_,rfl⟩;conv=>whnf
     all_goals exact wk
    ·have hE:=hK.trans (if_neg (fun h=>h.elim g (fun h=>g' (by simpa using h))))
     rw [show aO f.vars i x = 0 from hE]
     (try dsimp only[aj]);conv=>whnf
     refine fM ?_;(conv=>whnf);refine ⟨?_,rfl⟩;conv=>whnf
     all_goals exact wk
  rw [show pO x = if x.k ≠ 0 then 2 else 0 from (if_neg gk).trans (if_neg g)] at hK
  (try dsimp only[aj]);conv=>whnf
  refine And.intro (fun g=>?_) (fun g=>?_)
  ·have hE:=hK.trans (if_pos g)
   rw [show aO f.vars i x = 2 from hE]
   (try dsimp only[aj]);conv=>whnf
   refine fM ?_;(conv=>whnf);refine ⟨?_,rfl⟩;conv=>whnf
   all_goals exact wk
  ·have hE:=hK.trans (if_neg g)
   rw [show aO f.vars i x = 0 from hE]
   (try dsimp only[aj]);conv=>whnf
   refine fM ?_;(conv=>whnf);refine ⟨?_,rfl⟩;conv=>whnf
   all_goals exact wk
 (try dsimp only[aj]);conv=>whnf
 refine And.intro (fun g4=>?_) (fun g4=>?_)
 ·replace hE1:=hE1 (by omega)
  (try dsimp only[aj]);conv=>whnf
  refine And.intro (fun _=>?_) (fun h=>absurd g4 h)
  (try dsimp only[aj]);conv=>whnf
  rw [List.length_map]
  refine And.intro (fun g=>?_) (fun g=>?_)
  ·have hE:=hE1.trans (if_pos (hN.2 (.inl g)))
   rw [show aO f.vars i x = 11 from hE]
   (try dsimp only[aj]);conv=>whnf
   refine fM ?_;(conv=>whnf);refine ⟨?_,rfl⟩;conv=>whnf
   all_goals exact wk
  (try dsimp only[aj]);conv=>whnf
  rw [List.length_map]
  refine And.intro (fun g'=>?_) (fun g'=>?_)
  ·have hE:=hE1.trans (if_pos (hN.2 (.inr g')))
   rw [show aO f.vars i x = 11 from hE]
   (try dsimp only[aj]);conv=>whnf
   refine fM ?_;(conv=>whnf);refine ⟨?_,rfl⟩;conv=>whnf
   all_goals exact wk
  have hE2:=hE1.trans (if_neg (fun h=>(hN.1 h).elim g g'))
  clear hE1
  (try dsimp only[aj]);conv=>whnf
  refine aN.of <| aA.inv (.refl _ _) (fun (j : Nat)=>j <= x.args.length /\ (x.args.take j).any (tX f.vars i) = false) (fun (j : Nat)=>[(41,.int .i64 j)]) (fun _=>_) (fun (j : Nat)=>x.args.length - j) 0 ?_ (fun _=>rfl) ?_ ?_
  ·exact ⟨Nat.zero_le _,rfl⟩
  ·all_goals exact wk
  rintro j ⟨hj,hany⟩ _
  (try dsimp only[aj]);conv=>whnf
  refine And.intro (fun g1=>?_) (fun g1=>?_)
  ·have hjl : j < x.args.length:=by simpa using g1
   have hat:=nM hjl hany
   have hin:=List.getElem_mem hjl
   (try dsimp only[aj]);conv=>whnf
   refine iq hjl ?_
   generalize x.args[j] = a at *
   have bad : tX f.vars i a = true -> aO f.vars i x = 10:=fun hb=>hE2.trans (if_pos (List.any_eq_true.2 ⟨a,hin,hb⟩))
   (try dsimp only[aj]);conv=>whnf
   refine And.intro (fun g=>?_) (fun g=>?_)
   ·have hE:=bad (decide_eq_true (.inl g))
    rw [show aO f.vars i x = 10 from hE]
    (try dsimp only[aj]);conv=>whnf
    refine fM ?_;(conv=>whnf);refine ⟨?_,rfl⟩;conv=>whnf
    all_goals exact wk
   (try dsimp only[aj]);conv=>whnf
   refine zA ?_;conv=>whnf
   refine And.intro (fun g'=>?_) (fun g'=>?_)
   ·have hE:=bad (decide_eq_true (.inr g'))
    rw [show aO f.vars i x = 10 from hE]
    (try dsimp only[aj]);conv=>whnf
    refine fM ?_;(conv=>whnf);refine ⟨?_,rfl⟩;conv=>whnf
    all_goals exact wk
   (try dsimp only[aj]);conv=>whnf
   refine zA ?_;conv=>whnf
   refine ⟨j + 1,?_,?_,?_⟩
   ·exact ⟨hjl,hat (decide_eq_false (by omega))⟩
   ·all_goals exact wk
   ·omega
  have hjl : j = x.args.length:=by (have : ¬ j < x.args.length:=by simpa using g1); omega
  subst hjl
  rw [List.take_length] at hany
  have hK:=hE2.trans (if_neg (by rw [hany]; simp))
  clear hE2 g g' hN
  (try dsimp only[aj]);conv=>whnf
  refine And.intro (fun g=>?_) (fun g=>?_)
  ·rw [show pO x = if x.k ≠ 0 /\ x.k ≠ 1 then 3 else 0 from if_pos g] at hK
   (try dsimp only[aj]);conv=>whnf
   refine And.intro (fun g=>?_) (fun g=>?_)
   ·(try dsimp only[aj]);conv=>whnf
    refine And.intro (fun g'=>?_) (fun g'=>?_)
    ·have hE:=hK.trans (if_pos ⟨g,g'⟩)
     rw [show aO f.vars i x = 3 from hE]
     (try dsimp only[aj]);conv=>whnf
     refine fM ?_;(conv=>whnf);refine ⟨?_,rfl⟩;conv=>whnf
     all_goals exact wk
    ·have hE:=hK.trans (if_neg (fun h=>g' h.2))
     rw [show aO f.vars i x = 0 from hE]
     (try dsimp only[aj]);conv=>whnf
     refine fM ?_;(conv=>whnf);refine ⟨?_,rfl⟩;conv=>whnf
     all_goals exact wk
   ·have hE:=hK.trans (if_neg (fun h=>g h.1))
    rw [show aO f.vars i x = 0 from hE]
    (try dsimp only[aj]);conv=>whnf
    refine fM ?_;(conv=>whnf);refine ⟨?_,rfl⟩;conv=>whnf
    all_goals exact wk
  have gk:=g
  (try dsimp only[aj]);conv=>whnf
  refine And.intro (fun g=>?_) (fun g=>?_)
  ·rw [show pO x = if x.k < 1 \/ (x.args.length : Int) < x.k then 3 else 0 from (if_neg gk).trans (if_pos g)] at hK
   (try dsimp only[aj]);conv=>whnf
   refine And.intro (fun g=>?_) (fun g=>?_)
   ·have hE:=hK.trans (if_pos (.inl g))
    rw [show aO f.vars i x = 3 from hE]
    (try dsimp only[aj]);conv=>whnf
    refine fM ?_;(conv=>whnf);refine ⟨?_,rfl⟩;conv=>whnf
    all_goals exact wk
   ·(try dsimp only[aj]);conv=>whnf
    refine And.intro (fun g'=>?_) (fun g'=>?_)
    ·have hE:=hK.trans (if_pos (.inr (by simpa using g')))
     rw [show aO f.vars i x = 3 from hE]
     (try dsimp only[aj]);conv=>whnf
     refine fM ?_;(conv=>whnf);refine ⟨?_,rfl⟩;conv=>whnf
     all_goals exact wk
    ·have hE:=hK.trans (if_neg (fun h=>h.elim g (fun h=>g' (by simpa using h))))
     rw [show aO f.vars i x = 0 from hE]
     (try dsimp only[aj]);conv=>whnf
     refine fM ?_;(conv=>whnf);refine ⟨?_,rfl⟩;conv=>whnf
     all_goals exact wk
  rw [show pO x = if x.k ≠ 0 then 2 else 0 from (if_neg gk).trans (if_neg g)] at hK
  (try dsimp only[aj]);conv=>whnf
  refine And.intro (fun g=>?_) (fun g=>?_)
  ·have hE:=hK.trans (if_pos g)
   rw [show aO f.vars i x = 2 from hE]
   (try dsimp only[aj]);conv=>whnf
   refine fM ?_;(conv=>whnf);refine ⟨?_,rfl⟩;conv=>whnf
   all_goals exact wk
  ·have hE:=hK.trans (if_neg g)
   rw [show aO f.vars i x = 0 from hE]
   (try dsimp only[aj]);conv=>whnf
   refine fM ?_;(conv=>whnf);refine ⟨?_,rfl⟩;conv=>whnf
   all_goals exact wk
 (try dsimp only[aj]);conv=>whnf
 refine And.intro (fun g5=>?_) (fun g5=>?_)
 ·replace hE1:=hE1 (by omega)
  (try dsimp only[aj]);conv=>whnf
  rw [List.length_map]
  refine And.intro (fun g=>?_) (fun g=>?_)
  ·have hE:=hE1.trans (if_pos (hN.2 (.inl g)))
   rw [show aO f.vars i x = 11 from hE]
   (try dsimp only[aj]);conv=>whnf
   refine fM ?_;(conv=>whnf);refine ⟨?_,rfl⟩;conv=>whnf
   all_goals exact wk
  (try dsimp only[aj]);conv=>whnf
  rw [List.length_map]
  refine And.intro (fun g'=>?_) (fun g'=>?_)
  ·have hE:=hE1.trans (if_pos (hN.2 (.inr g')))
   rw [show aO f.vars i x = 11 from hE]
   (try dsimp only[aj]);conv=>whnf
   refine fM ?_;(conv=>whnf);refine ⟨?_,rfl⟩;conv=>whnf
   all_goals exact wk
  have hE2:=hE1.trans (if_neg (fun h=>(hN.1 h).elim g g'))
  clear hE1
  (try dsimp only[aj]);conv=>whnf
  refine aN.of <| aA.inv (.refl _ _) (fun (j : Nat)=>j <= x.args.length /\ (x.args.take j).any (tX f.vars i) = false) (fun (j : Nat)=>[(41,.int .i64 j)]) (fun _=>_) (fun (j : Nat)=>x.args.length - j) 0 ?_ (fun _=>rfl) ?_ ?_
  ·exact ⟨Nat.zero_le _,rfl⟩
  ·all_goals exact wk
  rintro j ⟨hj,hany⟩ _
  (try dsimp only[aj]);conv=>whnf
  refine And.intro (fun g1=>?_) (fun g1=>?_)
  ·have hjl : j < x.args.length:=by simpa using g1
   have hat:=nM hjl hany
   have hin:=List.getElem_mem hjl
   (try dsimp only[aj]);conv=>whnf
   refine iq hjl ?_
   generalize x.args[j] = a at *
   have bad : tX f.vars i a = true -> aO f.vars i x = 10:=fun hb=>hE2.trans (if_pos (List.any_eq_true.2 ⟨a,hin,hb⟩))
   (try dsimp only[aj]);conv=>whnf
   refine And.intro (fun g=>?_) (fun g=>?_)
   ·have hE:=bad (decide_eq_true (.inl g))
    rw [show aO f.vars i x = 10 from hE]
    (try dsimp only[aj]);conv=>whnf
    refine fM ?_;(conv=>whnf);refine ⟨?_,rfl⟩;conv=>whnf
    all_goals exact wk
   (try dsimp only[aj]);conv=>whnf
   refine zA ?_;conv=>whnf
   refine And.intro (fun g'=>?_) (fun g'=>?_)
   ·have hE:=bad (decide_eq_true (.inr g'))
    rw [show aO f.vars i x = 10 from hE]
    (try dsimp only[aj]);conv=>whnf
    refine fM ?_;(conv=>whnf);refine ⟨?_,rfl⟩;conv=>whnf
    all_goals exact wk
   (try dsimp only[aj]);conv=>whnf
   refine zA ?_;conv=>whnf
   refine ⟨j + 1,?_,?_,?_⟩
   ·exact ⟨hjl,hat (decide_eq_false (by omega))⟩
   ·all_goals exact wk
   ·omega
  have hjl : j = x.args.length:=by (have : ¬ j < x.args.length:=by simpa using g1); omega
  subst hjl
  rw [List.take_length] at hany
  have hK:=hE2.trans (if_neg (by rw [hany]; simp))
  clear hE2 g g' hN
  (try dsimp only[aj]);conv=>whnf
  refine And.intro (fun g=>?_) (fun g=>?_)
  ·rw [show pO x = if x.k ≠ 0 /\ x.k ≠ 1 then 3 else 0 from if_pos g] at hK
   (try dsimp only[aj]);conv=>whnf
   refine And.intro (fun g=>?_) (fun g=>?_)
   ·(try dsimp only[aj]);conv=>whnf
    refine And.intro (fun g'=>?_) (fun g'=>?_)
    ·have hE:=hK.trans (if_pos ⟨g,g'⟩)
     rw [show aO f.vars i x = 3 from hE]
     (try dsimp only[aj]);conv=>whnf
     refine fM ?_;(conv=>whnf);refine ⟨?_,rfl⟩;conv=>whnf
     all_goals exact wk
    ·have hE:=hK.trans (if_neg (fun h=>g' h.2))
     rw [show aO f.vars i x = 0 from hE]
     (try dsimp only[aj]);conv=>whnf
     refine fM ?_;(conv=>whnf);refine ⟨?_,rfl⟩;conv=>whnf
     all_goals exact wk
   ·have hE:=hK.trans (if_neg (fun h=>g h.1))
    rw [show aO f.vars i x = 0 from hE]
    (try dsimp only[aj]);conv=>whnf
    refine fM ?_;(conv=>whnf);refine ⟨?_,rfl⟩;conv=>whnf
    all_goals exact wk
  have gk:=g
  (try dsimp only[aj]);conv=>whnf
  refine And.intro (fun g=>?_) (fun g=>?_)
  ·rw [show pO x = if x.k < 1 \/ (x.args.length : Int) < x.k then 3 else 0 from (if_neg gk).trans (if_pos g)] at hK
   (try dsimp only[aj]);conv=>whnf
   refine And.intro (fun g=>?_) (fun g=>?_)
   ·have hE:=hK.trans (if_pos (.inl g))
    rw [show aO f.vars i x = 3 from hE]
    (try dsimp only[aj]);conv=>whnf
    refine fM ?_;(conv=>whnf);refine ⟨?_,rfl⟩;conv=>whnf
    all_goals exact wk
   ·(try dsimp only[aj]);conv=>whnf
    refine And.intro (fun g'=>?_) (fun g'=>?_)
    ·have hE:=hK.trans (if_pos (.inr (by simpa using g')))
     rw [show aO f.vars i x = 3 from hE]
     (try dsimp only[aj]);conv=>whnf
     refine fM ?_;(conv=>whnf);refine ⟨?_,rfl⟩;conv=>whnf
     all_goals exact wk
    ·have hE:=hK.trans (if_neg (fun h=>h.elim g (fun h=>g' (by simpa using h))))
     rw [show aO f.vars i x = 0 from hE]
     (try dsimp only[aj]);conv=>whnf
     refine fM ?_;(conv=>whnf);refine ⟨?_,rfl⟩;conv=>whnf
     all_goals exact wk
  rw [show pO x = if x.k ≠ 0 then 2 else 0 from (if_neg gk).trans (if_neg g)] at hK
  (try dsimp only[aj]);conv=>whnf
  refine And.intro (fun g=>?_) (fun g=>?_)
  ·have hE:=hK.trans (if_pos g)
   rw [show aO f.vars i x = 2 from hE]
   (try dsimp only[aj]);conv=>whnf
   refine fM ?_;(conv=>whnf);refine ⟨?_,rfl⟩;conv=>whnf
   all_goals exact wk
  ·have hE:=hK.trans (if_neg g)
   rw [show aO f.vars i x = 0 from hE]
   (try dsimp only[aj]);conv=>whnf
   refine fM ?_;(conv=>whnf);refine ⟨?_,rfl⟩;conv=>whnf
   all_goals exact wk
 ·have hE : aO f.vars i x = 7:=if_pos (by omega)
  rw [show aO f.vars i x = 7 from hE]
  (try dsimp only[aj]);conv=>whnf
  refine fM ?_;(conv=>whnf);refine ⟨?_,rfl⟩;conv=>whnf
  all_goals exact wk

theorem Nw (f : Fo) (hv : 0 <= f.vars /\ f.vars <= 24) : aQ Tryz.prog 41 [f.av,.int .i64 f.top] [] (.bool (decide (0 <= f.top /\ f.top < f.vars + f.nodes.length))) []:=by
 refine aQ.intro lay mixed Tryz.func41 (by kernel_rfl) rfl (by kernel_rfl) rfl fun hok=>?_
 have hi1 : -9223372036854775808 <= f.top /\ f.top <= 9223372036854775807:=hok.1.2.2.1
 (try dsimp only[aP,aC]);(try dsimp only[aj]);conv=>whnf
 refine And.intro (fun _=>?_) (fun g=>by exfalso; omega)
 (try dsimp only[aj]);conv=>whnf
 refine And.intro (fun g0=>?_) (fun g0=>?_)
 ·(try dsimp only[aj]);conv=>whnf
  refine And.intro (fun g=>?_) (fun g=>?_)
  ·(try dsimp only[aj]);conv=>whnf
   refine fM ?_;(conv=>whnf);refine ⟨?_,rfl⟩;conv=>whnf
   exact decide_eq_true (by omega)
  ·(try dsimp only[aj]);conv=>whnf
   refine zA ?_;conv=>whnf
   refine fM ?_;(conv=>whnf);refine ⟨?_,rfl⟩;conv=>whnf
   show (f.top - f.vars < (((f.nodes.map Nd.av).length : Nat) : Int)) ↔ _
   rw [decide_eq_true_iff,List.length_map]
   omega
 ·(try dsimp only[aj]);conv=>whnf
  refine fM ?_;(conv=>whnf);refine ⟨?_,rfl⟩;conv=>whnf
  exact decide_eq_false (by omega)

theorem Ny (f : Fo) : aQ Tryz.prog 20 [f.av] [] (.int .i64 (nZ f)) []:=by
 refine aQ.intro lay mixed Tryz.func20 (by kernel_rfl) rfl (by kernel_rfl) rfl fun hok=>?_
 (try dsimp only[aP,aC]);(try dsimp only[aj]);conv=>whnf
 refine And.intro (fun g=>?_) (fun g=>?_)
 ·have hE : nZ f = 3:=if_pos (.inl g)
  rw [show nZ f = 3 from hE]
  (try dsimp only[aj]);conv=>whnf
  refine fM ?_;(conv=>whnf);refine ⟨?_,rfl⟩;conv=>whnf
  all_goals exact wk
 (try dsimp only[aj]);conv=>whnf
 refine And.intro (fun g'=>?_) (fun g'=>?_)
 ·have hE : nZ f = 3:=if_pos (.inr g')
  rw [show nZ f = 3 from hE]
  (try dsimp only[aj]);conv=>whnf
  refine fM ?_;(conv=>whnf);refine ⟨?_,rfl⟩;conv=>whnf
  all_goals exact wk
 have hE1 : nZ f = if 128 < f.nodes.length then 4 else if mO f.vars 0 f.nodes ≠ 0 then mO f.vars 0 f.nodes else if ¬ (0 <= f.top /\ f.top < f.vars + f.nodes.length) then 10 else 0:=if_neg (by omega)
 (try dsimp only[aj]);conv=>whnf
 rw [List.length_map]
 refine And.intro (fun g2=>?_) (fun g2=>?_)
 ·have hE:=hE1.trans (if_pos (by omega))
  rw [show nZ f = 4 from hE]
  (try dsimp only[aj]);conv=>whnf
  refine fM ?_;(conv=>whnf);refine ⟨?_,rfl⟩;conv=>whnf
  all_goals exact wk
 have hE2:=hE1.trans (if_neg (by omega))
 clear hE1
 have cv:=Nw f (by omega)
 have cn:=fun i hi=>Q5 f (by omega) i hi (by omega)
 (try dsimp only[aj]);conv=>whnf
 refine aN.of <| aA.inv (.refl _ _) (fun (i : Nat)=>i <= f.nodes.length /\ mO f.vars 0 f.nodes = mO f.vars i (f.nodes.drop i)) (fun (i : Nat)=>[(20,.int .i64 i)]) (fun _=>_) (fun (i : Nat)=>f.nodes.length - i) 0 ?_ (fun _=>rfl) ?_ ?_
 ·exact ⟨Nat.zero_le _,rfl⟩
 ·all_goals exact wk
 rintro i ⟨hi,hnd⟩ _
 (try dsimp only[aj]);conv=>whnf
 refine And.intro (fun g1=>?_) (fun g1=>?_)
 ·have hil : i < f.nodes.length:=by simpa using g1
  have cni:=cn i hil
  rw [JF hil] at hnd
  by_cases he : aO f.vars i f.nodes[i] ≠ 0
  ·rw [if_pos he] at hnd
   have hE:=hE2.trans (if_pos (by rw [hnd]; exact he))
   rw [hnd] at hE
   rw [hE]
   generalize aO f.vars i f.nodes[i] = ee at *
   (try dsimp only[aj]);conv=>whnf
   refine .pure _ _ ?_ ⟨rfl,rfl⟩ cni fun _=>?_
   ·exact au _
   (try dsimp only[aj]);conv=>whnf
   refine And.intro (fun _=>?_) (fun h=>absurd he h)
   (try dsimp only[aj]);conv=>whnf
   refine fM ?_;(conv=>whnf);refine ⟨?_,rfl⟩;conv=>whnf
   all_goals exact wk
  ·rw [if_neg he] at hnd
   have he0 : aO f.vars i f.nodes[i] = 0:=by simpa using he
   rw [he0] at cni
   (try dsimp only[aj]);conv=>whnf
   refine .pure _ _ ?_ ⟨rfl,rfl⟩ cni fun _=>?_
   ·exact au _
   (try dsimp only[aj]);conv=>whnf
   refine And.intro (fun h=>absurd rfl h) (fun _=>?_)
   (try dsimp only[aj]);conv=>whnf
   refine zA ?_;conv=>whnf
   refine ⟨i + 1,?_,?_,?_⟩
   ·exact ⟨hil,hnd⟩
   ·all_goals exact wk
   ·omega
 have hil : i = f.nodes.length:=by (have : ¬ i < f.nodes.length:=by simpa using g1); omega
 subst hil
 rw [List.drop_length] at hnd
 have hE3:=hE2.trans (if_neg (by rw [hnd]; simp [mO]))
 (try dsimp only[aj]);conv=>whnf
 refine .pure _ _ ?_ ⟨rfl,rfl⟩ cv fun _=>?_
 ·exact au _
 (try dsimp only[aj]);conv=>whnf
 refine And.intro (fun g4=>?_) (fun g4=>?_)
 ·have hE:=hE3.trans (if_pos (fun h=>by rw [decide_eq_true h] at g4; cases g4))
  rw [show nZ f = 10 from hE]
  (try dsimp only[aj]);conv=>whnf
  refine fM ?_;(conv=>whnf);refine ⟨?_,rfl⟩;conv=>whnf
  all_goals exact wk
 ·have hE:=hE3.trans (if_neg (fun h=>by rw [decide_eq_false h] at g4; cases g4))
  rw [show nZ f = 0 from hE]
  (try dsimp only[aj]);conv=>whnf
  refine fM ?_;(conv=>whnf);refine ⟨?_,rfl⟩;conv=>whnf
  all_goals exact wk



theorem Kr {v set a : Nat} (h : a < v) : (evs v set).getD a false = set.testBit a:=by
 unfold evs
 rw [List.getD_eq_getElem?_getD,List.getElem?_map,List.getElem?_range h]; rfl


def o1 (x : Int) : Int:=IntKind.u64.wrap (dI .and .u64 (uX .u64 x 1) 6148914691236517205 + dI .and .u64 x 6148914691236517205)
def o2 (x : Int) : Int:=IntKind.u64.wrap (dI .and .u64 (uX .u64 x 2) 3689348814741910323 + dI .and .u64 x 3689348814741910323)
def o3 (x : Int) : Int:=dI .and .u64 (IntKind.u64.wrap (uX .u64 x 4 + x)) 1085102592571150095
def o4 (n x : Int) : Int:=IntKind.u64.wrap (x + uX .u64 x n)
def ones (x : Int) : Int:=dI .and .i64 (IntKind.i64.wrap (o4 32 (o4 16 (o4 8 (o3 (o2 (o1 x))))))) 127

theorem UW (x : Int) : aQ Tryz.prog 81 [.int .u64 x] [] (.int .i64 (ones x)) []:=by
 refine aQ.intro lay mixed Tryz.func81 (by kernel_rfl) rfl (by kernel_rfl) rfl fun hok=>?_
 (try dsimp only[aP,aC]);(try dsimp only[aj]);conv=>whnf
 iterate 6 (refine ⟨by decide,?_⟩; (conv=>whnf))
 refine fM ?_;(conv=>whnf);refine ⟨?_,rfl⟩;conv=>whnf
 exact ⟨rfl,rfl⟩

theorem YX (x : Int) : aQ Tryz.prog 64 [.int .u64 x] [] (.int .i64 (ones x)) []:=by
 have c:=UW x
 refine aQ.intro lay mixed Tryz.func64 (by kernel_rfl) rfl (by kernel_rfl) rfl fun hok=>?_
 (try dsimp only[aP,aC]);(try dsimp only[aj]);conv=>whnf
 refine .pure _ _ ?_ ⟨rfl,rfl⟩ c fun _=>?_
 ·exact au _
 (try dsimp only[aj]);conv=>whnf
 refine fM ?_;(conv=>whnf);refine ⟨?_,rfl⟩;conv=>whnf
 all_goals exact wk

def oh (s : Int) : Int:=dI .and .i64 s 16777215
def qp (s : Int) : Int:=ones (IntKind.u64.wrap (oh s))

theorem O8 {s : Int} (h0 : 0 <= s) (h1 : s < 16777216) : oh s = s:=by
 obtain ⟨n,rfl⟩ : ∃ n : Nat,s = n:=⟨s.toNat,by omega⟩
 show dI .and .i64 (n : Int) ((16777215 : Nat) : Int) = _
 rw [rC (by omega) (by omega)]
 congr 1
 have:=Nat.and_two_pow_sub_one_of_lt_two_pow (n:=24) (x:=n) (by omega)
 exact this

theorem KU (s : Int) : aQ Tryz.prog 65 [.int .i64 s] [] (.int .i64 (oh s)) []:=by
 refine aQ.intro lay mixed Tryz.func65 (by kernel_rfl) rfl (by kernel_rfl) rfl fun hok=>?_
 (try dsimp only[aP,aC]);(try dsimp only[aj]);conv=>whnf
 refine fM ?_;(conv=>whnf);refine ⟨?_,rfl⟩;conv=>whnf
 all_goals exact wk

theorem BA (s : Int) : aQ Tryz.prog 44 [.int .i64 s] [] (.int .i64 (qp s)) []:=by
 have c1:=KU s
 have c2:=YX (IntKind.u64.wrap (oh s))
 rw [show ones (IntKind.u64.wrap (oh s)) = qp s from rfl] at c2
 generalize oh s = x at *
 refine aQ.intro lay mixed Tryz.func44 (by kernel_rfl) rfl (by kernel_rfl) rfl fun hok=>?_
 (try dsimp only[aP,aC]);(try dsimp only[aj]);conv=>whnf
 refine .pure _ _ ?_ ⟨rfl,rfl⟩ c1 fun _=>?_
 ·exact au _
 (try dsimp only[aj]);conv=>whnf
 refine .pure _ _ ?_ ⟨rfl,rfl⟩ c2 fun _=>?_
 ·exact au _
 (try dsimp only[aj]);conv=>whnf
 refine fM ?_;(conv=>whnf);refine ⟨?_,rfl⟩;conv=>whnf
 all_goals exact wk

theorem Pj (x : Int) : aQ Tryz.prog 93 [.int .i64 x] [] .ff []:=by
 refine aQ.intro lay mixed Tryz.func93 (by kernel_rfl) rfl (by kernel_rfl) rfl fun hok=>?_
 (try dsimp only[aP,aC]);(try dsimp only[aj]);conv=>whnf
 refine fM ?_;(conv=>whnf);refine ⟨?_,rfl⟩;conv=>whnf
 show ¬ x ≠ x
 simp

def A8 (a b : Int) : Int:=if a < b then -1 else if a > b then 1 else 0

theorem UR (a b : Int) : aQ Tryz.prog 82 [.int .i64 a,.int .i64 b] [] (.int .i64 (A8 a b)) []:=by
 have c1:=Pj a
 have c2:=Pj b
 refine aQ.intro lay mixed Tryz.func82 (by kernel_rfl) rfl (by kernel_rfl) rfl fun hok=>?_
 (try dsimp only[aP,aC]);(try dsimp only[aj]);conv=>whnf
 refine .pure _ _ ?_ ⟨rfl,rfl⟩ c1 fun _=>?_
 ·exact au _
 (try dsimp only[aj]);conv=>whnf
 refine .pure _ _ ?_ ⟨rfl,rfl⟩ c2 fun _=>?_
 ·exact au _
 (try dsimp only[aj]);conv=>whnf
 refine And.intro (fun g=>?_) (fun g=>?_)
 ·rw [show A8 a b = -1 from if_pos g]
  (try dsimp only[aj]);conv=>whnf
  refine fM ?_;(conv=>whnf);refine ⟨?_,rfl⟩;conv=>whnf
  all_goals exact wk
 (try dsimp only[aj]);conv=>whnf
 refine And.intro (fun g1=>?_) (fun g1=>?_)
 ·rw [show A8 a b = 1 from (if_neg g).trans (if_pos g1)]
  (try dsimp only[aj]);conv=>whnf
  refine fM ?_;(conv=>whnf);refine ⟨?_,rfl⟩;conv=>whnf
  all_goals exact wk
 ·rw [show A8 a b = 0 from (if_neg g).trans (if_neg g1)]
  (try dsimp only[aj]);conv=>whnf
  refine fM ?_;(conv=>whnf);refine ⟨?_,rfl⟩;conv=>whnf
  all_goals exact wk

def Nu (a b : Int) : Int:=if A8 (qp a) (qp b) ≠ 0 then A8 (qp a) (qp b) else A8 (oh a) (oh b)

theorem NJ (a b : Int) : aQ Tryz.prog 66 [.int .i64 a,.int .i64 b] [] (.int .i64 (Nu a b)) []:=by
 have c1:=BA a
 have c2:=BA b
 have c3:=UR (qp a) (qp b)
 have c4:=KU a
 have c5:=KU b
 have c6:=UR (oh a) (oh b)
 have e : Nu a b = if A8 (qp a) (qp b) ≠ 0 then A8 (qp a) (qp b) else A8 (oh a) (oh b):=rfl
 generalize A8 (oh a) (oh b) = y at *
 generalize A8 (qp a) (qp b) = x at *
 generalize qp a = u at *
 generalize qp b = v at *
 generalize oh a = p at *
 generalize oh b = q at *
 rw [e]
 refine aQ.intro lay mixed Tryz.func66 (by kernel_rfl) rfl (by kernel_rfl) rfl fun hok=>?_
 (try dsimp only[aP,aC]);(try dsimp only[aj]);conv=>whnf
 refine .pure _ _ ?_ ⟨rfl,rfl⟩ c1 fun _=>?_
 ·exact au _
 (try dsimp only[aj]);conv=>whnf
 refine .pure _ _ ?_ ⟨rfl,rfl⟩ c2 fun _=>?_
 ·exact au _
 (try dsimp only[aj]);conv=>whnf
 refine .pure _ _ ?_ ⟨rfl,rfl⟩ c3 fun _=>?_
 ·exact au _
 (try dsimp only[aj]);conv=>whnf
 refine And.intro (fun g=>?_) (fun g=>?_)
 ·rw [if_pos g]
  (try dsimp only[aj]);conv=>whnf
  refine fM ?_;(conv=>whnf);refine ⟨?_,rfl⟩;conv=>whnf
  all_goals exact wk
 rw [if_neg g]
 (try dsimp only[aj]);conv=>whnf
 refine .pure _ _ ?_ ⟨rfl,rfl⟩ c4 fun _=>?_
 ·exact au _
 (try dsimp only[aj]);conv=>whnf
 refine .pure _ _ ?_ ⟨rfl,rfl⟩ c5 fun _=>?_
 ·exact au _
 (try dsimp only[aj]);conv=>whnf
 refine .pure _ _ ?_ ⟨rfl,rfl⟩ c6 fun _=>?_
 ·exact au _
 (try dsimp only[aj]);conv=>whnf
 refine fM ?_;(conv=>whnf);refine ⟨?_,rfl⟩;conv=>whnf
 all_goals exact wk

section
variable {α : Type} [Inhabited α]

def swp (l : List α) (i j : Nat) : List α:=(l.set i (l.getD j default)).set j (l.getD i default)

theorem Hg (l : List α) (i j : Nat) : (swp l i j).length = l.length:=by simp [swp]

theorem fP {l : List α} {i j : Nat} (hi : i < l.length) (hj : j < l.length) : (swp l i j).Perm l:=by
 unfold swp
 rw [List.getD_eq_getElem?_getD,List.getD_eq_getElem?_getD,List.getElem?_eq_getElem hi,List.getElem?_eq_getElem hj]
 exact List.set_set_perm hi hj

def Xr (cf : α -> α -> Int) (a : Nat) : Nat -> List α -> List α
 | 0,l=>l
 | j + 1,l=>if a < j + 1 /\ cf (l.getD (j + 1) default) (l.getD j default) < 0 then Xr cf a j (swp l (j + 1) j) else l

def E5 (cf : α -> α -> Int) (a : Nat) : Nat -> List α -> List α
 | 0,l=>l
 | k + 1,l=>Xr cf a (a + 1 + k) (E5 cf a k l)

def Qw (cf : α -> α -> Int) (a b : Nat) (l : List α) : List α:=E5 cf a (b - (a + 1)) l

theorem KW (cf : α -> α -> Int) (a : Nat) : ∀ (j : Nat) (l : List α),j < l.length -> (Xr cf a j l).Perm l
 | 0,l,_=>.refl _
 | j + 1,l,h=>by
   unfold Xr
   split
   ·exact (KW cf a j _ (by rw [Hg]; omega)).trans (fP h (by omega))
   ·exact .refl _

theorem zk (cf : α -> α -> Int) (a : Nat) (l : List α) : ∀ k,a + k < l.length \/ k = 0 -> (E5 cf a k l).Perm l
 | 0,_=>.refl _
 | k + 1,h=>by
   have ih:=zk cf a l k (by omega)
   unfold E5
   exact (KW cf a _ _ (by rw [ih.length_eq]; omega)).trans ih

theorem F7 (cf : α -> α -> Int) {a b : Nat} {l : List α} (h : b <= l.length) : (Qw cf a b l).Perm l :=
 zk cf a l _ (by omega)
end

theorem aX {α : Type} [Inhabited α] {f : α -> AV} {l : List α} {i : Nat} {z : Int} {k : AV -> Prop} (hz : z = (i : Int)) (h : i < l.length) (hk : k (f (l.getD i default))) : kE (l.map f) ((0 + z.toNat : Nat) : Int) k:=by
 subst hz
 refine ⟨⟨f (l.getD i default),⟨by omega,?_⟩,hk⟩⟩
 simp [List.getD_eq_getElem?_getD,h]

theorem iJ {α : Type} [Inhabited α] {f : α -> AV} {l : List α} {i j : Nat} {y z : Int} (hy : y = (i : Int)) (hz : z = (j : Int)) :
  ((l.map f).set (0 + y.toNat) (f (l.getD j default))).set (0 + z.toNat) (f (l.getD i default)) = (swp l i j).map f:=by
 subst hy hz
 simp only [swp,Int.toNat_natCast,Nat.zero_add,List.map_set]

abbrev jW (cp : Nat) (l : List Int) : Heap:=[(0,.arr 1 cp (l.map (.int .i64)))]

def zQ (cf : Int -> Int -> Int) (g : Nat) : Prop:=∀ x y : Int,aQ Tryz.prog g [.int .i64 x,.int .i64 y] [] (.int .i64 (cf x y)) []

theorem XY {cf : Int -> Int -> Int} {g : Nat} (hcf : zQ cf g) (n cp a b : Nat) (hN : n <= 4611686018427387904) (ha : a <= n) (hb : b <= n) (l : List Int) (hl : l.length = n) :
  aQ Tryz.prog 101 [.ms 0 0 n cp 1,.int .i64 a,.int .i64 b,.fn g []] (jW cp l) (.dA []) (jW cp (Qw cf a b l)):=by
 refine aQ.intro lay mixed Tryz.func101 (by kernel_rfl) rfl (by kernel_rfl) rfl fun hok=>?_
 (try dsimp only[aP,aC]);(try dsimp only[aj]);conv=>whnf
 refine zA ?_;conv=>whnf
 refine aN.of <| (aA.inv (.refl _ _) (fun k : Nat=>k <= b - (a + 1)) (fun k=>[(8,.int .i64 ((a + 1 + k : Nat) : Int))]) (fun k=>jW cp (E5 cf a k l)) (fun k=>b - (a + 1) - k) 0 (Nat.zero_le _) ?_ ?_ ?_)
 ·exact fun _=>rfl
 ·refine ⟨?_,.mk ?_ (by simp [ak])⟩
  ·all_goals exact wk
  ·all_goals exact wk
 intro k hk _
 have hlk : (E5 cf a k l).length = n:=by rw [(zk cf a l k (by omega)).length_eq,hl]
 generalize hm0 : E5 cf a k l = m0 at *
 (try dsimp only[aj]);conv=>whnf
 refine And.intro (fun g1=>?_) (fun g1=>?_)
 ·have hib : a + 1 + k < b:=by omega
  have hstep : E5 cf a (k + 1) l = Xr cf a (a + 1 + k) m0:=by rw [<- hm0]; rfl
  (try dsimp only[aj]);conv=>whnf
  refine aN.of <| (aA.inv (.refl _ _) (fun x : Nat × List Int=>x.1 <= a + 1 + k /\ x.2.length = n /\ Xr cf a x.1 x.2 = E5 cf a (k + 1) l) (fun x=>[(9,.int .i64 (x.1 : Int))]) (fun x=>jW cp x.2) (fun x=>x.1) (a + 1 + k,m0) ?_ ?_ ?_ ?_)
  ·exact ⟨Nat.le_refl _,hlk,hstep.symm⟩
  ·exact fun _=>rfl
  ·refine ⟨?_,.mk ?_ (by simp [ak])⟩
   ·all_goals exact wk
   ·all_goals exact wk
  rintro ⟨j,m⟩ ⟨hj,hml,JV⟩ _
  dsimp only at hj hml JV ⊢
  (try dsimp only[aj]);conv=>whnf
  refine aY.auto (by kernel_rfl) ?_;conv=>whnf
  have hmj : j < m.length:=by omega
  refine And.intro (fun p=>?_) (fun p=>?_)
  ·have pj : a < j:=by omega
   obtain ⟨j,rfl⟩ : ∃ i,j = i + 1:=⟨j - 1,by omega⟩
   conv=>whnf
   refine ⟨by omega,?_⟩
   conv=>whnf
   refine aX (i:=j + 1) rfl (by omega) ⟨rfl,?_⟩
   conv=>whnf
   refine zA ?_;conv=>whnf
   refine ⟨by omega,?_⟩
   conv=>whnf
   refine aX (i:=j) (by omega) (by omega) ⟨rfl,?_⟩
   conv=>whnf
   refine dV.pure _ _ ?_ ⟨rfl,rfl⟩ (hcf (m.getD (j + 1) default) (m.getD j default)) ?_
   ·exact au _
   (try dsimp only[aj]);conv=>whnf
   refine And.intro (fun p2=>?_) (fun p2=>?_)
   ·rw [Xr,if_pos ⟨by omega,p2⟩] at JV
    (try dsimp only[aj]);conv=>whnf
    refine aY.auto (by kernel_rfl) ?_;conv=>whnf
    refine zA ?_;conv=>whnf
    refine zA ?_;conv=>whnf
    refine ⟨by omega,?_⟩
    conv=>whnf
    refine aX (i:=j) (by omega) (by omega) ⟨rfl,?_⟩
    conv=>whnf
    refine ⟨by omega,?_⟩
    conv=>whnf
    refine aX (i:=j + 1) rfl (by omega) ⟨rfl,?_⟩
    conv=>whnf
    refine ⟨by omega,?_⟩
    conv=>whnf
    refine ⟨by simp; omega,rfl,?_⟩
    conv=>whnf
    refine ⟨by omega,?_⟩
    conv=>whnf
    refine ⟨by simp; omega,rfl,?_⟩
    (try dsimp only[aj]);conv=>whnf
    refine zA ?_;conv=>whnf
    refine ⟨(j,swp m (j + 1) j),?_,?_,?_⟩
    ·exact ⟨by omega,by rw [Hg]; exact hml,JV⟩
    ·refine ⟨?_,.mk ?_ (by simp [ak])⟩
     ·repeat' first|exact rfl|exact trivial|exact wR|exact lR _|apply aI
      all_goals first | omega | skip
     ·repeat' first|exact rfl|exact trivial|exact wR|exact lR _|apply aI
      all_goals (refine bM ?_; exact iJ rfl (by omega))
    ·exact Nat.lt_succ_self j
   ·rw [Xr,if_neg (fun h=>p2 h.2)] at JV
    (try dsimp only[aj]);conv=>whnf
    refine zA ?_;conv=>whnf
    refine ⟨k + 1,?_,?_,?_⟩
    ·show k + 1 <= b - (a + 1)
     omega
    ·rw [<- JV]
     refine ⟨?_,.mk ?_ (by simp [ak])⟩
     ·repeat' first|exact rfl|exact trivial|exact wR|exact lR _|apply aI
      all_goals first | omega | skip
     ·all_goals exact wk
    ·show b - (a + 1) - (k + 1) < b - (a + 1) - k
     omega
  ·have JV : m = E5 cf a (k + 1) l:=by
    rw [<- JV]
    cases j with
    | zero=>rfl
    | succ j=>rw [Xr,if_neg (fun h=>p (by omega))]
   (try dsimp only[aj]);conv=>whnf
   refine zA ?_;conv=>whnf
   refine ⟨k + 1,?_,?_,?_⟩
   ·show k + 1 <= b - (a + 1)
    omega
   ·rw [<- JV]
    refine ⟨?_,.mk ?_ (by simp [ak])⟩
    ·repeat' first|exact rfl|exact trivial|exact wR|exact lR _|apply aI
     all_goals first | omega | skip
    ·all_goals exact wk
   ·show b - (a + 1) - (k + 1) < b - (a + 1) - k
    omega
 ·have hk' : k = b - (a + 1):=by omega
  subst hk'
  rw [show Qw cf a b l = m0 from hm0]
  (try dsimp only[aj]);conv=>whnf
  refine ⟨⟨_,_,.refl _ _,?_⟩⟩
  conv=>whnf
  refine ⟨?_,rfl,by simp [nextId],.mk ?_ (by simp [ak])⟩
  ·all_goals exact wk
  ·all_goals exact wk

def LK (cp : Nat) (l : List Int) : AV -> Heap -> Prop:=fun R H'=>R = .dA [] /\ ∃ l',List.Perm l' l /\ H' = jW cp l'

theorem Ux {cf : Int -> Int -> Int} {g : Nat} (hcf : zQ cf g) (n cp lo hi first : Nat) (hN : n <= 1152921504606846976) (hlo : lo <= n) (hf : first + hi <= n) (l : List Int) (hl : l.length = n) :
  dO Tryz.prog 111 [.ms 0 0 n cp 1,.int .i64 lo,.int .i64 hi,.int .i64 first,.fn g []] (jW cp l) (LK cp l):=by
 refine dO.intro lay mixed Tryz.func111 (by kernel_rfl) rfl (by kernel_rfl) rfl fun hok=>?_
 (try dsimp only[aP,aC]);(try dsimp only[aj]);conv=>whnf
 refine aN.of <| (aA.inv (.refl _ _) (fun x : Nat × List Int=>x.1 <= n /\ List.Perm x.2 l) (fun x=>[(10,.int .i64 (x.1 : Int))]) (fun x=>jW cp x.2) (fun x=>n + 1 - x.1) (lo,l) ?_ ?_ ?_ ?_)
 ·exact ⟨hlo,.refl _⟩
 ·exact fun _=>rfl
 ·refine ⟨?_,.mk ?_ (by simp [ak])⟩
  ·all_goals exact wk
  ·all_goals exact wk
 rintro ⟨r,m⟩ ⟨hr,hp⟩ _
 dsimp only at hr hp ⊢
 have hml : m.length = n:=by rw [hp.length_eq,hl]
 (try dsimp only[aj]);conv=>whnf
 refine zA ?_;conv=>whnf
 refine zA ?_;conv=>whnf
 refine And.intro (fun p=>?_) (fun p=>?_)
 ·(try dsimp only[aj]);conv=>whnf
  refine ⟨_,_,⟨rfl,m,hp,rfl⟩,?_⟩
  refine ⟨⟨_,_,.refl _ _,?_⟩⟩
  conv=>whnf
  refine ⟨?_,rfl,by simp [nextId],.mk ?_ (by simp [ak])⟩
  ·all_goals exact wk
  ·all_goals exact wk
 (try dsimp only[aj]);conv=>whnf
 refine aY.auto (by kernel_rfl) ?_;conv=>whnf
 refine zA ?_;conv=>whnf
 refine And.intro (fun p1=>?_) (fun p1=>?_)
 ·conv=>whnf
  refine zA ?_;conv=>whnf
  refine ⟨by omega,?_⟩
  conv=>whnf
  refine aX (i:=first + (2 * r + 1)) (by omega) (by omega) ⟨rfl,?_⟩
  conv=>whnf
  refine zA ?_;conv=>whnf
  refine zA ?_;conv=>whnf
  refine ⟨by omega,?_⟩
  conv=>whnf
  refine aX (i:=first + (2 * r + 1) + 1) (by omega) (by omega) ⟨rfl,?_⟩
  conv=>whnf
  refine dV.pure _ _ ?_ ⟨rfl,rfl⟩ (hcf (m.getD (first + (2 * r + 1)) default) (m.getD (first + (2 * r + 1) + 1) default)) ?_
  ·exact au _
  (try dsimp only[aj]);conv=>whnf
  refine And.intro (fun p2=>?_) (fun p2=>?_)
  ·(try dsimp only[aj]);conv=>whnf
   refine zA ?_;conv=>whnf
   (try dsimp only[aj]);conv=>whnf
   refine aY.auto (by kernel_rfl) ?_;conv=>whnf
   refine zA ?_;conv=>whnf
   refine ⟨by omega,?_⟩
   conv=>whnf
   refine aX (i:=first + r) (by omega) (by omega) ⟨rfl,?_⟩
   conv=>whnf
   refine zA ?_;conv=>whnf
   refine ⟨by omega,?_⟩
   conv=>whnf
   refine aX (i:=first + (2 * r + 1 + 1)) (by omega) (by omega) ⟨rfl,?_⟩
   conv=>whnf
   refine dV.pure _ _ ?_ ⟨rfl,rfl⟩ (hcf (m.getD (first + r) default) (m.getD (first + (2 * r + 1 + 1)) default)) ?_
   ·exact au _
   (try dsimp only[aj]);conv=>whnf
   refine And.intro (fun p3=>?_) (fun p3=>?_)
   ·(try dsimp only[aj]);conv=>whnf
    refine ⟨_,_,⟨rfl,m,hp,rfl⟩,?_⟩
    refine ⟨⟨_,_,.refl _ _,?_⟩⟩
    conv=>whnf
    refine ⟨?_,rfl,by simp [nextId],.mk ?_ (by simp [ak])⟩
    ·all_goals exact wk
    ·all_goals exact wk
   ·(try dsimp only[aj]);conv=>whnf
    refine aY.auto (by kernel_rfl) ?_;conv=>whnf
    refine zA ?_;conv=>whnf
    refine zA ?_;conv=>whnf
    refine zA ?_;conv=>whnf
    refine ⟨by omega,?_⟩
    conv=>whnf
    refine aX (i:=first + (2 * r + 1 + 1)) (by omega) (by omega) ⟨rfl,?_⟩
    conv=>whnf
    refine zA ?_;conv=>whnf
    refine ⟨by omega,?_⟩
    conv=>whnf
    refine aX (i:=first + r) (by omega) (by omega) ⟨rfl,?_⟩
    conv=>whnf
    refine ⟨by omega,?_⟩
    conv=>whnf
    refine ⟨by simp; omega,rfl,?_⟩
    conv=>whnf
    refine ⟨by omega,?_⟩
    conv=>whnf
    refine ⟨by simp; omega,rfl,?_⟩
    conv=>whnf
    refine ⟨(2 * r + 1 + 1,swp m (first + r) (first + (2 * r + 1 + 1))),⟨by omega,(fP (by omega) (by omega)).trans hp⟩,?_,?_⟩
    ·refine ⟨?_,.mk ?_ (by simp [ak])⟩
     ·repeat' first|exact rfl|exact trivial|exact wR|exact lR _|apply aI
      all_goals first | omega | skip
     ·repeat' first|exact rfl|exact trivial|exact wR|exact lR _|apply aI
      all_goals (refine bM ?_; exact iJ (by omega) (by omega))
    exact (by omega : n + 1 - (2 * r + 1 + 1) < n + 1 - r)
  ·(try dsimp only[aj]);conv=>whnf
   refine aY.auto (by kernel_rfl) ?_;conv=>whnf
   refine zA ?_;conv=>whnf
   refine ⟨by omega,?_⟩
   conv=>whnf
   refine aX (i:=first + r) (by omega) (by omega) ⟨rfl,?_⟩
   conv=>whnf
   refine zA ?_;conv=>whnf
   refine ⟨by omega,?_⟩
   conv=>whnf
   refine aX (i:=first + (2 * r + 1)) (by omega) (by omega) ⟨rfl,?_⟩
   conv=>whnf
   refine dV.pure _ _ ?_ ⟨rfl,rfl⟩ (hcf (m.getD (first + r) default) (m.getD (first + (2 * r + 1)) default)) ?_
   ·exact au _
   (try dsimp only[aj]);conv=>whnf
   refine And.intro (fun p3=>?_) (fun p3=>?_)
   ·(try dsimp only[aj]);conv=>whnf
    refine ⟨_,_,⟨rfl,m,hp,rfl⟩,?_⟩
    refine ⟨⟨_,_,.refl _ _,?_⟩⟩
    conv=>whnf
    refine ⟨?_,rfl,by simp [nextId],.mk ?_ (by simp [ak])⟩
    ·all_goals exact wk
    ·all_goals exact wk
   ·(try dsimp only[aj]);conv=>whnf
    refine aY.auto (by kernel_rfl) ?_;conv=>whnf
    refine zA ?_;conv=>whnf
    refine zA ?_;conv=>whnf
    refine zA ?_;conv=>whnf
    refine ⟨by omega,?_⟩
    conv=>whnf
    refine aX (i:=first + (2 * r + 1)) (by omega) (by omega) ⟨rfl,?_⟩
    conv=>whnf
    refine zA ?_;conv=>whnf
    refine ⟨by omega,?_⟩
    conv=>whnf
    refine aX (i:=first + r) (by omega) (by omega) ⟨rfl,?_⟩
    conv=>whnf
    refine ⟨by omega,?_⟩
    conv=>whnf
    refine ⟨by simp; omega,rfl,?_⟩
    conv=>whnf
    refine ⟨by omega,?_⟩
    conv=>whnf
    refine ⟨by simp; omega,rfl,?_⟩
    conv=>whnf
    refine ⟨(2 * r + 1,swp m (first + r) (first + (2 * r + 1))),⟨by omega,(fP (by omega) (by omega)).trans hp⟩,?_,?_⟩
    ·refine ⟨?_,.mk ?_ (by simp [ak])⟩
     ·repeat' first|exact rfl|exact trivial|exact wR|exact lR _|apply aI
      all_goals first | omega | skip
     ·repeat' first|exact rfl|exact trivial|exact wR|exact lR _|apply aI
      all_goals (refine bM ?_; exact iJ (by omega) (by omega))
    exact (by omega : n + 1 - (2 * r + 1) < n + 1 - r)
 ·(try dsimp only[aj]);conv=>whnf
  refine aY.auto (by kernel_rfl) ?_;conv=>whnf
  refine zA ?_;conv=>whnf
  refine ⟨by omega,?_⟩
  conv=>whnf
  refine aX (i:=first + r) (by omega) (by omega) ⟨rfl,?_⟩
  conv=>whnf
  refine zA ?_;conv=>whnf
  refine ⟨by omega,?_⟩
  conv=>whnf
  refine aX (i:=first + (2 * r + 1)) (by omega) (by omega) ⟨rfl,?_⟩
  conv=>whnf
  refine dV.pure _ _ ?_ ⟨rfl,rfl⟩ (hcf (m.getD (first + r) default) (m.getD (first + (2 * r + 1)) default)) ?_
  ·exact au _
  (try dsimp only[aj]);conv=>whnf
  refine And.intro (fun p3=>?_) (fun p3=>?_)
  ·(try dsimp only[aj]);conv=>whnf
   refine ⟨_,_,⟨rfl,m,hp,rfl⟩,?_⟩
   refine ⟨⟨_,_,.refl _ _,?_⟩⟩
   conv=>whnf
   refine ⟨?_,rfl,by simp [nextId],.mk ?_ (by simp [ak])⟩
   ·all_goals exact wk
   ·all_goals exact wk
  ·(try dsimp only[aj]);conv=>whnf
   refine aY.auto (by kernel_rfl) ?_;conv=>whnf
   refine zA ?_;conv=>whnf
   refine zA ?_;conv=>whnf
   refine zA ?_;conv=>whnf
   refine ⟨by omega,?_⟩
   conv=>whnf
   refine aX (i:=first + (2 * r + 1)) (by omega) (by omega) ⟨rfl,?_⟩
   conv=>whnf
   refine zA ?_;conv=>whnf
   refine ⟨by omega,?_⟩
   conv=>whnf
   refine aX (i:=first + r) (by omega) (by omega) ⟨rfl,?_⟩
   conv=>whnf
   refine ⟨by omega,?_⟩
   conv=>whnf
   refine ⟨by simp; omega,rfl,?_⟩
   conv=>whnf
   refine ⟨by omega,?_⟩
   conv=>whnf
   refine ⟨by simp; omega,rfl,?_⟩
   conv=>whnf
   refine ⟨(2 * r + 1,swp m (first + r) (first + (2 * r + 1))),⟨by omega,(fP (by omega) (by omega)).trans hp⟩,?_,?_⟩
   ·refine ⟨?_,.mk ?_ (by simp [ak])⟩
    ·repeat' first|exact rfl|exact trivial|exact wR|exact lR _|apply aI
     all_goals first | omega | skip
    ·repeat' first|exact rfl|exact trivial|exact wR|exact lR _|apply aI
     all_goals (refine bM ?_; exact iJ (by omega) (by omega))
   exact (by omega : n + 1 - (2 * r + 1) < n + 1 - r)

theorem YV {cf : Int -> Int -> Int} {g : Nat} (hcf : zQ cf g) (n cp a b : Nat) (hN : n <= 1152921504606846976) (hab : a <= b) (hb : b <= n) (l : List Int) (hl : l.length = n) :
  dO Tryz.prog 102 [.ms 0 0 n cp 1,.int .i64 a,.int .i64 b,.fn g []] (jW cp l) (LK cp l):=by
 obtain ⟨h,rfl⟩ : ∃ h,b = a + h:=⟨b - a,by omega⟩
 have e1 : ((a + h : Nat) : Int) - (a : Int) = (h : Int):=by omega
 have hq : 0 <= ((h : Int) - 1).tdiv 2 /\ ((h : Int) - 1).tdiv 2 <= h:=by
  by_cases h0 : h = 0
  ·subst h0; decide
  ·rw [Int.tdiv_eq_ediv_of_nonneg (by omega)]; omega
 refine dO.intro lay mixed Tryz.func102 (by kernel_rfl) rfl (by kernel_rfl) rfl fun hok=>?_
 (try dsimp only[aP,aC]);(try dsimp only[aj]);conv=>whnf
 rw [e1]
 refine zA ?_;conv=>whnf
 refine zA ?_;conv=>whnf
 refine ⟨by decide,?_⟩
 conv=>whnf
 refine ⟨eU (by omega) (by omega),?_⟩
 generalize ((h : Int) - 1).tdiv 2 = q at *
 (try dsimp only[aj]);conv=>whnf
 refine aN.of <| (aA.inv (.refl _ _) (fun x : Int × List Int=>(-1 <= x.1 /\ x.1 <= h) /\ List.Perm x.2 l) (fun x=>[(11,.int .i64 x.1)]) (fun x=>jW cp x.2) (fun x=>(x.1 + 1).toNat) (q,l) ?_ ?_ ?_ ?_)
 ·exact ⟨by omega,.refl _⟩
 ·exact fun _=>rfl
 ·refine ⟨?_,.mk ?_ (by simp [ak])⟩
  ·all_goals exact wk
  ·all_goals exact wk
 rintro ⟨i,m⟩ ⟨hi,hp⟩ _
 dsimp only at hi hp ⊢
 have hml : m.length = n:=by rw [hp.length_eq,hl]
 (try dsimp only[aj]);conv=>whnf
 refine And.intro (fun p=>?_) (fun p=>?_)
 ·obtain ⟨k,rfl⟩ : ∃ k : Nat,i = k:=⟨i.toNat,by omega⟩
  (try dsimp only[aj]);conv=>whnf
  refine .rel _ (Ux hcf n cp k h a hN (by omega) (by omega) m hml) fun R H' hq _=>?_
  obtain ⟨rfl,l',hp',rfl⟩:=hq
  (try dsimp only[aj]);conv=>whnf
  refine zA ?_;conv=>whnf
  refine ⟨((k : Int) - 1,l'),⟨by omega,hp'.trans hp⟩,?_,?_⟩
  ·refine ⟨?_,.mk ?_ (by simp [ak])⟩
   ·all_goals exact wk
   ·all_goals exact wk
  ·show ((k : Int) - 1 + 1).toNat < ((k : Int) + 1).toNat
   omega
 (try dsimp only[aj]);conv=>whnf
 refine zA ?_;conv=>whnf
 refine aN.of <| (aA.inv (.refl _ _) (fun x : Int × List Int=>(-1 <= x.1 /\ x.1 <= (h : Int) - 1) /\ List.Perm x.2 l) (fun x=>[(12,.int .i64 x.1)]) (fun x=>jW cp x.2) (fun x=>(x.1 + 1).toNat) ((h : Int) - 1,m) ?_ ?_ ?_ ?_)
 ·exact ⟨by omega,hp⟩
 ·exact fun _=>rfl
 ·refine ⟨?_,.mk ?_ (by simp [ak])⟩
  ·all_goals exact wk
  ·all_goals exact wk
 clear hp hml p hi
 rintro ⟨i,m⟩ ⟨hi,hp⟩ _
 dsimp only at hi hp ⊢
 have hml : m.length = n:=by rw [hp.length_eq,hl]
 (try dsimp only[aj]);conv=>whnf
 refine And.intro (fun p=>?_) (fun p=>?_)
 ·obtain ⟨k,rfl⟩ : ∃ k : Nat,i = k:=⟨i.toNat,by omega⟩
  (try dsimp only[aj]);conv=>whnf
  refine aY.auto (by kernel_rfl) ?_;conv=>whnf
  refine zA ?_;conv=>whnf
  refine zA ?_;conv=>whnf
  refine ⟨by omega,?_⟩
  conv=>whnf
  refine aX (i:=a + k) (by omega) (by omega) ⟨rfl,?_⟩
  conv=>whnf
  refine ⟨by omega,?_⟩
  conv=>whnf
  refine aX (i:=a) (by omega) (by omega) ⟨rfl,?_⟩
  conv=>whnf
  refine ⟨by omega,?_⟩
  conv=>whnf
  refine ⟨by simp; omega,rfl,?_⟩
  conv=>whnf
  refine ⟨by omega,?_⟩
  conv=>whnf
  refine ⟨by simp; omega,rfl,?_⟩
  conv=>whnf
  dsimp only [strip]
  rw [iJ (f:=AV.int .i64) (l:=m) (i:=a) (j:=a + k) (y:=(a : Int)) (z:=(a : Int) + k) (by omega) (by omega)]
  have hp1:=(fP (l:=m) (i:=a) (j:=a + k) (by omega) (by omega)).trans hp
  refine .rel _ (Ux hcf n cp 0 k a hN (by omega) (by omega) (swp m a (a + k)) (by rw [Hg]; exact hml)) fun R H' hq _=>?_
  obtain ⟨rfl,l',hp',rfl⟩:=hq
  (try dsimp only[aj]);conv=>whnf
  refine zA ?_;conv=>whnf
  refine ⟨((k : Int) - 1,l'),⟨by omega,hp'.trans hp1⟩,?_,?_⟩
  ·refine ⟨?_,.mk ?_ (by simp [ak])⟩
   ·all_goals exact wk
   ·all_goals exact wk
  ·show ((k : Int) - 1 + 1).toNat < ((k : Int) + 1).toNat
   omega
 ·(try dsimp only[aj]);conv=>whnf
  refine ⟨_,_,⟨rfl,m,hp,rfl⟩,?_⟩
  refine ⟨⟨_,_,.refl _ _,?_⟩⟩
  conv=>whnf
  refine ⟨?_,rfl,by simp [nextId],.mk ?_ (by simp [ak])⟩
  ·all_goals exact wk
  ·all_goals exact wk

abbrev Qx (cp : Nat) (l : List Int) (s : Nat) : Heap:=[(1,.box (.int .i64 s)),(0,.arr 1 cp (l.map (.int .i64)))]

theorem DV {cf : Int -> Int -> Int} {g : Nat} (hcf : zQ cf g) (n cp a b s : Nat) (hs : s <= 100) (m : List Int) (hml : m.length = n) (ha : a < n) (hb : b < n) :
  dO Tryz.prog 116 [.ms 0 0 n cp 1,.int .i64 a,.int .i64 b,.ptr 1 [] 0,.fn g []] (Qx cp m s) (fun R H'=>∃ x y s' : Nat,R = .dA [.int .i64 x,.int .i64 y] /\ H' = Qx cp m s' /\ s' <= s + 1 /\ ((x = a /\ y = b) \/ (x = b /\ y = a))):=by
 refine dO.intro lay mixed Tryz.func116 (by kernel_rfl) rfl (by kernel_rfl) rfl fun hok=>?_
 (try dsimp only[aP,aC]);(try dsimp only[aj]);conv=>whnf
 refine aY.auto (by kernel_rfl) ?_;conv=>whnf
 refine ⟨by omega,?_⟩
 conv=>whnf
 refine aX (i:=b) (by omega) (by omega) ⟨rfl,?_⟩
 conv=>whnf
 refine ⟨by omega,?_⟩
 conv=>whnf
 refine aX (i:=a) (by omega) (by omega) ⟨rfl,?_⟩
 conv=>whnf
 refine dV.pure _ _ ?_ ⟨rfl,rfl⟩ (hcf (m.getD (b) default) (m.getD (a) default)) ?_
 ·exact au _
 (try dsimp only[aj]);conv=>whnf
 refine And.intro (fun p=>?_) (fun p=>?_)
 ·(try dsimp only[aj]);conv=>whnf
  refine zA ?_;conv=>whnf
  refine ⟨_,_,⟨b,a,s + 1,rfl,rfl,Nat.le_refl _,.inr ⟨rfl,rfl⟩⟩,?_⟩
  refine ⟨⟨_,_,.refl _ _,?_⟩⟩
  conv=>whnf
  refine ⟨?_,rfl,by simp [nextId],.mk ?_ (by simp [ak])⟩
  ·all_goals exact wk
  ·all_goals exact wk
 ·(try dsimp only[aj]);conv=>whnf
  refine ⟨_,_,⟨a,b,s,rfl,rfl,by omega,.inl ⟨rfl,rfl⟩⟩,?_⟩
  refine ⟨⟨_,_,.refl _ _,?_⟩⟩
  conv=>whnf
  refine ⟨?_,rfl,by simp [nextId],.mk ?_ (by simp [ak])⟩
  ·all_goals exact wk
  ·all_goals exact wk

theorem DW {cf : Int -> Int -> Int} {g : Nat} (hcf : zQ cf g) (n cp a b c s : Nat) (hs : s <= 50) (m : List Int) (hml : m.length = n) (ha : a < n) (hb : b < n) (hc : c < n) :
  dO Tryz.prog 115 [.ms 0 0 n cp 1,.int .i64 a,.int .i64 b,.int .i64 c,.ptr 1 [] 0,.fn g []] (Qx cp m s) (fun R H'=>∃ x s' : Nat,R = .int .i64 x /\ H' = Qx cp m s' /\ s' <= s + 3 /\ (x = a \/ x = b \/ x = c)):=by
 refine dO.intro lay mixed Tryz.func115 (by kernel_rfl) rfl (by kernel_rfl) rfl fun hok=>?_
 (try dsimp only[aP,aC]);(try dsimp only[aj]);conv=>whnf
 refine .rel _ (DV hcf n cp a b s (by omega) m hml ha hb) fun R H' hq _=>?_
 obtain ⟨x,y,s',rfl,rfl,hs',hxy⟩:=hq
 (try dsimp only[aj]);conv=>whnf
 have hx : x < n /\ y < n:=by omega
 refine .rel _ (DV hcf n cp y c s' (by omega) m hml hx.2 hc) fun R H' hq _=>?_
 obtain ⟨x2,y2,s2,rfl,rfl,hs2,hxy2⟩:=hq
 (try dsimp only[aj]);conv=>whnf
 refine .rel _ (DV hcf n cp x x2 s2 (by omega) m hml hx.1 (by omega)) fun R H' hq _=>?_
 obtain ⟨x3,y3,s3,rfl,rfl,hs3,hxy3⟩:=hq
 (try dsimp only[aj]);conv=>whnf
 refine ⟨_,_,⟨y3,s3,rfl,rfl,by omega,by omega⟩,?_⟩
 refine ⟨⟨_,_,.refl _ _,?_⟩⟩
 conv=>whnf
 refine ⟨?_,rfl,by simp [nextId],.mk ?_ (by simp [ak])⟩
 ·all_goals exact wk
 ·all_goals exact wk

theorem tH {cf : Int -> Int -> Int} {g : Nat} (hcf : zQ cf g) (n cp a s : Nat) (hN : n <= 1152921504606846976) (hs : s <= 50) (m : List Int) (hml : m.length = n) (ha : 1 <= a /\ a + 1 < n) :
  dO Tryz.prog 114 [.ms 0 0 n cp 1,.int .i64 a,.ptr 1 [] 0,.fn g []] (Qx cp m s) (fun R H'=>∃ x s' : Nat,R = .int .i64 x /\ H' = Qx cp m s' /\ s' <= s + 3 /\ (x = a - 1 \/ x = a \/ x = a + 1)):=by
 refine dO.intro lay mixed Tryz.func114 (by kernel_rfl) rfl (by kernel_rfl) rfl fun hok=>?_
 (try dsimp only[aP,aC]);(try dsimp only[aj]);conv=>whnf
 refine zA ?_;conv=>whnf
 refine zA ?_;conv=>whnf
 rw [show (a : Int) - 1 = ((a - 1 : Nat) : Int) by omega,show (a : Int) + 1 = ((a + 1 : Nat) : Int) by omega]
 refine .rel _ (DW hcf n cp (a - 1) a (a + 1) s hs m hml (by omega) (by omega) (by omega)) fun R H' hq _=>?_
 obtain ⟨x,s',rfl,rfl,hs',hx⟩:=hq
 (try dsimp only[aj]);conv=>whnf
 refine ⟨_,_,⟨x,s',rfl,rfl,hs',hx⟩,?_⟩
 refine ⟨⟨_,_,.refl _ _,?_⟩⟩
 conv=>whnf
 refine ⟨?_,rfl,by simp [nextId],.mk ?_ (by simp [ak])⟩
 ·all_goals exact wk
 ·all_goals exact wk

theorem Xa {cf : Int -> Int -> Int} {g : Nat} (hcf : zQ cf g) (n cp a b : Nat) (hN : n <= 1152921504606846976) (m : List Int) (hml : m.length = n) (hab : a + 8 <= b) (hb : b <= n) :
  dO Tryz.prog 104 [.ms 0 0 n cp 1,.int .i64 a,.int .i64 b,.fn g []] (jW cp m) (fun R H'=>∃ x h : Nat,R = .dA [.int .i64 x,.int .i64 h] /\ (a <= x /\ x < b) /\ h <= 2 /\ H' = jW cp m):=by
 obtain ⟨h,rfl⟩ : ∃ h,b = a + h:=⟨b - a,by omega⟩
 have e1 : ((a + h : Nat) : Int) - (a : Int) = (h : Int):=by omega
 have e2 : (h : Int).tdiv 4 = ((h / 4 : Nat) : Int):=rfl
 refine dO.intro lay mixed Tryz.func104 (by kernel_rfl) rfl (by kernel_rfl) rfl fun hok=>?_
 (try dsimp only[aP,aC]);(try dsimp only[aj]);conv=>whnf
 rw [e1]
 refine zA ?_;conv=>whnf
 iterate 3 (refine ⟨by decide,?_⟩; (conv=>whnf); refine ⟨eU (by omega) (by omega),?_⟩; (conv=>whnf); refine ⟨eU (by omega) (by omega),?_⟩; (conv=>whnf); refine ⟨eU (by omega) (by omega),?_⟩; (conv=>whnf))
 rw [e2,show (a : Int) + ((h / 4 : Nat) : Int) * 1 = ((a + h / 4 : Nat) : Int) by omega,show (a : Int) + ((h / 4 : Nat) : Int) * 2 = ((a + h / 4 * 2 : Nat) : Int) by omega,show (a : Int) + ((h / 4 : Nat) : Int) * 3 = ((a + h / 4 * 3 : Nat) : Int) by omega]
 refine And.intro (fun _=>?_) (fun p=>by exfalso; omega)
 (try dsimp only[aj]);conv=>whnf
 refine And.intro (fun p50=>?_) (fun p50=>?_)
 ·have h50 : 50 <= h:=by omega
  (try dsimp only[aj]);conv=>whnf
  refine .rel _ (tH hcf n cp (a + h / 4) 0 hN (by omega) m hml (by omega)) fun R H' hq _=>?_
  obtain ⟨x1,s1,rfl,rfl,hs1,hx1⟩:=hq
  (try dsimp only[aj]);conv=>whnf
  refine .rel _ (tH hcf n cp (a + h / 4 * 2) s1 hN (by omega) m hml (by omega)) fun R H' hq _=>?_
  obtain ⟨x2,s2,rfl,rfl,hs2,hx2⟩:=hq
  (try dsimp only[aj]);conv=>whnf
  refine .rel _ (tH hcf n cp (a + h / 4 * 3) s2 hN (by omega) m hml (by omega)) fun R H' hq _=>?_
  obtain ⟨x3,s3,rfl,rfl,hs3,hx3⟩:=hq
  (try dsimp only[aj]);conv=>whnf
  refine .rel _ (DW hcf n cp x1 x2 x3 s3 (by omega) m hml (by omega) (by omega) (by omega)) fun R H' hq _=>?_
  obtain ⟨x4,s4,rfl,rfl,hs4,hx4⟩:=hq
  have hx : a <= x4 /\ x4 < a + h:=by omega
  (try dsimp only[aj]);conv=>whnf
  refine And.intro (fun p1=>?_) (fun p1=>?_)
  ·(try dsimp only[aj]);conv=>whnf
   refine ⟨_,_,⟨x4,1,rfl,hx,by omega,rfl⟩,?_⟩
   refine ⟨⟨_,_,.refl _ _,?_⟩⟩
   conv=>whnf
   refine ⟨?_,rfl,by simp [nextId],.mk ?_ (by simp [ak])⟩
   ·all_goals exact wk
   ·all_goals exact wk
  (try dsimp only[aj]);conv=>whnf
  refine And.intro (fun p2=>?_) (fun p2=>?_)
  ·(try dsimp only[aj]);conv=>whnf
   refine ⟨_,_,⟨x4,2,rfl,hx,by omega,rfl⟩,?_⟩
   refine ⟨⟨_,_,.refl _ _,?_⟩⟩
   conv=>whnf
   refine ⟨?_,rfl,by simp [nextId],.mk ?_ (by simp [ak])⟩
   ·all_goals exact wk
   ·all_goals exact wk
  ·(try dsimp only[aj]);conv=>whnf
   refine ⟨_,_,⟨x4,0,rfl,hx,by omega,rfl⟩,?_⟩
   refine ⟨⟨_,_,.refl _ _,?_⟩⟩
   conv=>whnf
   refine ⟨?_,rfl,by simp [nextId],.mk ?_ (by simp [ak])⟩
   ·all_goals exact wk
   ·all_goals exact wk
 ·(try dsimp only[aj]);conv=>whnf
  refine .rel _ (DW hcf n cp (a + h / 4) (a + h / 4 * 2) (a + h / 4 * 3) 0 (by omega) m hml (by omega) (by omega) (by omega)) fun R H' hq _=>?_
  obtain ⟨x4,s4,rfl,rfl,hs4,hx4⟩:=hq
  have hx : a <= x4 /\ x4 < a + h:=by omega
  (try dsimp only[aj]);conv=>whnf
  refine And.intro (fun p1=>?_) (fun p1=>?_)
  ·(try dsimp only[aj]);conv=>whnf
   refine ⟨_,_,⟨x4,1,rfl,hx,by omega,rfl⟩,?_⟩
   refine ⟨⟨_,_,.refl _ _,?_⟩⟩
   conv=>whnf
   refine ⟨?_,rfl,by simp [nextId],.mk ?_ (by simp [ak])⟩
   ·all_goals exact wk
   ·all_goals exact wk
  (try dsimp only[aj]);conv=>whnf
  refine And.intro (fun p2=>?_) (fun p2=>?_)
  ·(try dsimp only[aj]);conv=>whnf
   refine ⟨_,_,⟨x4,2,rfl,hx,by omega,rfl⟩,?_⟩
   refine ⟨⟨_,_,.refl _ _,?_⟩⟩
   conv=>whnf
   refine ⟨?_,rfl,by simp [nextId],.mk ?_ (by simp [ak])⟩
   ·all_goals exact wk
   ·all_goals exact wk
  ·(try dsimp only[aj]);conv=>whnf
   refine ⟨_,_,⟨x4,0,rfl,hx,by omega,rfl⟩,?_⟩
   refine ⟨⟨_,_,.refl _ _,?_⟩⟩
   conv=>whnf
   refine ⟨?_,rfl,by simp [nextId],.mk ?_ (by simp [ak])⟩
   ·all_goals exact wk
   ·all_goals exact wk

theorem c_rev {g : Nat} (n cp a b : Nat) (hN : n <= 1152921504606846976) (hab : a <= b) (hb : b <= n) (l : List Int) (hl : l.length = n) :
  dO Tryz.prog 105 [.ms 0 0 n cp 1,.int .i64 a,.int .i64 b,.fn g []] (jW cp l) (LK cp l):=by
 refine dO.intro lay mixed Tryz.func105 (by kernel_rfl) rfl (by kernel_rfl) rfl fun hok=>?_
 (try dsimp only[aP,aC]);(try dsimp only[aj]);conv=>whnf
 refine zA ?_;conv=>whnf
 refine aN.of <| (aA.inv (.refl _ _) (fun x : Nat × Int × List Int=>(x.1 <= n /\ x.2.1 < n /\ -1 <= x.2.1) /\ List.Perm x.2.2 l) (fun x=>[(8,.int .i64 (x.1 : Int)),(9,.int .i64 x.2.1)]) (fun x=>jW cp x.2.2) (fun x=>n - x.1) (a,(b : Int) - 1,l) ?_ ?_ ?_ ?_)
 ·exact ⟨by dsimp only; omega,.refl _⟩
 ·exact fun _=>rfl
 ·refine ⟨?_,.mk ?_ (by simp [ak])⟩
  ·all_goals exact wk
  ·all_goals exact wk
 rintro ⟨i,j,m⟩ ⟨⟨hi,hj,hj0⟩,hp⟩ _
 dsimp only at hi hj hj0 hp ⊢
 have hml : m.length = n:=by rw [hp.length_eq,hl]
 (try dsimp only[aj]);conv=>whnf
 refine And.intro (fun p=>?_) (fun p=>?_)
 ·obtain ⟨k,rfl⟩ : ∃ k : Nat,j = k:=⟨j.toNat,by omega⟩
  (try dsimp only[aj]);conv=>whnf
  refine aY.auto (by kernel_rfl) ?_;conv=>whnf
  refine ⟨by omega,?_⟩
  conv=>whnf
  refine aX (i:=k) (by omega) (by omega) ⟨rfl,?_⟩
  conv=>whnf
  refine ⟨by omega,?_⟩
  conv=>whnf
  refine aX (i:=i) (by omega) (by omega) ⟨rfl,?_⟩
  conv=>whnf
  refine ⟨by omega,?_⟩
  conv=>whnf
  refine ⟨by simp; omega,rfl,?_⟩
  conv=>whnf
  refine ⟨by omega,?_⟩
  conv=>whnf
  refine ⟨by simp; omega,rfl,?_⟩
  conv=>whnf
  refine zA ?_;conv=>whnf
  refine zA ?_;conv=>whnf
  refine ⟨(i + 1,(k : Int) - 1,swp m i k),⟨by dsimp only; omega,(fP (by omega) (by omega)).trans hp⟩,?_,?_⟩
  ·refine ⟨?_,.mk ?_ (by simp [ak])⟩
   ·all_goals exact wk
   ·repeat' first|exact rfl|exact trivial|exact wR|exact lR _|apply aI
    all_goals (refine bM ?_; exact iJ (by omega) (by omega))
  ·exact (by omega : n - (i + 1) < n - i)
 ·(try dsimp only[aj]);conv=>whnf
  refine ⟨_,_,⟨rfl,m,hp,rfl⟩,?_⟩
  refine ⟨⟨_,_,.refl _ _,?_⟩⟩
  conv=>whnf
  refine ⟨?_,rfl,by simp [nextId],.mk ?_ (by simp [ak])⟩
  ·all_goals exact wk
  ·all_goals exact wk
end S

namespace Go.AL

section
variable {P : Program}

end
end Go.AL

namespace Go.AL

section
variable {P : Program} {L : Lay} (F : FT) (gu : AV -> Prop) (L : Lay)

end

section
variable {P : Program} {L : Lay} {F : FT}

end
end Go.AL
