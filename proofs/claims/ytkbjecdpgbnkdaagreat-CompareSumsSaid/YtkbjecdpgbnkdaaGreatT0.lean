/-
  A logic for calls of Go functions: values, weakening. Nothing is assumed.
-/
import Derived.Calls
import Derived.Laws.Sem
import Derived.Laws.World
import Derived.Defers
import Derived.Maps.Keyed
import Derived.Laws.AppendOwn
import Derived.Laws.MakeOwn

namespace Go.AL

def maxL : Nat:=9223372036854775807

inductive Tk where
 | no | full | own (k : Nat)
 deriving Inhabited

inductive AV where
 | bool (b : Bool) | tt | ff | dec (p : Prop)
 | int (k : IntKind) (n : Int)
 | str (s : List UInt8)
 | nilI | ifc (t : Nat) (x : AV)
 | nils | sl (sz : Nat) (l : List AV) (tok : Tk)
 | ms (k off len cap sz : Nat)
 | ag (l : List AV) | tup (l : List AV)
 | ptr (k : Nat) (path : List Nat) (off : Nat) | cp (x : AV) | nilp
 | fn (f : Nat) (cap : List AV) | nilf
 | mp (k : Nat) | nilm
 | gs (k len : Nat)
 | bm (f k : Nat)
 | und
 deriving Inhabited

def isAg : AV → Bool
 | .ag _=>true
 | _=>false

mutual
def flat : AV → Nat
 | .ag l=>flatL l
 | _=>1
def flatL : List AV → Nat
 | []=>0
 | x :: l=>flat x + flatL l
end

def cellsAt (w : World) (Im : Nat → Nat → Prop) (b off : Nat) (cs : List Value) : Prop :=
 ∀ j v,cs[j]? = some v → w.cell? ⟨b,off + j,none⟩ = some v ∧ Im b (off + j)

def InR (k : IntKind) (n : Int) : Prop:=k.min ≤ n ∧ n ≤ k.max

def shapeV (A : AV) (v : Value) : Prop :=
 (isAg A = true → ∃ cs,v = .agg cs) ∧ (isAg A = false → v.cells = #[v])

mutual
def Rd (w : World) (Im : Nat → Nat → Prop) : AV → List Value → Prop
 | .bool b,cs=>cs = [.bool b]
 | .tt,cs=>cs = [.bool true]
 | .ff,cs=>cs = [.bool false]
 | .dec p,cs=>∃ b,cs = [.bool b] ∧ (b = true ↔ p)
 | .int k n,cs=>cs = [.int k n] ∧ InR k n
 | .str s,cs=>cs = [.string ⟨s.toArray⟩] ∧ s.length ≤ maxL
 | .nilI,cs=>cs = [.nilIface]
 | .ifc t x,cs=>∃ v,cs = [.iface t v] ∧ shapeV x v ∧ Rd w Im x v.cells.toList
 | .nils,cs=>cs = [.slice none 0 0]
 | .sl sz l .no,cs=>l.length ≤ maxL ∧ ((l = [] ∧ cs = [.slice none 0 0]) ∨
   ∃ a cap,cs = [.slice (some a) l.length cap] ∧ l.length ≤ cap ∧ cap ≤ maxL ∧ (l ≠ [] → a.spot = none) ∧ RdE w Im sz a.block l a.off)
 | .cp x,cs=>∃ a ds,cs = [.pointer (some a)] ∧ a.spot = none ∧ cellsAt w Im a.block a.off ds ∧ Rd w Im x ds
 | .nilp,cs=>cs = [.pointer none]
 | .fn f cap,cs=>∃ vs,cs = [.func (.func f) #[] vs.toArray] ∧ RdA w Im cap vs
 | .nilf,cs=>cs = [.nilFunc]
 | .nilm,cs=>cs = [.map none]
 | .ag l,cs=>RdL w Im l cs
 | _,_=>False
def RdL (w : World) (Im : Nat → Nat → Prop) : List AV → List Value → Prop
 | [],cs=>cs = []
 | x :: l,cs=>∃ c d,cs = c ++ d ∧ Rd w Im x c ∧ RdL w Im l d
def RdE (w : World) (Im : Nat → Nat → Prop) (sz b : Nat) : List AV → Nat → Prop
 | [],_=>True
 | x :: l,off=>(∃ cs,cs.length = sz ∧ cellsAt w Im b off cs ∧ Rd w Im x cs) ∧ RdE w Im sz b l (off + sz)
def RdA (w : World) (Im : Nat → Nat → Prop) : List AV → List Value → Prop
 | [],vs=>vs = []
 | x :: l,vs=>∃ v r,vs = v :: r ∧ shapeV x v ∧ Rd w Im x v.cells.toList ∧ RdA w Im l r
end

structure Cx where
 w : World
 Im : Nat → Nat → Prop
 ρ : Nat → Nat
 nx : Nat
 tk : Nat → Option Addr × Nat
 tp : Nat → Option Nat

mutual
def VR (c : Cx) : AV → List Value → Prop
 | .ptr k _ off,cs=>k < c.nx ∧ cs = [.pointer (some ⟨c.ρ k,off,none⟩)]
 | .ms k off len cap sz,cs=>k < c.nx ∧ cs = [.slice (some ⟨c.ρ k,off * sz,none⟩) len cap] ∧ len ≤ cap ∧ cap ≤ maxL
 | .sl sz l .full,cs=>Rd c.w c.Im (.sl sz l .no) cs ∧ ∃ a,cs = [.slice a l.length l.length]
 | .sl sz l (.own k),cs=>k < c.nx ∧ Rd c.w c.Im (.sl sz l .no) cs ∧
   ∀ n,c.tp k = some n → l.length ≤ n ∧ (l.length = n → cs = [.slice (c.tk k).1 n (c.tk k).2])
 | .mp k,cs=>k < c.nx ∧ cs = [.map (some (c.ρ k))]
 | .bm f k,cs=>k < c.nx ∧ cs = [.func (.func f) #[.pointer (some ⟨c.ρ k,0,none⟩)] #[]]
 | .gs k len,cs=>k < c.nx ∧ (∃ a n m,cs = [.slice a n m]) ∧ ∀ n,c.tp k = some n → len ≤ n ∧ (len = n → cs = [.slice (c.tk k).1 n (c.tk k).2])
 | .fn f cap,cs=>∃ vs,cs = [.func (.func f) #[] vs.toArray] ∧ VA c cap vs
 | .ag l,cs=>VRL c l cs
 | .ifc t x,cs=>∃ v,cs = [.iface t v] ∧ shapeV x v ∧ VR c x v.cells.toList
 | A,cs=>Rd c.w c.Im A cs
def VRL (c : Cx) : List AV → List Value → Prop
 | [],cs=>cs = []
 | x :: l,cs=>∃ a d,cs = a ++ d ∧ VR c x a ∧ VRL c l d
def VA (c : Cx) : List AV → List Value → Prop
 | [],vs=>vs = []
 | x :: l,vs=>∃ v r,vs = v :: r ∧ shapeV x v ∧ VR c x v.cells.toList ∧ VA c l r
end

def VV (c : Cx) (A : AV) (v : Value) : Prop:=shapeV A v ∧ VR c A v.cells.toList

def EV (c : Cx) : AV → Value → Prop
 | .und,_=>True
 | .tup l,v=>∃ vs,v = .tuple vs ∧ VA c l vs.toList
 | A,v=>VV c A v

theorem cellsAt_mono {w w' : World} {Im Im' : Nat → Nat → Prop} (h : ∀ b o,Im b o → Im' b o ∧ w'.cell? ⟨b,o,none⟩ = w.cell? ⟨b,o,none⟩)
  {b off : Nat} {cs : List Value} (hc : cellsAt w Im b off cs) : cellsAt w' Im' b off cs:=by
 intro j v hj
 obtain ⟨h1,h2⟩:=hc j v hj
 exact ⟨(h _ _ h2).2.trans h1,(h _ _ h2).1⟩

mutual
theorem Rd_mono {w w' : World} {Im Im' : Nat → Nat → Prop} (h : ∀ b o,Im b o → Im' b o ∧ w'.cell? ⟨b,o,none⟩ = w.cell? ⟨b,o,none⟩) :
  ∀ (A : AV) (cs : List Value),Rd w Im A cs → Rd w' Im' A cs
 | .bool _,_,hr=>by simpa only [Rd] using hr
 | .tt,_,hr=>by simpa only [Rd] using hr
 | .ff,_,hr=>by simpa only [Rd] using hr
 | .dec _,_,hr=>by simpa only [Rd] using hr
 | .int _ _,_,hr=>by simpa only [Rd] using hr
 | .str _,_,hr=>by simpa only [Rd] using hr
 | .nilI,_,hr=>by simpa only [Rd] using hr
 | .ifc t x,cs,hr=>by
   simp only [Rd] at hr ⊢
   obtain ⟨v,h1,h2,h3⟩:=hr
   exact ⟨v,h1,h2,Rd_mono h x _ h3⟩
 | .nils,_,hr=>by simpa only [Rd] using hr
 | .sl sz l .no,cs,hr=>by
   simp only [Rd] at hr ⊢
   obtain ⟨h0,hr⟩:=hr
   refine ⟨h0,hr.imp id ?_⟩
   rintro ⟨a,cap,h1,h2,h3,h4,h5⟩
   exact ⟨a,cap,h1,h2,h3,h4,RdE_mono h _ _ l _ h5⟩
 | .sl sz l .full,cs,hr=>by simp only [Rd] at hr
 | .sl sz l (.own _),cs,hr=>by simp only [Rd] at hr
 | .ms _ _ _ _ _,_,hr=>by simp only [Rd] at hr
 | .ag l,cs,hr=>by
   simp only [Rd] at hr ⊢
   exact RdL_mono h l cs hr
 | .tup _,_,hr=>by simp only [Rd] at hr
 | .ptr _ _ _,_,hr=>by simp only [Rd] at hr
 | .cp x,cs,hr=>by
   simp only [Rd] at hr ⊢
   obtain ⟨a,ds,h1,h2,h3,h4⟩:=hr
   exact ⟨a,ds,h1,h2,cellsAt_mono h h3,Rd_mono h x _ h4⟩
 | .nilp,_,hr=>by simpa only [Rd] using hr
 | .fn f cap,cs,hr=>by
   simp only [Rd] at hr ⊢
   obtain ⟨vs,h1,h2⟩:=hr
   exact ⟨vs,h1,RdA_mono h cap vs h2⟩
 | .nilf,_,hr=>by simpa only [Rd] using hr
 | .mp _,_,hr=>by simp only [Rd] at hr
 | .nilm,_,hr=>by simpa only [Rd] using hr
 | .gs _ _,_,hr=>by simp only [Rd] at hr
 | .bm _ _,_,hr=>by simp only [Rd] at hr
 | .und,_,hr=>by simp only [Rd] at hr
theorem RdL_mono {w w' : World} {Im Im' : Nat → Nat → Prop} (h : ∀ b o,Im b o → Im' b o ∧ w'.cell? ⟨b,o,none⟩ = w.cell? ⟨b,o,none⟩) :
  ∀ (l : List AV) (cs : List Value),RdL w Im l cs → RdL w' Im' l cs
 | [],_,hr=>by simpa only [RdL] using hr
 | x :: l,cs,hr=>by
   simp only [RdL] at hr ⊢
   obtain ⟨c,d,h1,h2,h3⟩:=hr
   exact ⟨c,d,h1,Rd_mono h x _ h2,RdL_mono h l _ h3⟩
theorem RdE_mono {w w' : World} {Im Im' : Nat → Nat → Prop} (h : ∀ b o,Im b o → Im' b o ∧ w'.cell? ⟨b,o,none⟩ = w.cell? ⟨b,o,none⟩) (sz b : Nat) :
  ∀ (l : List AV) (off : Nat),RdE w Im sz b l off → RdE w' Im' sz b l off
 | [],_,_=>by simp only [RdE]
 | x :: l,off,hr=>by
   simp only [RdE] at hr ⊢
   obtain ⟨⟨cs,h1,h2,h3⟩,h4⟩:=hr
   exact ⟨⟨cs,h1,cellsAt_mono h h2,Rd_mono h x _ h3⟩,RdE_mono h sz b l _ h4⟩
theorem RdA_mono {w w' : World} {Im Im' : Nat → Nat → Prop} (h : ∀ b o,Im b o → Im' b o ∧ w'.cell? ⟨b,o,none⟩ = w.cell? ⟨b,o,none⟩) :
  ∀ (l : List AV) (vs : List Value),RdA w Im l vs → RdA w' Im' l vs
 | [],_,hr=>by simpa only [RdA] using hr
 | x :: l,vs,hr=>by
   simp only [RdA] at hr ⊢
   obtain ⟨v,r,h1,h2,h3,h4⟩:=hr
   exact ⟨v,r,h1,h2,Rd_mono h x _ h3,RdA_mono h l _ h4⟩
end

structure Cx.Le (c d : Cx) : Prop where
 im : ∀ b o,c.Im b o → d.Im b o ∧ d.w.cell? ⟨b,o,none⟩ = c.w.cell? ⟨b,o,none⟩
 nx : c.nx ≤ d.nx
 ρ : ∀ k,k < c.nx → d.ρ k = c.ρ k
 tk : ∀ k n,k < c.nx → d.tp k = some n → (c.tp k = some n ∧ d.tk k = c.tk k) ∨ ∃ m,c.tp k = some m ∧ m < n

mutual
theorem VR_mono {c d : Cx} (h : c.Le d) : ∀ (A : AV) (cs : List Value),VR c A cs → VR d A cs
 | .bool _,cs,hr=>by simp only [VR] at hr ⊢; exact Rd_mono h.im _ _ hr
 | .tt,_,hr=>by simp only [VR] at hr ⊢; exact Rd_mono h.im _ _ hr
 | .ff,_,hr=>by simp only [VR] at hr ⊢; exact Rd_mono h.im _ _ hr
 | .dec _,_,hr=>by simp only [VR] at hr ⊢; exact Rd_mono h.im _ _ hr
 | .int _ _,_,hr=>by simp only [VR] at hr ⊢; exact Rd_mono h.im _ _ hr
 | .str _,_,hr=>by simp only [VR] at hr ⊢; exact Rd_mono h.im _ _ hr
 | .nilI,_,hr=>by simp only [VR] at hr ⊢; exact Rd_mono h.im _ _ hr
 | .ifc t x,cs,hr=>by
   simp only [VR] at hr ⊢
   obtain ⟨v,h1,h2,h3⟩:=hr
   exact ⟨v,h1,h2,VR_mono h x _ h3⟩
 | .nils,_,hr=>by simp only [VR] at hr ⊢; exact Rd_mono h.im _ _ hr
 | .sl _ _ .no,_,hr=>by simp only [VR] at hr ⊢; exact Rd_mono h.im _ _ hr
 | .sl _ _ .full,_,hr=>by simp only [VR] at hr ⊢; exact ⟨Rd_mono h.im _ _ hr.1,hr.2⟩
 | .sl sz l (.own k),cs,hr=>by
   simp only [VR] at hr ⊢
   obtain ⟨h1,h2,h3⟩:=hr
   refine ⟨Nat.lt_of_lt_of_le h1 h.nx,Rd_mono h.im _ _ h2,fun n hn=>?_⟩
   rcases h.tk k n h1 hn with ⟨h4,h5⟩ | ⟨m,h4,h5⟩
   ·rw [h5]; exact h3 n h4
   ·have:=(h3 m h4).1; exact ⟨by omega,fun e=>by omega⟩
 | .ms k _ _ _ _,_,hr=>by
   simp only [VR] at hr ⊢
   rw [h.ρ k hr.1]
   exact ⟨Nat.lt_of_lt_of_le hr.1 h.nx,hr.2⟩
 | .ag l,cs,hr=>by
   simp only [VR] at hr ⊢
   exact VRL_mono h l cs hr
 | .tup _,_,hr=>by simp only [VR] at hr ⊢; exact Rd_mono h.im _ _ hr
 | .ptr k _ _,_,hr=>by
   simp only [VR] at hr ⊢
   rw [h.ρ k hr.1]
   exact ⟨Nat.lt_of_lt_of_le hr.1 h.nx,hr.2⟩
 | .cp x,cs,hr=>by simp only [VR] at hr ⊢; exact Rd_mono h.im _ _ hr
 | .nilp,_,hr=>by simp only [VR] at hr ⊢; exact Rd_mono h.im _ _ hr
 | .fn f cap,cs,hr=>by
   simp only [VR] at hr ⊢
   obtain ⟨vs,h1,h2⟩:=hr
   exact ⟨vs,h1,VA_mono h cap vs h2⟩
 | .nilf,_,hr=>by simp only [VR] at hr ⊢; exact Rd_mono h.im _ _ hr
 | .mp k,_,hr=>by
   simp only [VR] at hr ⊢
   rw [h.ρ k hr.1]
   exact ⟨Nat.lt_of_lt_of_le hr.1 h.nx,hr.2⟩
 | .bm f k,_,hr=>by
   simp only [VR] at hr ⊢
   rw [h.ρ k hr.1]
   exact ⟨Nat.lt_of_lt_of_le hr.1 h.nx,hr.2⟩
 | .gs k len,_,hr=>by
   simp only [VR] at hr ⊢
   obtain ⟨h1,h2,h3⟩:=hr
   refine ⟨Nat.lt_of_lt_of_le h1 h.nx,h2,fun n hn=>?_⟩
   rcases h.tk k n h1 hn with ⟨h4,h5⟩ | ⟨m,h4,h5⟩
   ·rw [h5]; exact h3 n h4
   ·have:=(h3 m h4).1; exact ⟨by omega,fun e=>by omega⟩
 | .nilm,_,hr=>by simp only [VR] at hr ⊢; exact Rd_mono h.im _ _ hr
 | .und,_,hr=>by simp only [VR] at hr ⊢; exact Rd_mono h.im _ _ hr
theorem VRL_mono {c d : Cx} (h : c.Le d) : ∀ (l : List AV) (cs : List Value),VRL c l cs → VRL d l cs
 | [],_,hr=>by simpa only [VRL] using hr
 | x :: l,cs,hr=>by
   simp only [VRL] at hr ⊢
   obtain ⟨a,e,h1,h2,h3⟩:=hr
   exact ⟨a,e,h1,VR_mono h x _ h2,VRL_mono h l _ h3⟩
theorem VA_mono {c d : Cx} (h : c.Le d) : ∀ (l : List AV) (vs : List Value),VA c l vs → VA d l vs
 | [],_,hr=>by simpa only [VA] using hr
 | x :: l,vs,hr=>by
   simp only [VA] at hr ⊢
   obtain ⟨v,r,h1,h2,h3,h4⟩:=hr
   exact ⟨v,r,h1,h2,VR_mono h x _ h3,VA_mono h l _ h4⟩
end

theorem VV_mono {c d : Cx} (h : c.Le d) {A : AV} {v : Value} (hv : VV c A v) : VV d A v:=⟨hv.1,VR_mono h _ _ hv.2⟩

theorem EV_mono {c d : Cx} (h : c.Le d) : ∀ {A : AV} {v : Value},EV c A v → EV d A v:=by
 intro A v hv
 cases A <;> first
  | exact VV_mono h hv
  | trivial
  | (obtain ⟨vs,h1,h2⟩:=hv; exact ⟨vs,h1,VA_mono h _ _ h2⟩)

end Go.AL

namespace Go.AL

mutual
theorem Rd_length {w : World} {Im : Nat → Nat → Prop} : ∀ (A : AV) (cs : List Value),Rd w Im A cs → cs.length = flat A
 | .bool _,_,hr=>by simp only [Rd] at hr; subst hr; rfl
 | .tt,_,hr=>by simp only [Rd] at hr; subst hr; rfl
 | .ff,_,hr=>by simp only [Rd] at hr; subst hr; rfl
 | .dec _,_,hr=>by simp only [Rd] at hr; obtain ⟨b,rfl,_⟩:=hr; rfl
 | .int _ _,_,hr=>by simp only [Rd] at hr; obtain ⟨rfl,_⟩:=hr; rfl
 | .str _,_,hr=>by simp only [Rd] at hr; obtain ⟨rfl,_⟩:=hr; rfl
 | .nilI,_,hr=>by simp only [Rd] at hr; subst hr; rfl
 | .ifc t x,cs,hr=>by simp only [Rd] at hr; obtain ⟨v,rfl,_⟩:=hr; rfl
 | .nils,_,hr=>by simp only [Rd] at hr; subst hr; rfl
 | .sl sz l .no,cs,hr=>by
   simp only [Rd] at hr
   obtain ⟨_,⟨_,rfl⟩ | ⟨a,cap,rfl,_⟩⟩:=hr <;> rfl
 | .sl sz l .full,cs,hr=>by simp only [Rd] at hr
 | .sl sz l (.own _),cs,hr=>by simp only [Rd] at hr
 | .ms _ _ _ _ _,_,hr=>by simp only [Rd] at hr
 | .ag l,cs,hr=>by
   simp only [Rd] at hr
   simp only [flat]
   exact RdL_length l cs hr
 | .tup _,_,hr=>by simp only [Rd] at hr
 | .ptr _ _ _,_,hr=>by simp only [Rd] at hr
 | .cp x,cs,hr=>by simp only [Rd] at hr; obtain ⟨a,ds,rfl,_⟩:=hr; rfl
 | .nilp,_,hr=>by simp only [Rd] at hr; subst hr; rfl
 | .fn _ _,_,hr=>by simp only [Rd] at hr; obtain ⟨_,rfl,_⟩:=hr; rfl
 | .nilf,_,hr=>by simp only [Rd] at hr; subst hr; rfl
 | .mp _,_,hr=>by simp only [Rd] at hr
 | .gs _ _,_,hr=>by simp only [Rd] at hr
 | .bm _ _,_,hr=>by simp only [Rd] at hr
 | .nilm,_,hr=>by simp only [Rd] at hr; subst hr; rfl
 | .und,_,hr=>by simp only [Rd] at hr
theorem RdL_length {w : World} {Im : Nat → Nat → Prop} : ∀ (l : List AV) (cs : List Value),RdL w Im l cs → cs.length = flatL l
 | [],_,hr=>by simp only [RdL] at hr; subst hr; rfl
 | x :: l,cs,hr=>by
   simp only [RdL] at hr
   obtain ⟨c,d,rfl,h2,h3⟩:=hr
   simp only [flatL,List.length_append,Rd_length x _ h2,RdL_length l _ h3]
end

mutual
theorem VR_length {c : Cx} : ∀ (A : AV) (cs : List Value),VR c A cs → cs.length = flat A
 | .bool _,_,hr=>by simp only [VR] at hr; exact Rd_length _ _ hr
 | .tt,_,hr=>by simp only [VR] at hr; exact Rd_length _ _ hr
 | .ff,_,hr=>by simp only [VR] at hr; exact Rd_length _ _ hr
 | .dec _,_,hr=>by simp only [VR] at hr; exact Rd_length _ _ hr
 | .int _ _,_,hr=>by simp only [VR] at hr; exact Rd_length _ _ hr
 | .str _,_,hr=>by simp only [VR] at hr; exact Rd_length _ _ hr
 | .nilI,_,hr=>by simp only [VR] at hr; exact Rd_length _ _ hr
 | .ifc t x,cs,hr=>by simp only [VR] at hr; obtain ⟨v,rfl,_⟩:=hr; rfl
 | .nils,_,hr=>by simp only [VR] at hr; exact Rd_length _ _ hr
 | .sl sz l .no,cs,hr=>by simp only [VR] at hr; exact Rd_length _ _ hr
 | .sl sz l .full,cs,hr=>by simp only [VR] at hr; exact Rd_length (.sl sz l .no) _ hr.1
 | .sl sz l (.own _),cs,hr=>by simp only [VR] at hr; exact Rd_length (.sl sz l .no) _ hr.2.1
 | .ms _ _ _ _ _,_,hr=>by simp only [VR] at hr; obtain ⟨_,rfl,_⟩:=hr; rfl
 | .ag l,cs,hr=>by
   simp only [VR] at hr
   simp only [flat]
   exact VRL_length l cs hr
 | .tup _,_,hr=>by simp only [VR] at hr; exact Rd_length _ _ hr
 | .ptr _ _ _,_,hr=>by simp only [VR] at hr; obtain ⟨_,rfl⟩:=hr; rfl
 | .cp x,cs,hr=>by simp only [VR] at hr; exact Rd_length _ _ hr
 | .nilp,_,hr=>by simp only [VR] at hr; exact Rd_length _ _ hr
 | .fn _ _,_,hr=>by simp only [VR] at hr; obtain ⟨_,rfl,_⟩:=hr; rfl
 | .nilf,_,hr=>by simp only [VR] at hr; exact Rd_length _ _ hr
 | .mp _,_,hr=>by simp only [VR] at hr; obtain ⟨_,rfl⟩:=hr; rfl
 | .gs _ _,_,hr=>by simp only [VR] at hr; obtain ⟨_,⟨_,_,_,rfl⟩,_⟩:=hr; rfl
 | .bm _ _,_,hr=>by simp only [VR] at hr; obtain ⟨_,rfl⟩:=hr; rfl
 | .nilm,_,hr=>by simp only [VR] at hr; exact Rd_length _ _ hr
 | .und,_,hr=>by simp only [VR] at hr; exact Rd_length _ _ hr
theorem VRL_length {c : Cx} : ∀ (l : List AV) (cs : List Value),VRL c l cs → cs.length = flatL l
 | [],_,hr=>by simp only [VRL] at hr; subst hr; rfl
 | x :: l,cs,hr=>by
   simp only [VRL] at hr
   obtain ⟨a,d,rfl,h2,h3⟩:=hr
   simp only [flatL,List.length_append,VR_length x _ h2,VRL_length l _ h3]
end

def mkV (A : AV) (cs : List Value) : Value:=match A with
 | .ag _=>.agg cs.toArray
 | _=>cs.getD 0 default

theorem VR_shape {c : Cx} {A : AV} {cs : List Value} (h : VR c A cs) (hA : isAg A = false) : ∃ v,cs = [v] ∧ v.cells = #[v]:=by
 cases A with
 | ag l=>simp [isAg] at hA
 | dec p=>simp only [VR,Rd] at h; obtain ⟨b,rfl,_⟩:=h; exact ⟨_,rfl,rfl⟩
 | sl sz l tok =>
   cases tok with
   | no=>simp only [VR,Rd] at h; obtain ⟨_,⟨_,rfl⟩ | ⟨a,cap,rfl,_⟩⟩:=h <;> exact ⟨_,rfl,rfl⟩
   | full=>simp only [VR,Rd] at h; obtain ⟨⟨_,⟨_,rfl⟩ | ⟨a,cap,rfl,_⟩⟩,_⟩:=h <;> exact ⟨_,rfl,rfl⟩
   | own k=>simp only [VR,Rd] at h; obtain ⟨_,⟨_,⟨_,rfl⟩ | ⟨a,cap,rfl,_⟩⟩,_⟩:=h <;> exact ⟨_,rfl,rfl⟩
 | ifc t x=>simp only [VR] at h; obtain ⟨v,rfl,_⟩:=h; exact ⟨_,rfl,rfl⟩
 | cp x=>simp only [VR,Rd] at h; obtain ⟨a,ds,rfl,_⟩:=h; exact ⟨_,rfl,rfl⟩
 | fn f cap=>simp only [VR] at h; obtain ⟨vs,rfl,_⟩:=h; exact ⟨_,rfl,rfl⟩
 | tup l=>simp only [VR,Rd] at h
 | und=>simp only [VR,Rd] at h
 | ptr=>simp only [VR] at h; obtain ⟨_,rfl⟩:=h; exact ⟨_,rfl,rfl⟩
 | ms=>simp only [VR] at h; obtain ⟨_,rfl,_⟩:=h; exact ⟨_,rfl,rfl⟩
 | mp=>simp only [VR] at h; obtain ⟨_,rfl⟩:=h; exact ⟨_,rfl,rfl⟩
 | gs=>simp only [VR] at h; obtain ⟨_,⟨_,_,_,rfl⟩,_⟩:=h; exact ⟨_,rfl,rfl⟩
 | bm=>simp only [VR] at h; obtain ⟨_,rfl⟩:=h; exact ⟨_,rfl,rfl⟩
 | int=>simp only [VR,Rd] at h; obtain ⟨rfl,_⟩:=h; exact ⟨_,rfl,rfl⟩
 | str=>simp only [VR,Rd] at h; obtain ⟨rfl,_⟩:=h; exact ⟨_,rfl,rfl⟩
 | _=>simp only [VR,Rd] at h; subst h; exact ⟨_,rfl,rfl⟩

theorem mkV_cells {c : Cx} {A : AV} {cs : List Value} (h : VR c A cs) : (mkV A cs).cells.toList = cs:=by
 cases hA : isAg A with
 | true=>cases A <;> simp [isAg] at hA; simp [mkV,Value.cells]
 | false =>
   obtain ⟨v,rfl,hv⟩:=VR_shape h hA
   have : mkV A [v] = v:=by cases A <;> simp [isAg] at hA <;> rfl
   rw [this,hv]

theorem VV_mkV {c : Cx} {A : AV} {cs : List Value} (h : VR c A cs) : VV c A (mkV A cs):=by
 refine ⟨⟨fun hA=>?_,fun hA=>?_⟩,by rw [mkV_cells h]; exact h⟩
 ·cases A <;> simp [isAg] at hA; exact ⟨_,rfl⟩
 ·obtain ⟨v,rfl,hv⟩:=VR_shape h hA
  have : mkV A [v] = v:=by cases A <;> simp [isAg] at hA <;> rfl
  rw [this,hv]

theorem VV_of_single {c : Cx} {A : AV} {v : Value} (h : VR c A [v]) (hA : isAg A = false) : VV c A v:=by
 obtain ⟨u,hu,hv⟩:=VR_shape h hA
 obtain rfl : v = u:=by simpa using hu
 exact ⟨⟨fun h=>by simp [h] at hA,fun _=>hv⟩,by rw [hv]; exact h⟩

theorem VV_single {c : Cx} {A : AV} {v : Value} (h : VV c A v) (hA : isAg A = false) : VR c A [v]:=by
 have:=h.2; rw [h.1.2 hA] at this; exact this

mutual
def pureB : AV → Bool
 | .ptr _ _ _ | .ms _ _ _ _ _ | .mp _ | .gs _ _ | .bm _ _ | .tup _ | .und=>false
 | .fn _ cap=>pureBL cap
 | .ag l=>pureBL l
 | .ifc _ x=>pureB x
 | _=>true
def pureBL : List AV → Bool
 | []=>true
 | x :: l=>match pureB x with | true=>pureBL l | false=>false
end

mutual
def strip : AV → AV
 | .sl sz l _=>.sl sz l .no
 | .ag l=>.ag (stripL l)
 | .ifc t x=>.ifc t (strip x)
 | .fn f cap=>.fn f (stripL cap)
 | A=>A
def stripL : List AV → List AV
 | []=>[]
 | x :: l=>strip x :: stripL l
end

theorem isAg_strip (A : AV) : isAg (strip A) = isAg A:=by cases A <;> rfl

theorem shapeV_strip {A : AV} {v : Value} (h : shapeV A v) : shapeV (strip A) v:=by
 unfold shapeV at *; rw [isAg_strip]; exact h

mutual
theorem Rd_strip {c : Cx} : ∀ (A : AV) (cs : List Value),pureB A = true → VR c A cs → Rd c.w c.Im (strip A) cs
 | .bool _,_,_,hr=>by simpa only [VR,strip] using hr
 | .tt,_,_,hr=>by simpa only [VR,strip] using hr
 | .ff,_,_,hr=>by simpa only [VR,strip] using hr
 | .dec _,_,_,hr=>by simpa only [VR,strip] using hr
 | .int _ _,_,_,hr=>by simpa only [VR,strip] using hr
 | .str _,_,_,hr=>by simpa only [VR,strip] using hr
 | .nilI,_,_,hr=>by simpa only [VR,strip] using hr
 | .ifc t x,cs,hp,hr=>by
   simp only [VR] at hr
   obtain ⟨v,rfl,h2,h3⟩:=hr
   simp only [strip,Rd]
   exact ⟨v,rfl,shapeV_strip h2,Rd_strip x _ hp h3⟩
 | .nils,_,_,hr=>by simpa only [VR,strip] using hr
 | .sl sz l .no,cs,_,hr=>by simpa only [VR,strip] using hr
 | .sl sz l .full,cs,_,hr=>by simp only [VR] at hr; simpa only [strip] using hr.1
 | .sl sz l (.own _),cs,_,hr=>by simp only [VR] at hr; simpa only [strip] using hr.2.1
 | .ms _ _ _ _ _,_,hp,_=>by simp [pureB] at hp
 | .ag l,cs,hp,hr=>by
   simp only [VR] at hr
   simp only [strip,Rd]
   exact RdL_strip l cs hp hr
 | .tup _,_,hp,_=>by simp [pureB] at hp
 | .ptr _ _ _,_,hp,_=>by simp [pureB] at hp
 | .cp x,cs,_,hr=>by simpa only [VR,strip] using hr
 | .nilp,_,_,hr=>by simpa only [VR,strip] using hr
 | .fn f cap,cs,hp,hr=>by
   simp only [VR] at hr
   obtain ⟨vs,h1,h2⟩:=hr
   simp only [strip,Rd]
   exact ⟨vs,h1,RdA_strip cap vs hp h2⟩
 | .nilf,_,_,hr=>by simpa only [VR,strip] using hr
 | .mp _,_,hp,_=>by simp [pureB] at hp
 | .gs _ _,_,hp,_=>by simp [pureB] at hp
 | .bm _ _,_,hp,_=>by simp [pureB] at hp
 | .nilm,_,_,hr=>by simpa only [VR,strip] using hr
 | .und,_,hp,_=>by simp [pureB] at hp
theorem RdL_strip {c : Cx} : ∀ (l : List AV) (cs : List Value),pureBL l = true → VRL c l cs → RdL c.w c.Im (stripL l) cs
 | [],_,_,hr=>by simpa only [VRL,stripL,RdL] using hr
 | x :: l,cs,hp,hr=>by
   simp only [VRL] at hr
   obtain ⟨a,d,h1,h2,h3⟩:=hr
   simp only [stripL,RdL]
   simp only [pureBL] at hp
   cases hx : pureB x with
   | false=>simp [hx] at hp
   | true=>rw [hx] at hp; exact ⟨a,d,h1,Rd_strip x _ hx h2,RdL_strip l _ hp h3⟩
theorem RdA_strip {c : Cx} : ∀ (l : List AV) (vs : List Value),pureBL l = true → VA c l vs → RdA c.w c.Im (stripL l) vs
 | [],_,_,hr=>by simpa only [VA,stripL,RdA] using hr
 | x :: l,vs,hp,hr=>by
   simp only [VA] at hr
   obtain ⟨v,r,h1,h2,h3,h4⟩:=hr
   simp only [stripL,RdA]
   simp only [pureBL] at hp
   cases hx : pureB x with
   | false=>simp [hx] at hp
   | true=>rw [hx] at hp; exact ⟨v,r,h1,shapeV_strip h2,Rd_strip x _ hx h3,RdA_strip l _ hp h4⟩
end

mutual
theorem VR_of_Rd {c : Cx} : ∀ (A : AV) (cs : List Value),Rd c.w c.Im A cs → VR c A cs
 | .bool _,_,hr=>by simpa only [VR] using hr
 | .tt,_,hr=>by simpa only [VR] using hr
 | .ff,_,hr=>by simpa only [VR] using hr
 | .dec _,_,hr=>by simpa only [VR] using hr
 | .int _ _,_,hr=>by simpa only [VR] using hr
 | .str _,_,hr=>by simpa only [VR] using hr
 | .nilI,_,hr=>by simpa only [VR] using hr
 | .ifc t x,cs,hr=>by
   simp only [Rd] at hr
   obtain ⟨v,h1,h2,h3⟩:=hr
   simp only [VR]
   exact ⟨v,h1,h2,VR_of_Rd x _ h3⟩
 | .nils,_,hr=>by simpa only [VR] using hr
 | .sl sz l .no,cs,hr=>by simpa only [VR] using hr
 | .sl sz l .full,cs,hr=>by simp only [Rd] at hr
 | .sl sz l (.own _),cs,hr=>by simp only [Rd] at hr
 | .ms _ _ _ _ _,_,hr=>by simp only [Rd] at hr
 | .ag l,cs,hr=>by
   simp only [Rd] at hr
   simp only [VR]
   exact VRL_of_RdL l cs hr
 | .tup _,_,hr=>by simp only [Rd] at hr
 | .ptr _ _ _,_,hr=>by simp only [Rd] at hr
 | .cp x,cs,hr=>by simpa only [VR] using hr
 | .nilp,_,hr=>by simpa only [VR] using hr
 | .fn f cap,cs,hr=>by
   simp only [Rd] at hr
   obtain ⟨vs,h1,h2⟩:=hr
   simp only [VR]
   exact ⟨vs,h1,VA_of_RdA cap vs h2⟩
 | .nilf,_,hr=>by simpa only [VR] using hr
 | .gs _ _,_,hr=>by simp only [Rd] at hr
 | .bm _ _,_,hr=>by simp only [Rd] at hr
 | .mp _,_,hr=>by simp only [Rd] at hr
 | .nilm,_,hr=>by simpa only [VR] using hr
 | .und,_,hr=>by simp only [Rd] at hr
theorem VRL_of_RdL {c : Cx} : ∀ (l : List AV) (cs : List Value),RdL c.w c.Im l cs → VRL c l cs
 | [],_,hr=>by simpa only [VRL,RdL] using hr
 | x :: l,cs,hr=>by
   simp only [RdL] at hr
   obtain ⟨a,d,h1,h2,h3⟩:=hr
   simp only [VRL]
   exact ⟨a,d,h1,VR_of_Rd x _ h2,VRL_of_RdL l _ h3⟩
theorem VA_of_RdA {c : Cx} : ∀ (l : List AV) (vs : List Value),RdA c.w c.Im l vs → VA c l vs
 | [],_,hr=>by simpa only [VA,RdA] using hr
 | x :: l,vs,hr=>by
   simp only [RdA] at hr
   obtain ⟨v,r,h1,h2,h3,h4⟩:=hr
   simp only [VA]
   exact ⟨v,r,h1,h2,VR_of_Rd x _ h3,VA_of_RdA l _ h4⟩
end

theorem VV_of_Rd {c : Cx} {A : AV} {v : Value} (hs : shapeV A v) (h : Rd c.w c.Im A v.cells.toList) : VV c A v:=⟨hs,VR_of_Rd _ _ h⟩

theorem RdE_get {w : World} {Im : Nat → Nat → Prop} {sz b : Nat} : ∀ {l : List AV} {off i : Nat} {x : AV},RdE w Im sz b l off → l[i]? = some x →
  ∃ cs,cs.length = sz ∧ cellsAt w Im b (off + i * sz) cs ∧ Rd w Im x cs
 | [],_,_,_,_,h=>by simp at h
 | y :: l,off,0,x,hr,h=>by
   simp only [RdE] at hr
   obtain rfl : y = x:=by simpa using h
   simpa using hr.1
 | y :: l,off,i + 1,x,hr,h=>by
   simp only [RdE] at hr
   obtain ⟨cs,h1,h2,h3⟩:=RdE_get (i:=i) hr.2 (by simpa using h)
   refine ⟨cs,h1,?_,h3⟩
   have : off + (i + 1) * sz = off + sz + i * sz:=by rw [Nat.add_mul]; omega
   rw [this]; exact h2

theorem RdE_append {w : World} {Im : Nat → Nat → Prop} {sz b : Nat} : ∀ {l m : List AV} {off : Nat},RdE w Im sz b l off → RdE w Im sz b m (off + l.length * sz) →
  RdE w Im sz b (l ++ m) off
 | [],m,off,_,h=>by simpa using h
 | x :: l,m,off,h,hm=>by
   simp only [RdE,List.cons_append] at h ⊢
   refine ⟨h.1,RdE_append h.2 ?_⟩
   have : off + sz + l.length * sz = off + (x :: l).length * sz:=by simp [Nat.add_mul]; omega
   rw [this]; exact hm

theorem RdE_drop {w : World} {Im : Nat → Nat → Prop} {sz b : Nat} : ∀ {l : List AV} {off : Nat} (n : Nat),RdE w Im sz b l off → n ≤ l.length → RdE w Im sz b (l.drop n) (off + n * sz)
 | l,off,0,h,_=>by simpa using h
 | [],off,n + 1,_,hn=>by simp at hn
 | x :: l,off,n + 1,h,hn=>by
   simp only [RdE] at h
   have:=RdE_drop (l:=l) (off:=off + sz) n h.2 (by simpa using hn)
   have e : off + (n + 1) * sz = off + sz + n * sz:=by rw [Nat.add_mul]; omega
   rw [e]; exact this

theorem RdE_take {w : World} {Im : Nat → Nat → Prop} {sz b : Nat} : ∀ {l : List AV} {off : Nat} (n : Nat),RdE w Im sz b l off → RdE w Im sz b (l.take n) off
 | l,off,0,h=>by simp [RdE]
 | [],off,n + 1,h=>by simp [RdE]
 | x :: l,off,n + 1,h=>by
   simp only [RdE] at h
   simp only [List.take_succ_cons,RdE]
   exact ⟨h.1,RdE_take n h.2⟩

end Go.AL

namespace Go.AL

abbrev Env:=List (Nat × AV)

inductive HO where
 | box (A : AV)
 | arr (sz cap : Nat) (l : List AV)
 | tok (sz top : Nat)
 | amap (sh : AV) (es : List (AV × AV))
 | wtok (sz : Nat) (l : List AV)
 | gone
 deriving Inhabited

abbrev Heap:=List (Nat × HO)

def egetC : Env → Nat → (AV → Prop) → Prop
 | [],_,_=>False
 | (i,A) :: e,t,k=>match Nat.beq i t with | true=>k A | false=>egetC e t k

def eget : Env → Nat → Option AV
 | [],_=>none
 | (i,A) :: e,t=>match Nat.beq i t with | true=>some A | false=>eget e t

theorem egetC_iff {k : AV → Prop} : ∀ {e : Env} {t : Nat},egetC e t k ↔ ∃ A,eget e t = some A ∧ k A
 | [],t=>by simp [egetC,eget]
 | (i,A) :: e,t=>by
   simp only [egetC,eget]
   cases Nat.beq i t with
   | true=>simp
   | false=>exact egetC_iff

def hgetC : Heap → Nat → (HO → Prop) → Prop
 | [],_,_=>False
 | (i,o) :: H,n,k=>match Nat.beq i n with | true=>k o | false=>hgetC H n k

def hget : Heap → Nat → Option HO
 | [],_=>none
 | (i,o) :: H,n=>match Nat.beq i n with | true=>some o | false=>hget H n

theorem hgetC_iff {k : HO → Prop} : ∀ {H : Heap} {n : Nat},hgetC H n k ↔ ∃ o,hget H n = some o ∧ k o
 | [],n=>by simp [hgetC,hget]
 | (i,o) :: H,n=>by
   simp only [hgetC,hget]
   cases Nat.beq i n with
   | true=>simp
   | false=>exact hgetC_iff

def hsetC : Heap → Nat → HO → (Heap → Prop) → Prop
 | [],_,_,_=>False
 | (i,o) :: H,n,o',k=>match Nat.beq i n with | true=>k ((i,o') :: H) | false=>hsetC H n o' fun H'=>k ((i,o) :: H')

def hset : Heap → Nat → HO → Heap
 | [],_,_=>[]
 | (i,o) :: H,n,o'=>match Nat.beq i n with | true=>(i,o') :: H | false=>(i,o) :: hset H n o'

theorem hsetC_iff : ∀ {H : Heap} {n : Nat} {o' : HO} {k : Heap → Prop},hsetC H n o' k ↔ (∃ o,hget H n = some o) ∧ k (hset H n o')
 | [],n,o',k=>by simp [hsetC,hget]
 | (i,o) :: H,n,o',k=>by
   simp only [hsetC,hget,hset]
   cases Nat.beq i n with
   | true=>simp
   | false=>exact hsetC_iff

def nextId : Heap → Nat
 | []=>0
 | (i,_) :: _=>i + 1

def succC (n : Nat) (k : Nat → Prop) : Prop :=
 match n with
 | 0=>k 1 | 1=>k 2 | 2=>k 3 | 3=>k 4 | 4=>k 5 | 5=>k 6 | 6=>k 7 | 7=>k 8 | 8=>k 9 | 9=>k 10
 | 10=>k 11 | 11=>k 12 | 12=>k 13 | 13=>k 14 | 14=>k 15 | 15=>k 16 | 16=>k 17 | 17=>k 18 | 18=>k 19 | 19=>k 20
 | n + 20=>k (n + 21)

theorem succC_iff {n : Nat} {k : Nat → Prop} : succC n k ↔ k (n + 1):=by
 unfold succC
 split <;> exact Iff.rfl

def pushC (H : Heap) (o : HO) (k : Nat → Heap → Prop) : Prop :=
 match H with
 | []=>k 0 [(0,o)]
 | (i,x) :: H=>succC i fun j=>k j ((j,o) :: (i,x) :: H)

theorem pushC_iff {H : Heap} {o : HO} {k : Nat → Heap → Prop} : pushC H o k ↔ k (nextId H) ((nextId H,o) :: H):=by
 cases H with
 | nil=>exact Iff.rfl
 | cons x H=>obtain ⟨i,x⟩:=x; simp only [pushC,succC_iff,nextId]

def tpOf (H : Heap) (k : Nat) : Option Nat:=match hget H k with | some (.tok _ n)=>some n | some (.wtok _ l)=>some l.length | _=>none

def VRE (c : Cx) (sz : Nat) : List AV → List Value → Prop
 | [],_=>True
 | x :: l,cs=>∃ a d,cs = a ++ d ∧ a.length = sz ∧ Rd c.w c.Im x a ∧ VRE c sz l d

def VRM (c : Cx) : List (AV × AV) → List MapEntry → Prop
 | [],es=>es = []
 | (x,y) :: l,es=>∃ e r,es = e :: r ∧ VV c x e.key ∧ VV c y e.val ∧ VRM c l r

def ikeq : IntKind → IntKind → Bool
 | .i8,.i8 | .i16,.i16 | .i32,.i32 | .i64,.i64 | .u8,.u8 | .u16,.u16 | .u32,.u32 | .u64,.u64=>true
 | _,_=>false

theorem ikeq_eq {a b : IntKind} (h : ikeq a b = true) : a = b:=by cases a <;> cases b <;> first | rfl | simp [ikeq] at h

mutual
def sameSh : AV → AV → Bool
 | .int k _,.int k' _=>ikeq k k'
 | .str _,.str _=>true
 | .ag l,.ag m=>sameShL l m
 | _,_=>false
def sameShL : List AV → List AV → Bool
 | [],[]=>true
 | x :: l,y :: m=>sameSh x y && sameShL l m
 | _,_=>false
end

def KSh (sh : AV) : List (AV × AV) → Prop
 | []=>True
 | (x,_) :: l=>sameSh sh x = true ∧ KSh sh l

def HO.Ok (c : Cx) (k : Nat) : HO → Prop
 | .box A=>∃ cs ty,c.w.heap[c.ρ k]? = some (.cells cs.toArray ty) ∧ VR c A cs ∧ ∀ o,¬ c.Im (c.ρ k) o
 | .arr sz cap l=>∃ cs ty,c.w.heap[c.ρ k]? = some (.cells cs.toArray ty) ∧ cs.length = cap * sz ∧ l.length ≤ cap ∧ cap ≤ maxL ∧ VRE c sz l cs ∧ ∀ o,¬ c.Im (c.ρ k) o
 | .tok sz top=>(c.tk k).2 = top ∨ ∃ b cs ty,(c.tk k).1 = some ⟨b,0,none⟩ ∧ c.w.heap[b]? = some (.cells cs ty) ∧ cs.size = (c.tk k).2 * sz ∧
   top ≤ (c.tk k).2 ∧ (c.tk k).2 ≤ maxL ∧ ∀ o,top * sz ≤ o → ¬ c.Im b o
 | .amap sh es=>∃ ents clock,c.w.heap[c.ρ k]? = some (.map ents clock) ∧ VRM c es ents.toList ∧ KSh sh es ∧ (∀ e ∈ ents.toList,e.born < clock) ∧ ents.toList.Pairwise fun a b=>a.key ≠ b.key
 | .wtok sz l=>((c.tk k).1 = none ∧ (c.tk k).2 = 0 ∧ l = []) ∨ ∃ b cs ty,(c.tk k).1 = some ⟨b,0,none⟩ ∧ c.w.heap[b]? = some (.cells cs.toArray ty) ∧ cs.length = (c.tk k).2 * sz ∧
   l.length ≤ (c.tk k).2 ∧ (c.tk k).2 ≤ maxL ∧ VRE c sz l cs ∧ ∀ o,¬ c.Im b o
 | .gone=>True

def blkOf (c : Cx) (x : Nat × HO) : Option Nat :=
 match x.2 with
 | .tok _ top=>if (c.tk x.1).2 = top then none else (c.tk x.1).1.map (·.block)
 | .wtok _ _=>(c.tk x.1).1.map (·.block)
 | .gone=>none
 | _=>some (c.ρ x.1)

def idsOk : Heap → Prop
 | []=>True
 | (i,_) :: H=>(∀ x ∈ H,x.1 < i) ∧ idsOk H

structure HR (c : Cx) (H : Heap) : Prop where
 nx : c.nx = nextId H
 tp : c.tp = tpOf H
 ids : idsOk H
 im : ∀ b o,c.Im b o → b < c.w.heap.size
 ok : ∀ x ∈ H,x.2.Ok c x.1
 apart : H.Pairwise fun x y=>∀ b : Nat,blkOf c x = some b → blkOf c y ≠ some b

structure Tr (c : Cx) (H : Heap) (d : Cx) (H' : Heap) : Prop where
 hr : HR d H'
 le : c.Le d
 os : d.w.os = c.w.os
 tape : d.w.tape = c.w.tape
 output : d.w.output = c.w.output
 size : c.w.heap.size ≤ d.w.heap.size
 fr : ∀ b,b < c.w.heap.size → (∀ x ∈ H,blkOf c x ≠ some b) → d.w.heap[b]? = c.w.heap[b]?
 own : ∀ y ∈ H',∀ b,blkOf d y = some b → c.w.heap.size ≤ b ∨ ∃ x ∈ H,blkOf c x = some b
 imb : ∀ b o,d.Im b o → c.Im b o ∨ c.w.heap.size ≤ b ∨ ∃ x ∈ H,blkOf c x = some b

theorem Cx.Le.refl (c : Cx) : c.Le c:=⟨fun _ _ h=>⟨h,rfl⟩,Nat.le_refl _,fun _ _=>rfl,fun _ _ _ h=>.inl ⟨h,rfl⟩⟩

theorem Cx.Le.trans {a b c : Cx} (h : a.Le b) (g : b.Le c) : a.Le c:=by
 refine ⟨fun x o hx=>?_,Nat.le_trans h.nx g.nx,fun k hk=>?_,fun k n hk hn=>?_⟩
 ·have h1:=h.im x o hx
  have h2:=g.im x o h1.1
  exact ⟨h2.1,h2.2.trans h1.2⟩
 ·exact (g.ρ k (Nat.lt_of_lt_of_le hk h.nx)).trans (h.ρ k hk)
 ·rcases g.tk k n (Nat.lt_of_lt_of_le hk h.nx) hn with ⟨h1,h2⟩ | ⟨m,h1,h2⟩
  ·rcases h.tk k n hk h1 with ⟨h3,h4⟩ | h3
   ·exact .inl ⟨h3,h2.trans h4⟩
   ·exact .inr h3
  ·rcases h.tk k m hk h1 with ⟨h3,h4⟩ | ⟨m',h3,h4⟩
   ·exact .inr ⟨m,h3,h2⟩
   ·exact .inr ⟨m',h3,by omega⟩

theorem Tr.refl {c : Cx} {H : Heap} (h : HR c H) : Tr c H c H :=
 ⟨h,.refl c,rfl,rfl,rfl,Nat.le_refl _,fun _ _ _=>rfl,fun y hy _ hb=>.inr ⟨y,hy,hb⟩,fun _ _ h=>.inl h⟩

theorem Tr.trans {a b c : Cx} {H H' H'' : Heap} (h : Tr a H b H') (g : Tr b H' c H'') : Tr a H c H'':=by
 refine ⟨g.hr,h.le.trans g.le,g.os.trans h.os,g.tape.trans h.tape,g.output.trans h.output,Nat.le_trans h.size g.size,fun x hx hn=>?_,fun y hy x hx=>?_,fun x o hx=>?_⟩
 ·rw [g.fr x (Nat.lt_of_lt_of_le hx h.size) ?_,h.fr x hx hn]
  intro y hy hb
  rcases h.own y hy x hb with h1 | ⟨z,h1,h2⟩
  ·omega
  ·exact hn z h1 h2
 ·rcases g.own y hy x hx with h1 | ⟨z,h1,h2⟩
  ·exact .inl (Nat.le_trans h.size h1)
  ·exact h.own z h1 x h2
 ·rcases g.imb x o hx with h1 | h1 | ⟨z,h1,h2⟩
  ·exact h.imb x o h1
  ·exact .inr (.inl (Nat.le_trans h.size h1))
  ·exact .inr (h.own z h1 x h2)

theorem beq_false_ne {i n : Nat} (h : Nat.beq i n = false) : i ≠ n:=by
 intro e; subst e; simp at h

theorem hget_mem : ∀ {H : Heap} {n : Nat} {o : HO},hget H n = some o → (n,o) ∈ H
 | [],_,_,h=>by simp [hget] at h
 | (i,x) :: H,n,o,h=>by
   simp only [hget] at h
   cases hb : Nat.beq i n with
   | true =>
     rw [hb] at h
     obtain rfl:=Nat.eq_of_beq_eq_true hb
     simp at h; subst h; simp
   | false=>rw [hb] at h; exact List.mem_cons_of_mem _ (hget_mem h)

theorem mem_hget : ∀ {H : Heap} {n : Nat} {o : HO},idsOk H → (n,o) ∈ H → hget H n = some o
 | [],_,_,_,h=>by simp at h
 | (i,x) :: H,n,o,hi,h=>by
   simp only [idsOk] at hi
   simp only [hget]
   rcases List.mem_cons.1 h with h | h
   ·simp at h; obtain ⟨rfl,rfl⟩:=h; simp
   ·have:=hi.1 _ h
    have hb : Nat.beq i n = false:=by
     cases hb : Nat.beq i n with
     | false=>rfl
     | true=>have:=Nat.eq_of_beq_eq_true hb; simp at *; omega
    rw [hb]; exact mem_hget hi.2 h

theorem ids_lt_next : ∀ {H : Heap},idsOk H → ∀ x ∈ H,x.1 < nextId H
 | [],_,x,h=>by simp at h
 | (i,y) :: H,hi,x,h=>by
   simp only [idsOk] at hi
   simp only [nextId]
   rcases List.mem_cons.1 h with h | h
   ·subst h; exact Nat.lt_succ_self _
   ·have:=hi.1 _ h; omega

theorem HR.okOf {c : Cx} {H : Heap} (h : HR c H) {k : Nat} {o : HO} (hk : hget H k = some o) : o.Ok c k:=h.ok _ (hget_mem hk)

end Go.AL

namespace Go.AL

inductive TD where
 | prim | bool | int (k : IntKind) | str | slice (e : Nat) | struct (fs : List (Nat × Nat × Nat)) | arr (n e : Nat) | map (k e : Nat) | iface | ptr (e : Nat) | other
 deriving Inhabited

structure TI where
 desc : TD
 bytes : Nat
 zero : AV
 key : Option AV:=none
 cmp : Bool:=false
 deriving Inhabited

inductive Lay where
 | nil
 | node (l : Lay) (t : Nat) (i : TI) (r : Lay)

def Lay.getC : Lay → Nat → (TI → Prop) → Prop
 | .nil,_,_=>False
 | .node l t i r,n,k=>match Nat.beq n t with
   | true=>k i
   | false=>match Nat.ble n t with
     | true=>l.getC n k
     | false=>r.getC n k

def descOf (P : Program) : TypeDesc → TD
 | .bool=>.bool
 | .int k=>.int k
 | .string=>.str
 | .slice e=>.slice e
 | .struct fs=>.struct (fs.toList.map fun f=>(f.offset,P.cellsOf f.type,f.type))
 | .array n e=>.arr n e
 | .map k e=>.map k e
 | .interface _=>.iface
 | .pointer e=>.ptr e
 | .func ..=>.prim
 | _=>.other

def isAggD : TD → Bool
 | .struct _ | .arr _ _=>true
 | _=>false

def offsOf (n : Nat) : List AV → List (Nat × Nat)
 | []=>[]
 | x :: l=>(n,flat x) :: offsOf (n + flat x) l

structure KeyOk (P : Program) (k : Nat) (sh : AV) : Prop where
 law : Go.Maps.Keyed P k
 rd : ∀ w Im A v,sameSh sh A = true → shapeV A v → Rd w Im A v.cells.toList → ∃ l,keyOf P k v = some l

def sameQ : AV → AV → Bool
 | .int k _,.int k' _=>ikeq k k'
 | .str _,.str _=>true
 | .ff,.tt | .ff,.ff | .ff,.bool _ | .ff,.dec _=>true
 | _,_=>false
def sameQL : List AV → List AV → Bool
 | [],[]=>true
 | x :: l,y :: m=>match sameQ x y with | true=>sameQL l m | false=>false
 | _,_=>false

def isT : AV → Prop
 | .tt=>True
 | .bool b=>b = true
 | .dec p=>p
 | _=>False

def eqP : AV → AV → Prop
 | .int _ a,.int _ b=>a = b
 | .str a,.str b=>a = b
 | A,B=>(isT A ↔ isT B)
def eqPL : List AV → List AV → Prop
 | [],[]=>True
 | x :: l,y :: m=>eqP x y ∧ eqPL l m
 | _,_=>False

structure EqOk (P : Program) (t : Nat) (zs : List AV) : Prop where
 run : ∀ w Im l m cs ds,sameQL zs l = true → sameQL zs m = true → RdL w Im l cs.toList → RdL w Im m ds.toList → ∃ r,(Op.equal t (.agg cs) (.agg ds)).run P w = .ok r w ∧ (r = true ↔ cs = ds)
 grd : P.eqGuardType P.depth t = false

structure TIOk (P : Program) (t : Nat) (i : TI) : Prop where
 cmpd : i.cmp = true → ∀ zs,i.zero = .ag zs → EqOk P t zs
 keyed : ∀ k e sh,i.desc = .map k e → i.key = some sh → KeyOk P k sh
 info : ∃ x v,P.info? t = some x ∧ x.size = flat i.zero ∧ x.bytes = i.bytes ∧ x.zero = some v ∧ shapeV i.zero v ∧ ∀ w Im,Rd w Im i.zero v.cells.toList
 desc : (P.underlying t).map (descOf P) = some i.desc
 agg : isAggD i.desc = isAg i.zero
 flds : ∀ fs,i.desc = .struct fs → ∃ zs,i.zero = .ag zs ∧ fs.map (fun f=>(f.1,f.2.1)) = offsOf 0 zs
 inf : ∀ fs,i.desc = .struct fs → ∀ f ∈ fs,∃ x,P.info? f.2.2 = some x

def LayOk (P : Program) : Lay → Prop
 | .nil=>True
 | .node l t i r=>TIOk P t i ∧ LayOk P l ∧ LayOk P r

theorem Lay.getC_ok {P : Program} {k : TI → Prop} : ∀ {L : Lay} {t : Nat},LayOk P L → L.getC t k → ∃ i,TIOk P t i ∧ k i
 | .nil,_,_,h=>h.elim
 | .node l t' i r,t,hL,h=>by
   simp only [Lay.getC] at h
   cases hb : Nat.beq t t' with
   | true=>rw [hb] at h; obtain rfl:=Nat.eq_of_beq_eq_true hb; exact ⟨i,hL.1,h⟩
   | false =>
     rw [hb] at h
     cases hc : Nat.ble t t' with
     | true=>rw [hc] at h; exact Lay.getC_ok hL.2.1 h
     | false=>rw [hc] at h; exact Lay.getC_ok hL.2.2 h

def constC (v : Value) (k : AV → Prop) : Prop :=
 match v with
 | .bool true=>k .tt
 | .bool false=>k .ff
 | .int kd n=>k (.int kd n)
 | .string s=>k (.str s.data.toList)
 | .slice none 0 0=>k .nils
 | .nilIface=>k .nilI
 | .pointer none=>k .nilp
 | .map none=>k .nilm
 | .nilFunc=>k .nilf
 | _=>False

def aev (e : Env) (x : Operand) (k : AV → Prop) : Prop :=
 match x with
 | .tmp t=>egetC e t k
 | .const v=>constC v k
 | .func f=>k (.fn f [])
 | .global _=>False

def aevs (e : Env) : List Operand → (List AV → Prop) → Prop
 | [],k=>k []
 | x :: l,k=>aev e x fun A=>aevs e l fun As=>k (A :: As)

def nthC {α : Type} : List α → Nat → (α → Prop) → Prop
 | [],_,_=>False
 | x :: _,0,k=>k x
 | _ :: l,n + 1,k=>nthC l n k

def setNthC : List AV → Nat → AV → (List AV → Prop) → Prop
 | [],_,_,_=>False
 | _ :: l,0,y,k=>k (y :: l)
 | x :: l,n + 1,y,k=>setNthC l n y fun l'=>k (x :: l')

def snocC : List Nat → Nat → (List Nat → Prop) → Prop
 | [],x,k=>k [x]
 | y :: l,x,k=>snocC l x fun l'=>k (y :: l')

def appC : List AV → List AV → (List AV → Prop) → Prop
 | [],m,k=>k m
 | x :: l,m,k=>appC l m fun l'=>k (x :: l')

def getPC : AV → List Nat → (AV → Prop) → Prop
 | A,[],k=>k A
 | .ag l,i :: p,k=>nthC l i fun x=>getPC x p k
 | _,_ :: _,_=>False

def setPC : AV → List Nat → AV → (AV → Prop) → Prop
 | _,[],y,k=>k y
 | .ag l,i :: p,y,k=>nthC l i fun x=>setPC x p y fun x'=>setNthC l i x' fun l'=>k (.ag l')
 | _,_ :: _,_,_=>False

def offP : AV → List Nat → Nat
 | .ag l,i :: p=>flatL (l.take i) + (match l[i]? with | some x=>offP x p | none=>0)
 | _,_=>0

def isVal : AV → Bool
 | .tup _ | .und=>false
 | _=>true

def valC (A : AV) (k : Prop) : Prop:=match isVal A with | true=>k | false=>False

def valsC : List AV → Prop → Prop
 | [],k=>k
 | A :: l,k=>valC A (valsC l k)

def chkT (L : Lay) (t : Nat) (x : AV) (k : Prop) : Prop :=
 valC x <| L.getC t fun i=>match Nat.beq (flat x) (flat i.zero) with
  | false=>False
  | true=>match isAg x,isAg i.zero with
    | true,true=>k
    | false,false=>k
    | _,_=>False

def beqC (a b : Nat) (k : Prop) : Prop:=match Nat.beq a b with | true=>k | false=>False
def bleC (a b : Nat) (k : Prop) : Prop:=match Nat.ble a b with | true=>k | false=>False

def br (A : AV) (kt kf : Prop) : Prop :=
 match A with
 | .tt=>kt
 | .ff=>kf
 | .bool b=>(b = true → kt) ∧ (b = false → kf)
 | .dec p=>(p → kt) ∧ (¬ p → kf)
 | _=>False

def arith (kd : IntKind) (z : Int) (k : AV → Prop) : Prop :=
 match kd with
 | .i64=>InR .i64 z ∧ k (.int .i64 z)
 | kd=>k (.int kd (kd.wrap z))

def bitsR (op : BinOp) (k : IntKind) (x y : Int) : Int :=
 match op with
 | .and=>k.wrap (BitVec.ofInt k.bits x &&& BitVec.ofInt k.bits y).toNat
 | .or=>k.wrap (BitVec.ofInt k.bits x ||| BitVec.ofInt k.bits y).toNat
 | .xor=>k.wrap (BitVec.ofInt k.bits x ^^^ BitVec.ofInt k.bits y).toNat
 | _=>k.wrap (BitVec.ofInt k.bits x &&& ~~~ (BitVec.ofInt k.bits y)).toNat

def shlR (k : IntKind) (x y : Int) : Int:=k.wrap (x * 2 ^ min y.toNat k.bits)
def shrR (k : IntKind) (x y : Int) : Int:=x.fdiv (2 ^ min y.toNat k.bits)

def notA : AV → (AV → Prop) → Prop
 | .tt,k=>k .ff
 | .ff,k=>k .tt
 | .bool b,k=>k (.bool (!b))
 | .dec p,k=>k (.dec (¬ p))
 | _,_=>False

def boolC (x : AV) (k : AV → Prop) : Prop :=
 match x with
 | .tt=>k .tt | .ff=>k .ff | .bool b=>k (.bool b) | .dec p=>k (.dec p) | _=>False

def eqB (A B : AV) (k : AV → Prop) : Prop :=
 match A,B with
 | .tt,x=>boolC x k
 | x,.tt=>boolC x k
 | .ff,x=>notA x k
 | x,.ff=>notA x k
 | .bool a,.bool b=>k (.dec (a = b))
 | .dec p,.dec q=>k (.dec (p ↔ q))
 | .dec p,.bool b=>k (.dec (p ↔ b = true))
 | .bool b,.dec p=>k (.dec (b = true ↔ p))
 | _,_=>False

def nilEq (A B : AV) (k : AV → Prop) : Prop :=
 match A,B with
 | .nilI,.nilI=>k .tt
 | .nilI,.ifc _ _=>k .ff
 | .ifc _ _,.nilI=>k .ff
 | _,_=>False

def nilpEq (A B : AV) (k : AV → Prop) : Prop :=
 match A,B with
 | .nilp,.nilp=>k .tt
 | .cp _,.nilp=>k .ff
 | .ptr _ _ _,.nilp=>k .ff
 | _,_=>False

def aeqD (d : TD) (op : BinOp) (hc : Bool) (A B : AV) (k : AV → Prop) : Prop :=
 match d,op with
 | .bool,.eql=>eqB A B k
 | .bool,.neq=>eqB A B fun R=>notA R k
 | .iface,.eql=>(match hc with | true=>nilEq A B k | false=>False)
 | .iface,.neq=>(match hc with | true=>nilEq A B fun R=>notA R k | false=>False)
 | .ptr _,.eql=>nilpEq A B k
 | .ptr _,.neq=>nilpEq A B fun R=>notA R k
 | _,_=>False

def abin (d : TD) (op : BinOp) (hc : Bool) (A B : AV) (k : AV → Prop) : Prop :=
 match A,B with
 | .int ka a,.int kb b =>
   (match op with
   | .shl=>0 ≤ b ∧ k (.int ka (shlR ka a b))
   | .shr=>0 ≤ b ∧ k (.int ka (shrR ka a b))
   | op=>match ikeq ka kb with
     | false=>False
     | true=>match op with
       | .add=>arith ka (a + b) k
       | .sub=>arith ka (a - b) k
       | .mul=>arith ka (a * b) k
       | .quo=>b ≠ 0 ∧ arith ka (a.tdiv b) k
       | .rem=>b ≠ 0 ∧ k (.int ka (a.tmod b))
       | .eql=>k (.dec (a = b))
       | .neq=>k (.dec (a ≠ b))
       | .lss=>k (.dec (a < b))
       | .leq=>k (.dec (a ≤ b))
       | .gtr=>k (.dec (b < a))
       | .geq=>k (.dec (b ≤ a))
       | op=>k (.int ka (bitsR op ka a b)))
 | .str a,.str b =>
   (match op with
   | .add=>a.length + b.length ≤ maxL ∧ k (.str (a ++ b))
   | .eql=>k (.dec (a = b))
   | .neq=>k (.dec (a ≠ b))
   | .lss=>k (.bool (Op.bytesLess a b))
   | _=>False)
 | A,B=>aeqD d op hc A B k

def agEq (i : TI) (op : BinOp) (A B : AV) (k : AV → Prop) : Prop :=
 match i.cmp,i.zero,A,B with
 | true,.ag zs,.ag l,.ag m=>match sameQL zs l,sameQL zs m with
   | true,true=>(match op with
     | .eql=>k (.dec (eqPL l m))
     | .neq=>k (.dec (¬ eqPL l m))
     | _=>False)
   | _,_=>False
 | _,_,_,_=>False

structure AIdx {α : Type} (l : List α) (n : Int) (k : α → Prop) : Prop where
 ex : ∃ x,(0 ≤ n ∧ l[n.toNat]? = some x) ∧ k x

structure ACut {α : Type} (l : List α) (lo hi : Int) (k : List α → Prop) : Prop where
 ex : (0 ≤ lo ∧ lo ≤ hi ∧ hi ≤ (l.length : Int)) ∧ k ((l.drop lo.toNat).take (hi.toNat - lo.toNat))

inductive AMake (e n : Nat) (sz : Nat) (z : AV) (H : Heap) (k : AV → Heap → Prop) : Prop where
 | pure (h : n = e ∧ k (.sl sz (List.replicate n z) .full) H)
 | wr (h : k (.ms (nextId H) 0 n e sz) ((nextId H,.arr sz e (List.replicate n z)) :: H))

def pureC (A : AV) (k : AV → Prop) : Prop:=match pureB A with | true=>k (strip A) | false=>False

def puresC : List AV → (List AV → Prop) → Prop
 | [],k=>k []
 | A :: l,k=>pureC A fun B=>puresC l fun m=>k (B :: m)

def srcC (H : Heap) (sz : Nat) (B : AV) (k : List AV → Prop) : Prop :=
 match B with
 | .nils=>k []
 | .sl sz' m _=>beqC sz' sz (k m)
 | .ms j off len _ sz'=>hgetC H j fun o=>match o with
   | .arr sz'' _ l=>beqC sz' sz (beqC sz'' sz (off + len ≤ l.length ∧ k ((l.drop off).take len)))
   | _=>False
 | .str s=>beqC sz 1 (k (s.map fun b=>.int .u8 b.toNat))
 | _=>False

structure AApp (sz bytes : Nat) (l m : List AV) (k : Prop) : Prop where
 len : l.length + m.length ≤ maxL
 room : (l.length + m.length) * bytes ≤ 140737488355328
 next : k

inductive AApp0 (sz bytes : Nat) (l m : List AV) (H : Heap) (k : AV → Heap → Prop) : Prop where
 | tok (len : l.length + m.length ≤ maxL) (room : (l.length + m.length) * bytes ≤ 140737488355328) (next : pushC H (.tok sz (l.length + m.length)) fun j H'=>k (.sl sz (l ++ m) (.own j)) H')
 | pure (len : l.length + m.length ≤ maxL) (room : (l.length + m.length) * bytes ≤ 140737488355328) (next : k (.sl sz (l ++ m) .no) H)

inductive AAppW (sz bytes : Nat) (l m : List AV) (H : Heap) (k : AV → Heap → Prop) : Prop where
 | tok (len : l.length + m.length ≤ maxL) (room : (l.length + m.length) * bytes ≤ 140737488355328) (next : pushC H (.tok sz (l.length + m.length)) fun j H'=>k (.sl sz (l ++ m) (.own j)) H')
 | pure (len : l.length + m.length ≤ maxL) (room : (l.length + m.length) * bytes ≤ 140737488355328) (next : k (.sl sz (l ++ m) .no) H)
 | wr (ne : m ≠ []) (len : l.length + m.length ≤ maxL) (room : (l.length + m.length) * bytes ≤ 140737488355328)
   (next : ∀ cp,l.length + m.length ≤ cp → cp ≤ maxL → k (.ms (nextId H) 0 (l.length + m.length) cp sz) ((nextId H,.arr sz cp (l ++ m)) :: H))

mutual
def leR : AV → AV → Prop
 | .tt,.bool b=>b = true
 | .tt,.dec p=>p
 | .ff,.bool b=>b = false
 | .ff,.dec p=>¬ p
 | .bool a,.bool b=>a = b
 | .bool a,.dec p=>(a = true ↔ p)
 | .bool a,.tt=>a = true
 | .bool a,.ff=>a = false
 | .dec p,.bool b=>(p ↔ b = true)
 | .dec p,.dec q=>(p ↔ q)
 | .dec p,.tt=>p
 | .dec p,.ff=>¬ p
 | .int k a,.int k' b=>k = k' ∧ a = b
 | .str a,.str b=>a = b
 | .nils,.sl _ l .no=>l = []
 | .sl s l .no,.sl s' l' .no=>s = s' ∧ leRL l l'
 | .ag l,.ag m=>leRL l m
 | .ifc t x,.ifc t' y=>t = t' ∧ leR x y
 | A,B=>A = B
def leRL : List AV → List AV → Prop
 | [],[]=>True
 | x :: l,y :: m=>leR x y ∧ leRL l m
 | _,_=>False
end

mutual
def le0 : AV → AV → Prop
 | .tt,.bool b=>b = true
 | .tt,.dec p=>p
 | .ff,.bool b=>b = false
 | .ff,.dec p=>¬ p
 | .bool a,.bool b=>a = b
 | .bool a,.dec p=>(a = true ↔ p)
 | .bool a,.tt=>a = true
 | .bool a,.ff=>a = false
 | .dec p,.bool b=>(p ↔ b = true)
 | .dec p,.dec q=>(p ↔ q)
 | .dec p,.tt=>p
 | .dec p,.ff=>¬ p
 | .int k a,.int k' b=>k = k' ∧ a = b
 | .str a,.str b=>a = b
 | .nils,.sl _ l .no=>l = []
 | .nils,.sl _ l .full=>l = []
 | .sl s l _,.sl s' l' .no=>s = s' ∧ leRL l l'
 | .sl s l .full,.sl s' l' .full=>s = s' ∧ leRL l l'
 | .sl s l (.own k),.sl s' l' (.own k')=>s = s' ∧ leRL l l' ∧ k = k'
 | .ifc t x,.ifc t' y=>t = t' ∧ le0 x y
 | .ag l,.ag m=>leL l m
 | A,B=>A = B
def leL : List AV → List AV → Prop
 | [],[]=>True
 | x :: l,y :: m=>le0 x y ∧ leL l m
 | _,_=>False
end

def le (A B : AV) : Prop:=match A,B with | _,.und=>True | .tup l,.tup m=>leL l m | A,B=>le0 A B

mutual
def bndB (n : Nat) : AV → Bool
 | .ptr k _ _=>Nat.blt k n
 | .ms k _ _ _ _=>Nat.blt k n
 | .mp k=>Nat.blt k n
 | .gs k _=>Nat.blt k n
 | .bm _ k=>Nat.blt k n
 | .sl _ _ (.own k)=>Nat.blt k n
 | .fn _ cap=>bndBL n cap
 | .ag l=>bndBL n l
 | .tup l=>bndBL n l
 | .ifc _ x=>bndB n x
 | _=>true
def bndBL (n : Nat) : List AV → Bool
 | []=>true
 | x :: l=>match bndB n x with | true=>bndBL n l | false=>false
end

inductive ACall (F : Nat → List AV → Heap → AV → Heap → Prop) (Okay : AV → Prop) (f : Nat) (args : List AV) (H : Heap) (k : AV → Heap → Prop) : Prop where
 | gen (R : AV) (H' : Heap) (h : F f args H R H') (h' : Okay R → k R H')
 | pure (Bs : List AV) (R : AV) (hle : leL args Bs) (hb : bndBL 0 Bs = true ∧ bndB 0 R = true) (h : F f Bs [] R []) (h' : Okay R → k R H)

def isConstO : Operand → Bool
 | .const _=>true
 | _=>false

mutual
def kvC : AV → List Value
 | .int k n=>[.int k n]
 | .str s=>[.string ⟨s.toArray⟩]
 | .ag l=>kvCL l
 | _=>[]
def kvCL : List AV → List Value
 | []=>[]
 | x :: l=>kvC x ++ kvCL l
end

def LookR (es : List (AV × AV)) (K : AV) : Option AV → Prop
 | none=>∀ x ∈ es,kvC x.1 ≠ kvC K
 | some v=>∃ x ∈ es,kvC x.1 = kvC K ∧ x.2 = v

structure ALook (es : List (AV × AV)) (K : AV) (k : Option AV → Prop) : Prop where
 ex : ∃ r,LookR es K r ∧ k r

def UpdR (es : List (AV × AV)) (K V : AV) (es' : List (AV × AV)) : Prop :=
 ((∀ x ∈ es,kvC x.1 ≠ kvC K) ∧ es' = es ++ [(K,V)]) ∨ ∃ j x,es[j]? = some x ∧ kvC x.1 = kvC K ∧ es' = es.set j (K,V)

structure AUpd (es : List (AV × AV)) (K V : AV) (k : List (AV × AV) → Prop) : Prop where
 ex : ∃ es',UpdR es K V es' ∧ k es'

def onB (b : Bool) (k : Prop) : Prop:=match b with | true=>k | false=>False

def lookK (ok : Bool) (z : AV) (r : Option AV) (k : AV → Prop) : Prop :=
 match ok,r with
 | true,some v=>k (.tup [v,.tt])
 | true,none=>k (.tup [z,.ff])
 | false,some v=>k v
 | false,none=>k z

def asrt (z : AV) (s : Nat) (A : AV) (ok : Bool) (k : AV → Prop) : Prop :=
 match A,ok with
 | .nilI,true=>k (.tup [z,.ff])
 | .ifc t y,true=>(match Nat.beq t s with | true=>k (.tup [y,.tt]) | false=>k (.tup [z,.ff]))
 | .ifc t y,false=>(match Nat.beq t s with | true=>k y | false=>False)
 | _,_=>False

def anil (op : BinOp) (A : AV) (k : AV → Prop) : Prop :=
 match op,A with
 | .eql,.nils=>k .tt
 | .neq,.nils=>k .ff
 | .eql,.ms _ _ _ _ _=>k .ff
 | .neq,.ms _ _ _ _ _=>k .tt
 | .eql,.sl _ l _=>∀ b : Bool,(b = true → l = []) → k (.bool b)
 | .neq,.sl _ l _=>∀ b : Bool,(b = false → l = []) → k (.bool b)
 | _,_=>False

def nilcmpB : Op → Bool
 | .binOp _ _ _ (.const (.slice none 0 0)) _=>true
 | _=>false

def noNil (op : Op) (k : Prop) : Prop:=match nilcmpB op with | true=>False | false=>k

def buildC (e : Env) : List (Nat × Operand) → List AV → (List AV → Prop) → Prop
 | [],zs,k=>k zs
 | (i,x) :: ps,zs,k=>aev e x fun A=>valC A <| nthC zs i fun z=>beqC (flat A) (flat z) (match isAg A,isAg z with
   | true,true=>setNthC zs i A fun zs'=>buildC e ps zs' k
   | false,false=>setNthC zs i A fun zs'=>buildC e ps zs' k
   | _,_=>False)

def flat1 : List AV → Bool
 | []=>true
 | x :: l=>match Nat.beq (flat x) 1 with | true=>flat1 l | false=>false

def buildSC (e : Env) : List (Nat × Operand) → List AV → (List AV → Prop) → Prop
 | [],zs,k=>k zs
 | (i,x) :: ps,zs,k=>aev e x fun A=>nthC zs i fun z=>beqC (flat A) (flat z) (match isAg A,isAg z with
   | true,true=>pureC A fun B=>setNthC zs i B fun zs'=>buildSC e ps zs' k
   | false,false=>pureC A fun B=>setNthC zs i B fun zs'=>buildSC e ps zs' k
   | _,_=>False)

def repC (z : AV) : Nat → (List AV → Prop) → Prop
 | 0,k=>k []
 | n + 1,k=>repC z n fun l=>k (z :: l)

section
variable (F : Nat → List AV → Heap → AV → Heap → Prop) (Okay : AV → Prop) (L : Lay)

def aload (t : Nat) (A : AV) (H : Heap) (k : AV → Prop) : Prop :=
 match A with
 | .cp x=>chkT L t x (k x)
 | .ptr i p off=>hgetC H i fun o=>match o with
   | .box A=>getPC A p fun x=>beqC (offP A p) off (chkT L t x (k x))
   | .arr sz _ l=>(match p with
     | [j]=>AIdx l (j : Int) fun x=>off = j * sz ∧ chkT L t x (k x)
     | j :: q=>AIdx l (j : Int) fun x=>getPC x q fun y=>off = j * sz + offP x q ∧ chkT L t y (k y)
     | _=>False)
   | _=>False
 | _=>False

def astore (t : Nat) (A B : AV) (H : Heap) (k : Heap → Prop) : Prop :=
 match A with
 | .ptr i p off=>hgetC H i fun o=>match o with
   | .box A=>getPC A p fun x=>beqC (offP A p) off (chkT L t B (beqC (flat x) (flat B) (setPC A p B fun A'=>hsetC H i (.box A') k)))
   | .arr sz cap l=>(match p with
     | [j]=>pureC B fun B'=>beqC (flat B) sz (chkT L t B (j < l.length ∧ off = j * sz ∧ hsetC H i (.arr sz cap (l.set j B')) k))
     | j :: q=>AIdx l (j : Int) fun x=>getPC x q fun y=>off = j * sz + offP x q ∧ chkT L t B (beqC (flat y) (flat B) (setPC x q B fun A'=>pureC A' fun A''=>hsetC H i (.arr sz cap (l.set j A'')) k))
     | _=>False)
   | _=>False
 | _=>False

def amapUpd (t : Nat) (A K V : AV) (H : Heap) (ks : Heap → Prop) : Prop :=
 L.getC t fun i=>(match i.desc,i.key with
  | .map _ et,some sh=>onB (sameSh sh K) <| chkT L et V <| (match A with
    | .mp j=>hgetC H j fun o=>(match o with
      | .amap sh' es=>onB (sameSh sh' sh) <| AUpd es K V fun es'=>hsetC H j (.amap sh' es') ks
      | _=>False)
    | _=>False)
  | _,_=>False)

def afield (t : Nat) (A : AV) (f : Nat) (k : AV → Prop) : Prop :=
 L.getC t fun i=>match i.desc,i.zero with
  | .struct _,.ag zs=>(match A with
    | .cp (.ag l)=>beqC (flatL (l.take f)) (flatL (zs.take f)) (nthC zs f fun z=>(match flat z with
      | 0=>False
      | _ + 1=>nthC l f fun x=>k (.cp x)))
    | .ptr j p off=>nthC zs f fun z=>(match flat z with
      | 0=>False
      | _ + 1=>snocC p f fun p'=>k (.ptr j p' (off + flatL (zs.take f))))
    | _=>False)
  | _,_=>False

def afieldV (t : Nat) (A : AV) (f : Nat) (k : AV → Prop) : Prop :=
 L.getC t fun i=>match i.desc,i.zero,A with
  | .struct fs,.ag zs,.ag l=>nthC zs f fun _=>nthC fs f fun fd=>L.getC fd.2.2 fun j=>(match isAg j.zero with
    | false=>beqC (flatL (l.take f)) (flatL (zs.take f)) (nthC l f fun y=>(match isAg y with | false=>k y | true=>False))
    | true=>False)
  | _,_,_=>False

def aindexAddr (t : Nat) (A I : AV) (k : AV → Prop) : Prop :=
 match I with
 | .int _ n=>L.getC t fun i=>(match i.desc,A with
   | .slice e,.sl sz l _=>L.getC e fun ei=>beqC sz (flat ei.zero) (AIdx l n fun x=>k (.cp x))
   | .slice e,.ms j off len _ sz=>L.getC e fun ei=>beqC sz (flat ei.zero) ((0 ≤ n ∧ n < (len : Int)) ∧ k (.ptr j [off + n.toNat] ((off + n.toNat) * sz)))
   | .arr m e,.ptr j p off=>L.getC e fun ei=>(0 ≤ n ∧ n < (m : Int)) ∧ snocC p n.toNat fun p'=>k (.ptr j p' (off + n.toNat * flat ei.zero))
   | _,_=>False)
 | _=>False

def aindex (t : Nat) (A I : AV) (k : AV → Prop) : Prop :=
 match A,I with
 | .str s,.int _ n=>L.getC t fun i=>(match i.desc with
   | .str=>AIdx s n fun b=>k (.int .u8 b.toNat)
   | _=>False)
 | _,_=>False

def bndC (e : Env) (x : Option Operand) (d : Int) (k : Int → Prop) : Prop :=
 match x with
 | none=>k d
 | some x=>aev e x fun A=>match A with | .int _ n=>k n | _=>False

def aslice (t : Nat) (e : Env) (A : AV) (lo hi : Option Operand) (k : AV → Prop) : Prop :=
 L.getC t fun i=>match i.desc,A with
  | .str,.str s=>bndC e lo 0 fun l=>bndC e hi s.length fun h=>ACut s l h fun s'=>k (.str s')
  | .slice el,.sl sz l _=>L.getC el fun ei=>beqC sz (flat ei.zero) (bndC e lo 0 fun a=>bndC e hi l.length fun b=>ACut l a b fun l'=>k (.sl sz l' .no))
  | .slice el,.ms j off len cap sz=>L.getC el fun ei=>beqC sz (flat ei.zero) (bndC e lo 0 fun a=>bndC e hi len fun b =>
    (0 ≤ a ∧ a ≤ b ∧ b ≤ (len : Int)) ∧ a < (cap : Int) ∧ k (.ms j (off + a.toNat) (b.toNat - a.toNat) (cap - a.toNat) sz))
  | _,_=>False

def aappend (t : Nat) (A B : AV) (H : Heap) (k : AV → Heap → Prop) : Prop :=
 L.getC t fun i=>match i.desc with
  | .slice e=>L.getC e fun ei=>(match A with
    | .nils=>srcC H (flat ei.zero) B fun m=>AApp0 (flat ei.zero) ei.bytes [] m H k
    | .sl sz l .full=>beqC sz (flat ei.zero) (srcC H sz B fun m=>AApp0 sz ei.bytes l m H k)
    | .sl sz l (.own j)=>beqC sz (flat ei.zero) (srcC H sz B fun m=>hgetC H j fun o=>match o with
      | .tok sz' top=>beqC sz' sz (top = l.length ∧ AApp sz ei.bytes l m (hsetC H j (.tok sz (l.length + m.length)) fun H'=>k (.sl sz (l ++ m) (.own j)) H'))
      | _=>False)
    | _=>False)
  | _=>False

def aappendW (t : Nat) (A B : AV) (H : Heap) (k : AV → Heap → Prop) : Prop :=
 L.getC t fun i=>match i.desc with
  | .slice e=>L.getC e fun ei=>(match A with
    | .nils=>srcC H (flat ei.zero) B fun m=>AAppW (flat ei.zero) ei.bytes [] m H k
    | .sl sz l .full=>beqC sz (flat ei.zero) (srcC H sz B fun m=>AAppW sz ei.bytes l m H k)
    | .sl sz l (.own j)=>beqC sz (flat ei.zero) (srcC H sz B fun m=>hgetC H j fun o=>match o with
      | .tok sz' top=>beqC sz' sz (top = l.length ∧ AApp sz ei.bytes l m (hsetC H j (.tok sz (l.length + m.length)) fun H'=>k (.sl sz (l ++ m) (.own j)) H'))
      | _=>False)
    | .gs j len=>srcC H (flat ei.zero) B fun m=>hgetC H j fun o=>match o with
      | .wtok sz l=>beqC sz (flat ei.zero) (l.length = len ∧ m ≠ [] ∧ AApp sz ei.bytes l m (hsetC H j (.wtok sz (l ++ m)) fun H'=>k (.gs j (len + m.length)) H'))
      | _=>False
    | _=>False)
  | _=>False

def alen (d : TD) (A : AV) (_ : Heap) (k : AV → Prop) : Prop :=
 match d,A with
 | .slice _,.nils=>k (.int .i64 0)
 | .slice _,.sl _ l _=>k (.int .i64 l.length)
 | .slice _,.ms _ _ len _ _=>k (.int .i64 len)
 | .str,.str s=>k (.int .i64 s.length)
 | .map _ _,.nilm=>k (.int .i64 0)
 | _,_=>False

def maxA (A B : AV) (k : AV → Prop) : Prop :=
 match A,B with
 | .int ka a,.int kb b=>(match ikeq ka kb with | true=>k (.int ka (max a b)) | false=>False)
 | _,_=>False
def minA (A B : AV) (k : AV → Prop) : Prop :=
 match A,B with
 | .int ka a,.int kb b=>(match ikeq ka kb with | true=>k (.int ka (min a b)) | false=>False)
 | _,_=>False

def abuiltin (b : Builtin) (argTypes : List Nat) (args : List AV) (H : Heap) (k : AV → Heap → Prop) : Prop :=
 match b,argTypes,args with
 | .len,t :: _,[A]=>L.getC t fun i=>alen i.desc A H fun R=>k R H
 | .append,t :: u :: _,[A,B]=>L.getC u fun i=>(match i.desc with
   | .slice _=>aappend L t A B H k
   | .str=>aappend L t A B H k
   | _=>False)
 | .max,_,[A,B]=>maxA A B fun R=>k R H
 | .min,_,[A,B]=>minA A B fun R=>k R H
 | _,_,_=>False

def abuiltinW (b : Builtin) (argTypes : List Nat) (args : List AV) (H : Heap) (k : AV → Heap → Prop) : Prop :=
 match b,argTypes,args with
 | .len,t :: _,[A]=>L.getC t fun i=>(match i.desc,A with
   | .map _ _,.mp j=>hgetC H j fun o=>(match o with
     | .amap _ es=>es.length ≤ 9223372036854775807 ∧ k (.int .i64 es.length) H
     | _=>False)
   | d,A=>alen d A H fun R=>k R H)
 | .append,t :: u :: _,[A,B]=>L.getC u fun i=>(match i.desc with
   | .slice _=>aappendW L t A B H k
   | .str=>aappendW L t A B H k
   | _=>False)
 | .max,_,[A,B]=>maxA A B fun R=>k R H
 | .min,_,[A,B]=>minA A B fun R=>k R H
 | .min,_,[A,B,C]=>minA A B fun R=>minA R C fun R=>k R H
 | _,_,_=>False

def aop (op : Op) (e : Env) (H : Heap) (k : AV → Heap → Prop) (ks : Heap → Prop) : Prop :=
 match op with
 | .move x=>aev e x fun A=>k A H
 | .assign x=>aev e x fun A=>k A H
 | .pick c a b=>aev e c fun C=>(match C with
   | .tt=>aev e a fun A=>k A H
   | .ff=>aev e b fun A=>k A H
   | .bool x=>(x = true → aev e a fun A=>k A H) ∧ (x = false → aev e b fun A=>k A H)
   | .dec p=>(p → aev e a fun A=>k A H) ∧ (¬ p → aev e b fun A=>k A H)
   | _=>False)
 | .alloc t=>L.getC t fun i=>pushC H (.box i.zero) fun j H'=>k (.ptr j [] 0) H'
 | .box t x=>aev e x fun A=>chkT L t A (pushC H (.box A) fun j H'=>k (.ptr j [] 0) H')
 | .build t ps=>L.getC t fun i=>(match i.desc,i.zero with
   | .struct _,.ag zs=>buildC e ps.toList zs fun l=>k (.ag l) H
   | .arr _ el,.ag zs=>L.getC el fun ei=>beqC (flat ei.zero) 1 (onB (flat1 zs) (buildC e ps.toList zs fun l=>k (.ag l) H))
   | _,_=>False)
 | .buildSlice t n ps=>L.getC t fun i=>(match i.desc with
   | .slice el=>L.getC el fun ei=>bleC (n * flat ei.zero) 16777216 <| bleC n 16777216 <| repC ei.zero n fun zs=>buildSC e ps.toList zs fun l=>k (.sl (flat ei.zero) l .full) H
   | _=>False)
 | .load t x=>aev e x fun A=>aload L t A H fun R=>k R H
 | .store t a x=>aev e a fun A=>aev e x fun B=>astore L t A B H ks
 | .nilCheck x=>aev e x fun A=>(match A with
   | .ptr _ _ _=>k A H
   | .cp _=>k A H
   | .fn _ _=>k A H
   | _=>False)
 | .binOp op t x y ty=>(match nilcmpB (.binOp op t x y ty) with
   | true=>aev e x fun A=>L.getC t fun i=>(match i.desc with | .slice _=>anil op A fun R=>k R H | _=>False)
   | false=>aev e x fun A=>aev e y fun B=>L.getC t fun i=>match isAg A with
     | true=>agEq i op A B fun R=>k R H
     | false=>abin i.desc op (isConstO x || isConstO y) A B fun R=>k R H)
 | .typeAssert x _ s ok=>aev e x fun A=>L.getC s fun i=>(match i.desc with
   | .iface=>False
   | _=>asrt i.zero s A ok fun R=>k R H)
 | .makeMap t r=>(match r with
   | none=>L.getC t fun i=>(match i.key with | some sh=>pushC H (.amap sh []) fun j H'=>k (.mp j) H' | none=>False)
   | some _=>False)
 | .lookup t x ix ok=>aev e x fun A=>aev e ix fun K=>L.getC t fun i=>(match i.desc,i.key with
   | .map _ et,some sh=>onB (sameSh sh K) <| L.getC et fun ei=>(match A with
     | .mp j=>hgetC H j fun o=>(match o with
       | .amap sh' es=>onB (sameSh sh' sh) <| ALook es K fun r=>lookK ok ei.zero r fun R=>k R H
       | _=>False)
     | _=>False)
   | _,_=>False)
 | .mapUpdate t x ix y=>aev e x fun A=>aev e ix fun K=>aev e y fun V=>amapUpd L t A K V H ks
 | .unOp op _ x=>aev e x fun A=>(match op,A with
   | .not,A=>notA A fun R=>k R H
   | .neg,.int ka a=>arith ka (0 - a) fun R=>k R H
   | _,_=>False)
 | .convert s d x=>aev e x fun A=>L.getC s fun _=>L.getC d fun i=>(match i.desc,A with
   | .int kd,.int _ n=>k (.int kd (kd.wrap n)) H
   | .str,.str s=>k (.str s) H
   | _,_=>False)
 | .makeInterface t x=>aev e x fun A=>L.getC t fun i=>(match i.desc with
   | .iface=>False
   | _=>valC A (k (.ifc t A) H))
 | .makeFunc f first cap=>(match f,first.toList with
   | .func g,[]=>aevs e cap.toList fun As=>valsC As (k (.fn g As) H)
   | _,_=>False)
 | .makeSlice t l c=>aev e l fun A=>aev e c fun B=>L.getC t fun i=>(match i.desc,A,B with
   | .slice el,.int _ n,.int _ m=>L.getC el fun ei=>(0 ≤ n ∧ n ≤ m ∧ m * (ei.bytes : Int) ≤ 281474976710656 ∧ m ≤ 9223372036854775807) ∧
     AMake m.toNat n.toNat (flat ei.zero) ei.zero H k
   | _,_,_=>False)
 | .slice t x lo hi mx=>(match mx with
   | none=>aev e x fun A=>aslice L t e A lo hi fun R=>k R H
   | some _=>False)
 | .fieldAddr t x f=>aev e x fun A=>afield L t A f fun R=>k R H
 | .indexAddr t x i=>aev e x fun A=>aev e i fun I=>aindexAddr L t A I fun R=>k R H
 | .index t x i=>aev e x fun A=>aev e i fun I=>aindex L t A I fun R=>k R H
 | .extract x i=>aev e x fun A=>(match A with
   | .tup l=>nthC l i fun R=>k R H
   | _=>False)
 | .call c=>(match c.callee with
   | .value f=>aev e f fun A=>(match A with
     | .fn g cap=>aevs e c.args.toList fun As=>appC As cap fun Bs=>ACall F Okay g Bs H k
     | _=>False)
   | .builtin b=>aevs e c.args.toList fun As=>abuiltin L b c.argTypes.toList As H k
   | .invoke _ _=>False)
 | _=>False

def aopW (op : Op) (e : Env) (H : Heap) (k : AV → Heap → Prop) (ks : Heap → Prop) : Prop :=
 match op with
 | .call c=>(match c.callee with
   | .builtin b=>aevs e c.args.toList fun As=>abuiltinW L b c.argTypes.toList As H k
   | .value f=>aev e f fun A=>(match A with
     | .bm g j=>aevs e c.args.toList fun As=>ACall F Okay g (.ptr j [] 0 :: As) H k
     | _=>aop F Okay L (.call c) e H k ks)
   | _=>aop F Okay L (.call c) e H k ks)
 | .makeFunc f first cap=>(match first.toList with
   | [x]=>(match f,cap.toList with
     | .func g,[]=>aev e x fun A=>(match A with
       | .ptr j [] 0=>k (.bm g j) H
       | _=>False)
     | _,_=>False)
   | _=>aop F Okay L (.makeFunc f first cap) e H k ks)
 | .insert t x ix y=>aev e x fun A=>aev e ix fun K=>aev e y fun V=>amapUpd L t A K V H ks
 | .field t x f=>aev e x fun A=>afieldV L t A f fun R=>k R H
 | op=>aop F Okay L op e H k ks

end

inductive AX where
 | normal
 | exit (id : Nat)
 | ret

def writesOps : List Oper → List Nat
 | []=>[]
 | o :: l=>match o.dst with | some d=>d :: writesOps l | none=>writesOps l

def writes : Code → List Nat
 | .region _ ops _=>writesOps ops.toList
 | .seq a b=>writes a ++ writes b
 | .cond _ a b=>writes a ++ writes b
 | .block _ b=>writes b
 | .loop b=>writes b
 | .scope b=>writes b
 | .rangeFunc _ _ a b=>writes a ++ writes b
 | _=>[]

def leM : List (AV × AV) → List (AV × AV) → Prop
 | [],[]=>True
 | (x,v) :: l,(y,u) :: m=>x = y ∧ le0 v u ∧ leM l m
 | _,_=>False

def leO : HO → HO → Prop
 | .box A,.box B=>le0 A B
 | .arr s c l,.arr s' c' l'=>s = s' ∧ c = c' ∧ leRL l l'
 | .tok s n,.tok s' n'=>s = s' ∧ n = n'
 | .amap s a,.amap s' b=>s = s' ∧ leM a b
 | .wtok s l,.wtok s' l'=>s = s' ∧ leRL l l'
 | _,.gone=>True
 | _,_=>False

def bndO (n : Nat) : HO → Bool
 | .box A=>bndB n A
 | _=>true

def bndM (n : Nat) : List (AV × AV) → Bool
 | []=>true
 | (x,y) :: l=>match bndB n x,bndB n y with | true,true=>bndM n l | _,_=>false

def WkE (e : Env) (n : Nat) : Env → Prop
 | []=>True
 | (t,A) :: E=>egetC e t (fun A'=>le A' A ∧ bndB n A = true) ∧ WkE e n E

def WkH (H : Heap) (n : Nat) : Heap → Prop
 | []=>True
 | (k,o) :: G=>hgetC H k (fun o'=>leO o' o ∧ (match o with | .amap _ es=>bndM n es = true | o=>bndO n o = true)) ∧ WkH H n G

structure HWk0 (H : Heap) (G : Heap) : Prop where
 get : WkH H (nextId G) G
 ids : idsOk G

inductive HWk (H : Heap) (G : Heap) : Prop where
 | refl (h : H = G)
 | mk (get : WkH H (nextId G) G) (ids : idsOk G)

inductive Cv : Env → Heap → Env → Heap → Prop where
 | refl (e : Env) (H : Heap) : Cv e H e H
 | grow {e : Env} {H : Heap} {e' : Env} {H' : Heap} (t sz : Nat) (l : List AV) (A : AV) (h : eget e t = some A) (hA : (A = .nils ∧ l = []) ∨ A = .sl sz l .full)
   (h' : Cv ((t,.sl sz l (.own (nextId H))) :: e) ((nextId H,.tok sz l.length) :: H) e' H') : Cv e H e' H'
 | freeze {e : Env} {H : Heap} {e' : Env} {H' : Heap} (t j off len cap cp sz : Nat) (l : List AV) (h : eget e t = some (.ms j off len cap sz)) (ho : hget H j = some (.arr sz cp l)) (hl : off + len ≤ l.length)
   (h' : Cv ((t,.sl sz ((l.drop off).take len) .no) :: e) (hset H j .gone) e' H') : Cv e H e' H'
 | keep {e : Env} {H : Heap} {e' : Env} {H' : Heap} (t j len cp sz : Nat) (l : List AV) (h : eget e t = some (.ms j 0 len cp sz)) (ho : hget H j = some (.arr sz cp l)) (hl : len ≤ l.length)
   (h' : Cv ((t,.sl sz (l.take len) (.own (nextId H))) :: e) ((nextId H,.tok sz len) :: hset H j .gone) e' H') : Cv e H e' H'
 | growF {e : Env} {H : Heap} {e' : Env} {H' : Heap} (j : Nat) (p : List Nat) (sz : Nat) (l : List AV) (A B A' : AV) (ho : hget H j = some (.box A)) (hp : getPC A p (fun x=>x = B)) (hB : (B = .nils ∧ l = []) ∨ B = .sl sz l .full)
   (hs : setPC A p (.sl sz l (.own (nextId H))) (fun x=>x = A')) (h' : Cv e (hset ((nextId H,.tok sz l.length) :: H) j (.box A')) e' H') : Cv e H e' H'
 | growW {e : Env} {H : Heap} {e' : Env} {H' : Heap} (t sz : Nat) (h : eget e t = some .nils)
   (h' : Cv ((t,.gs (nextId H) 0) :: e) ((nextId H,.wtok sz []) :: H) e' H') : Cv e H e' H'
 | freezeW {e : Env} {H : Heap} {e' : Env} {H' : Heap} (t j sz : Nat) (l : List AV) (h : eget e t = some (.gs j l.length)) (ho : hget H j = some (.wtok sz l)) (hl : l.length ≤ maxL)
   (h' : Cv ((t,.sl sz l .no) :: e) (hset H j .gone) e' H') : Cv e H e' H'

structure LoopSpec (Okay : AV → Prop) (ws : List Nat) (body : (AX → Env → Heap → Prop) → Env → Heap → Prop) (Q : AX → Env → Heap → Prop) (e : Env) (H : Heap) : Prop where
 ex : ∃ (e₁ : Env) (H₁ : Heap) (ι : Type) (E : ι → Env) (kept : Env) (HS : ι → Heap) (μ : ι → Nat) (i₀ : ι) (R : ι → Env → Heap → Prop),
  (∀ i e' H',R i e' H' → ∃ i' e₂ H₂,Cv e' H' e₂ H₂ ∧ (WkE e₂ (nextId (HS i')) (E i') ∧ HWk H₂ (HS i')) ∧ μ i' < μ i) ∧
  Cv e H e₁ H₁ ∧
  (∀ t A,(t,A) ∈ kept → eget e₁ t = some A ∧ ws.contains t = false) ∧
  (∀ i,nextId (HS i) = nextId H₁) ∧
  (WkE e₁ (nextId H₁) (E i₀) ∧ HWk H₁ (HS i₀)) ∧
  ∀ i,(∀ t A,(t,A) ∈ E i → Okay A) →
    body (fun x e' H'=>match x with
     | .normal=>R i e' H'
     | x=>Q x e' H') (E i ++ kept) (HS i)

def LoopN (Okay : AV → Prop) (ws : List Nat) (body : (AX → Env → Heap → Prop) → Env → Heap → Prop) (Q : AX → Env → Heap → Prop) : Nat → Env → Heap → Prop
 | 0,e,H=>LoopSpec Okay ws body Q e H
 | n + 1,e,H=>body (fun x e' H'=>match x with | .normal=>LoopN Okay ws body Q n e' H' | x=>Q x e' H') e H

inductive LoopE (Okay : AV → Prop) (ws : List Nat) (body : (AX → Env → Heap → Prop) → Env → Heap → Prop) (Q : AX → Env → Heap → Prop) (e : Env) (H : Heap) : Prop where
 | ex (h : ∃ n,LoopN Okay ws body Q n e H)
 /-- What has grown by appends is written from now on. -/
 | thaw (t j sz : Nat) (l : List AV) (h : eget e t = some (.gs j l.length)) (ho : hget H j = some (.wtok sz l)) (ne : l ≠ [])
   (next : ∀ cp,l.length ≤ cp → cp ≤ maxL → ∃ n,LoopN Okay ws body Q n ((t,.ms (nextId H) 0 l.length cp sz) :: e) ((nextId H,.arr sz cp l) :: hset H j .gone))

section
variable (F : Nat → List AV → Heap → AV → Heap → Prop) (Okay : AV → Prop) (L : Lay)

def putE (dst : Option Nat) (A : AV) (e : Env) (k : Env → Prop) : Prop :=
 match dst with
 | some d=>k ((d,A) :: e)
 | none=>k e

def dstC : List Oper → Nat → (Nat → Prop) → Prop
 | [],_,_=>False
 | o :: _,0,k=>match o.dst with | some d=>k d | none=>False
 | _ :: l,n + 1,k=>dstC l n k

def guardC (ops : List Oper) (g : Option (Nat × Bool)) (e : Env) (yes no : Env → Prop) : Prop :=
 match g with
 | none=>yes e
 | some (j,b)=>dstC ops j fun d=>egetC e d fun A=>match A,b with
   | .tt,true=>yes e
   | .tt,false=>no e
   | .ff,true=>no e
   | .ff,false=>yes e
   | .bool x,true=>(x = true → yes ((d,.tt) :: e)) ∧ (x = false → no ((d,.ff) :: e))
   | .bool x,false=>(x = true → no ((d,.tt) :: e)) ∧ (x = false → yes ((d,.ff) :: e))
   | .dec p,true=>(p → yes ((d,.tt) :: e)) ∧ (¬ p → no ((d,.ff) :: e))
   | .dec p,false=>(p → no ((d,.tt) :: e)) ∧ (¬ p → yes ((d,.ff) :: e))
   | .tup [],_=>no e
   | _,_=>False

def aops (ops : List Oper) : List Oper → Env → Heap → (Env → Heap → Prop) → Prop
 | [],e,H,k=>k e H
 | o :: l,e,H,k=>guardC ops o.guard e
     (fun e=>aopW F Okay L o.op e H (fun A H'=>putE o.dst A e fun e'=>aops ops l e' H' k) (fun H'=>match o.dst with | none=>aops ops l e H' k | some _=>False))
     (fun e=>putE o.dst (.tup []) e fun e'=>aops ops l e' H k)

end

def opTmps : List Operand → List Nat
 | []=>[]
 | .tmp t :: l=>t :: opTmps l
 | _ :: l=>opTmps l

def opndsOf : Op → List Operand
 | .move x | .assign x | .load _ x | .nilCheck x | .unOp _ _ x | .convert _ _ x | .makeInterface _ x | .box _ x | .extract x _ | .fieldAddr _ x _=>[x]
 | .pick a b d=>[a,b,d]
 | .store _ x y | .binOp _ _ x y _ | .makeSlice _ x y | .indexAddr _ x y | .index _ x y | .lookup _ x y _=>[x,y]
 | .typeAssert x _ _ _=>[x]
 | .mapUpdate _ x y z=>[x,y,z]
 | .build _ ps | .buildSlice _ _ ps=>ps.toList.map (·.2)
 | .makeFunc _ _ cap=>cap.toList
 | .slice _ x lo hi _=>x :: (lo.toList ++ hi.toList)
 | .call cl=>(match cl.callee with | .value f=>[f] | _=>[]) ++ cl.args.toList
 | _=>[]

def edgeMask (acc : List Nat) : List Edge → Nat → Nat
 | [],s=>s
 | e :: l,s=>edgeMask acc l (match Region.binds .any e with | true=>s ||| 2 ^ e.on ||| acc.getD e.on 0 | false=>s)

def befs : List Oper → List Nat → List Nat
 | [],acc=>acc
 | o :: l,acc=>befs l (acc ++ [edgeMask acc o.after.toList 0])

def neutB : Op → Bool
 | .move _ | .assign _ | .pick .. | .build .. | .buildSlice .. | .nilCheck _ | .binOp .. | .unOp .. | .convert .. | .makeInterface .. | .makeFunc .. | .makeSlice .. | .slice .. | .fieldAddr .. | .indexAddr .. | .index .. | .extract .. | .typeAssert ..=>true
 | .call c=>(match c.callee with | .builtin .len=>true | .builtin .max=>true | .builtin .min=>true | .builtin .append=>true | .value _=>true | _=>false)
 | _=>false

def loadB : Op → Bool
 | .load _ _=>true
 | _=>false

def neutL (op : Op) : Bool:=neutB op || loadB op

def defB (op : Op) : Bool:=match op with
 | .call c=>(match c.callee with | .builtin .append=>false | _=>neutB op)
 | op=>neutB op

def allocB : Op → Bool
 | .alloc _=>true
 | .makeMap _ _=>true
 | .call c=>(match c.callee with | .builtin .append=>true | _=>false)
 | _=>false

def newB : Op → Bool
 | .alloc _=>true
 | .makeMap _ none=>true
 | _=>false

def appB : Op → Bool
 | .call c=>(match c.callee with | .builtin .append=>true | _=>false)
 | _=>false

def namesOf (ops : List Oper) (o : Oper) : List Nat :=
 o.dst.toList ++ opTmps (opndsOf o.op) ++ (match o.guard with | some (g,_)=>(match ops[g]? with | some og=>og.dst.toList | none=>[]) | none=>[])

def clashB (ops : List Oper) (x y : Oper × Bool) : Bool :=
 (!x.2 && !y.2 && !newB y.1.op && !(loadB x.1.op && (loadB y.1.op || allocB y.1.op)) && !(appB x.1.op && loadB y.1.op && ops.all fun o=>!newB o.op)) ||
 (match x.1.dst with | some d=>(namesOf ops y.1).contains d | none=>false) ||
 (match y.1.dst with | some d=>(namesOf ops x.1).contains d | none=>false)

def lateB (ops : List Oper) (zm : List (Oper × Bool)) : Bool :=
 zm.zipIdx.all fun y=>!(newB y.1.1.op && !y.1.2) || ((match y.1.1.guard with | none=>true | some _=>false) && (match y.1.1.dst with
  | none=>false
  | some d=>zm.zipIdx.all fun x=>!Nat.blt x.2 y.2 || x.1.2 || loadB x.1.1.op || ((befs ops []).getD y.2 0).testBit x.2 ||
    zm.zipIdx.all fun z=>!Nat.blt y.2 z.2 || !(namesOf ops z.1.1).contains d || ((befs ops []).getD z.2 0).testBit x.2))

def drawB (ops : List Oper) (mask : List Bool) : Bool :=
 Nat.beq mask.length ops.length && ((ops.zip mask).all fun x=>!x.2 || neutL x.1.op) &&
 (ops.zipIdx.all fun y=>y.1.after.toList.all fun e=>!Region.binds .any e || Nat.blt e.on y.2) && lateB ops (ops.zip mask) &&
 (let b:=befs ops []
 (ops.zip mask).zipIdx.all fun y=>(ops.zip mask).zipIdx.all fun x=>!Nat.blt x.2 y.2 || !clashB ops x.1 y.1 || (b.getD y.2 0).testBit x.2)

def vcallB : Op → Bool
 | .call c=>(match c.callee with | .value _=>true | _=>false)
 | _=>false

def memN : List Nat → Nat → Bool
 | [],_=>false
 | x :: l,n=>match Nat.beq x n with | true=>true | false=>memN l n

def chkF (fl : List Nat) (op : Op) : Bool:=vcallB op || (match memN fl 999,op with | false,.store _ _ _=>true | _,_=>false)

def exmB (ops : List Oper) (fl : List Nat) (x y : (Oper × Bool) × Nat) : Bool :=
 memN fl x.2 && loadB x.1.1.op && !x.1.2 && chkF fl y.1.1.op && !y.1.2 && (match x.1.1.dst with | some d=>!(namesOf ops y.1.1).contains d | none=>true) && (match y.1.1.dst with | some d=>!(namesOf ops x.1.1).contains d | none=>true)

def drawLB (ops : List Oper) (mask : List Bool) (fl : List Nat) : Bool :=
 Nat.beq mask.length ops.length && ((ops.zip mask).all fun x=>!x.2 || neutL x.1.op) &&
 (ops.zipIdx.all fun y=>y.1.after.toList.all fun e=>!Region.binds .any e || Nat.blt e.on y.2) && lateB ops (ops.zip mask) &&
 (let b:=befs ops []
 (ops.zip mask).zipIdx.all fun y=>(ops.zip mask).zipIdx.all fun x=>!Nat.blt x.2 y.2 || !clashB ops x.1 y.1 || (b.getD y.2 0).testBit x.2 || exmB ops fl x y)

def exgB (ops : List Oper) (gl : List Nat) (x y : (Oper × Bool) × Nat) : Bool :=
 memN gl y.2 && loadB y.1.1.op && !y.1.2 && !x.1.2 && !loadB x.1.1.op && (ops.all fun o=>!newB o.op) && (match x.1.1.dst with | some d=>!(namesOf ops y.1.1).contains d | none=>true) && (match y.1.1.dst with | some d=>!(namesOf ops x.1.1).contains d | none=>true)

def drawGB (ops : List Oper) (mask : List Bool) (fl gl : List Nat) : Bool :=
 Nat.beq mask.length ops.length && ((ops.zip mask).all fun x=>!x.2 || neutL x.1.op) &&
 (ops.zipIdx.all fun y=>y.1.after.toList.all fun e=>!Region.binds .any e || Nat.blt e.on y.2) && lateB ops (ops.zip mask) &&
 (let b:=befs ops []
 (ops.zip mask).zipIdx.all fun y=>(ops.zip mask).zipIdx.all fun x=>!Nat.blt x.2 y.2 || !clashB ops x.1 y.1 || (b.getD y.2 0).testBit x.2 || exmB ops fl x y || exgB ops gl x y)

def rdyB (ops : List Oper) (ls : List Nat) (i : Nat) : Bool :=
 !ls.any (Nat.beq i) && (match ops[i]? with | some o=>o.after.toList.all fun e=>!Region.binds .any e || ls.any (Nat.beq e.on) | none=>false)

def backB (ops : List Oper) : Bool:=ops.zipIdx.all fun y=>y.1.after.toList.all fun e=>!Region.binds .any e || Nat.blt e.on y.2

def adeach : List Nat → (Nat → Prop) → Prop
 | [],_=>True
 | i :: l,f=>f i ∧ adeach l f

inductive ACallP (F : Nat → List AV → Heap → AV → Heap → Prop) (f : Nat) (args : List AV) (k : AV → Prop) : Prop where
 | pure (Bs : List AV) (R : AV) (hle : leL args Bs) (hb : bndBL 0 Bs = true ∧ bndB 0 R = true) (h : F f Bs [] R []) (h' : k R)

section
variable (F : Nat → List AV → Heap → AV → Heap → Prop) (Okay : AV → Prop) (L : Lay)

def aopN (op : Op) (e : Env) (k : AV → Prop) : Prop :=
 match op with
 | .call c=>(match c.callee with
   | .value f=>aev e f fun A=>(match A with
     | .fn g cap=>aevs e c.args.toList fun As=>appC As cap fun Bs=>ACallP F g Bs k
     | _=>False)
   | .builtin .append=>aevs e c.args.toList fun As=>abuiltin L .append c.argTypes.toList As [] fun A H'=>H' = [] ∧ k A
   | .builtin b=>aevs e c.args.toList fun As=>abuiltin L b c.argTypes.toList As [] fun A _=>k A
   | _=>False)
 | .makeSlice t l c=>aev e l fun A=>aev e c fun B=>L.getC t fun i=>(match i.desc,A,B with
   | .slice el,.int _ n,.int _ m=>L.getC el fun ei=>(0 ≤ n ∧ n ≤ m ∧ m * (ei.bytes : Int) ≤ 281474976710656 ∧ m ≤ 9223372036854775807) ∧
     (n.toNat = m.toNat ∧ k (.sl (flat ei.zero) (List.replicate n.toNat ei.zero) .full))
   | _,_,_=>False)
 | op=>noNil op <| aop F (fun _=>True) L op e [] (fun A _=>k A) (fun _=>False)

def adraws (ops : List Oper) : List (Oper × Bool) → Env → Heap → (Env → Heap → Prop) → Prop
 | [],e,H,k=>k e H
 | (o,nb) :: l,e,H,k=>guardC ops o.guard e
   (fun e=>match nb with
    | true=>aopN F L o.op e fun A=>putE o.dst A e fun e'=>adraws ops l e' H k
    | false=>noNil o.op <| aop F (fun _=>True) L o.op e H (fun A H'=>putE o.dst A e fun e'=>adraws ops l e' H' k) (fun H'=>match o.dst with | none=>adraws ops l e H' k | some _=>False))
   (fun e=>putE o.dst (.tup []) e fun e'=>adraws ops l e' H k)

def chkL (H : Heap) : List (Nat × AV × AV) → Prop → Prop
 | [],k=>k
 | (t,A,R) :: pl,k=>(aload L t A H fun R'=>R' = R) ∧ chkL H pl k

def addL (fl : List Nat) (i : Nat) (op : Op) (e : Env) (A : AV) (pl : List (Nat × AV × AV)) (k : List (Nat × AV × AV) → Prop) : Prop :=
 match memN fl i,op with
 | true,.load t x=>aev e x fun B=>k ((t,B,A) :: pl)
 | _,_=>k pl

def adrawsL (ops : List Oper) (fl : List Nat) : Nat → List (Oper × Bool) → List (Nat × AV × AV) → Env → Heap → (Env → Heap → Prop) → Prop
 | _,[],_,e,H,k=>k e H
 | i,(o,nb) :: l,pl,e,H,k=>guardC ops o.guard e
   (fun e=>match nb with
    | true=>aopN F L o.op e fun A=>putE o.dst A e fun e'=>adrawsL ops fl (i + 1) l pl e' H k
    | false=>noNil o.op <| aop F (fun _=>True) L o.op e H
      (fun A H'=>chkL L H' (match chkF fl o.op with | true=>pl | false=>[]) <| addL fl i o.op e A pl fun pl'=>putE o.dst A e fun e'=>adrawsL ops fl (i + 1) l pl' e' H' k)
      (fun H'=>match o.dst with | none=>chkL L H' (match chkF fl o.op with | true=>pl | false=>[]) <| adrawsL ops fl (i + 1) l pl e H' k | some _=>False))
   (fun e=>putE o.dst (.tup []) e fun e'=>adrawsL ops fl (i + 1) l pl e' H k)

def chkG (t : Nat) (A R : AV) : List Heap → Prop → Prop
 | [],k=>k
 | G :: hs,k=>(aload L t A G fun R'=>R' = R) ∧ chkG t A R hs k

def addG (gl : List Nat) (i : Nat) (op : Op) (e : Env) (A : AV) (hs : List Heap) (k : Prop) : Prop :=
 match memN gl i,op with
 | true,.load t x=>aev e x fun B=>chkG L t B A hs k
 | _,_=>k

def adrawsG (ops : List Oper) (fl gl : List Nat) : Nat → List (Oper × Bool) → List (Nat × AV × AV) → List Heap → Env → Heap → (Env → Heap → Prop) → Prop
 | _,[],_,_,e,H,k=>k e H
 | i,(o,nb) :: l,pl,hs,e,H,k=>guardC ops o.guard e
   (fun e=>match nb with
    | true=>aopN F L o.op e fun A=>putE o.dst A e fun e'=>adrawsG ops fl gl (i + 1) l pl hs e' H k
    | false=>noNil o.op <| aop F (fun _=>True) L o.op e H
      (fun A H'=>chkL L H' (match chkF fl o.op with | true=>pl | false=>[]) <| addG L gl i o.op e A hs <| addL fl i o.op e A pl fun pl'=>putE o.dst A e fun e'=>adrawsG ops fl gl (i + 1) l pl' (match loadB o.op with | true=>hs | false=>H :: hs) e' H' k)
      (fun H'=>match o.dst with | none=>chkL L H' (match chkF fl o.op with | true=>pl | false=>[]) <| adrawsG ops fl gl (i + 1) l pl (H :: hs) e H' k | some _=>False))
   (fun e=>putE o.dst (.tup []) e fun e'=>adrawsG ops fl gl (i + 1) l pl hs e' H k)

def adall (ops : List Oper) : Nat → List Nat → Env → Heap → (Env → Heap → Prop) → Prop
 | 0,_,e,H,k=>k e H
 | n + 1,ls,e,H,k=>adeach ((List.range ops.length).filter (rdyB ops ls)) fun i=>(match ops[i]? with
   | some o=>guardC ops o.guard e
     (fun e=>aop F (fun _=>True) L o.op e H (fun A H'=>putE o.dst A e fun e'=>adall ops n (i :: ls) e' H' k) (fun H'=>match o.dst with | none=>adall ops n (i :: ls) e H' k | some _=>False))
     (fun e=>putE o.dst (.tup []) e fun e'=>adall ops n (i :: ls) e' H k)
   | none=>False)

mutual
def hasP (j : Nat) : AV → Bool
 | .ptr k _ _=>Nat.beq k j
 | .fn _ cap=>hasPL j cap
 | .ag l=>hasPL j l
 | .tup l=>hasPL j l
 | .ifc _ x=>hasP j x
 | _=>false
def hasPL (j : Nat) : List AV → Bool
 | []=>false
 | x :: l=>match hasP j x with | true=>true | false=>hasPL j l
end

mutual
def frzV (j : Nat) (B : AV) : AV → AV
 | .ptr k p off=>match Nat.beq k j,p,off with | true,[],0=>.cp B | _,p,off=>.ptr k p off
 | .fn f cap=>.fn f (frzVL j B cap)
 | .ag l=>.ag (frzVL j B l)
 | .tup l=>.tup (frzVL j B l)
 | .ifc t x=>.ifc t (frzV j B x)
 | A=>A
def frzVL (j : Nat) (B : AV) : List AV → List AV
 | []=>[]
 | x :: l=>frzV j B x :: frzVL j B l
end

mutual
def frzC (j : Nat) (B : AV) : AV → (AV → Prop) → Prop
 | .ptr k p off,c=>(match Nat.beq k j,p,off with | true,[],0=>c (.cp B) | _,p,off=>c (.ptr k p off))
 | .fn f cap,c=>frzLC j B cap fun l=>c (.fn f l)
 | .ag l,c=>frzLC j B l fun l=>c (.ag l)
 | .tup l,c=>frzLC j B l fun l=>c (.tup l)
 | .ifc t x,c=>frzC j B x fun y=>c (.ifc t y)
 | A,c=>c A
def frzLC (j : Nat) (B : AV) : List AV → (List AV → Prop) → Prop
 | [],c=>c []
 | x :: l,c=>frzC j B x fun y=>frzLC j B l fun m=>c (y :: m)
end

def frzE (j : Nat) (B : AV) : Env → (Env → Prop) → Prop
 | [],k=>k []
 | (t,A) :: e,k=>match hasP j A with
   | false=>frzE j B e fun m=>k ((t,A) :: m)
   | true=>frzC j B A fun A'=>frzE j B e fun m=>k ((t,A') :: m)

def frzH (j : Nat) (B : AV) : Heap → (Heap → Prop) → Prop
 | [],k=>k []
 | (i,o) :: H,k=>match Nat.beq i j with
   | true=>frzH j B H fun G=>k ((i,.gone) :: G)
   | false=>match o with
     | .box A=>(match hasP j A with
       | false=>frzH j B H fun G=>k ((i,.box A) :: G)
       | true=>frzC j B A fun A'=>frzH j B H fun G=>k ((i,.box A') :: G))
     | o=>frzH j B H fun G=>k ((i,o) :: G)

def frzs : List Nat → Env → Heap → (Env → Heap → Prop) → Prop
 | [],e,H,k=>k e H
 | j :: js,e,H,k=>hgetC H j fun o=>match o with
   | .box A=>(pureB A = true ∧ strip A = A) ∧ frzE j A e fun e'=>frzH j A H fun H'=>frzs js e' H' k
   | _=>False

inductive ADraw (ops : List Oper) (e : Env) (H : Heap) (k : Env → Heap → Prop) : Prop where
 | mk (ex : ∃ mask : List Bool,drawB ops mask = true ∧ adraws F L ops (ops.zip mask) e H k)
 | all (hb : backB ops = true) (h : adall F L ops ops.length [] e H k)
 | late (fl : List Nat) (ex : ∃ mask : List Bool,drawLB ops mask fl = true ∧ adrawsL F L ops fl 0 (ops.zip mask) [] e H k)
 | both (fl gl : List Nat) (ex : ∃ mask : List Bool,drawGB ops mask fl gl = true ∧ adrawsG F L ops fl gl 0 (ops.zip mask) [] [] e H k)
 | frz (js : List Nat) (h : frzs js e H fun e' H'=>∃ mask : List Bool,drawB ops mask = true ∧ adraws F L ops (ops.zip mask) e' H' k)
end

section
variable (F : Nat → List AV → Heap → AV → Heap → Prop) (Okay : AV → Prop) (L : Lay)

def awp : Code → (AX → Env → Heap → Prop) → Env → Heap → Prop
 | .skip,Q,e,H=>Q .normal e H
 | .region _ ops d,Q,e,H=>(match d with
   | false=>aops F Okay L ops.toList ops.toList e H fun e' H'=>Q .normal e' H'
   | true=>ADraw F L ops.toList e H fun e' H'=>Q .normal e' H')
 | .seq a b,Q,e,H=>awp a (fun x e' H'=>match x with | .normal=>awp b Q e' H' | x=>Q x e' H') e H
 | .cond c a b,Q,e,H=>aev e c fun A=>br A (awp a Q e H) (awp b Q e H)
 | .block i b,Q,e,H=>awp b (fun x e' H'=>match x with
   | .exit j=>(match Nat.beq j i with | true=>Q .normal e' H' | false=>Q (.exit j) e' H')
   | x=>Q x e' H') e H
 | .loop b,Q,e,H=>LoopE Okay (writes b) (awp b) Q e H
 | .exit i,Q,e,H=>Q (.exit i) e H
 | .ret,Q,e,H=>Q .ret e H
 | .label _,Q,e,H=>Q .normal e H
 | _,_,_,_=>False

end
end Go.AL

namespace Go.AL

mutual
def Ok : AV → Prop
 | .int k n=>InR k n
 | .str s=>s.length ≤ maxL
 | .sl _ l _=>l.length ≤ maxL ∧ OkL l
 | .ag l=>OkL l
 | .tup l=>OkL l
 | .cp x=>Ok x
 | .ifc _ x=>Ok x
 | _=>True
def OkL : List AV → Prop
 | []=>True
 | x :: l=>Ok x ∧ OkL l
end

mutual
theorem Rd_ok {w : World} {Im : Nat → Nat → Prop} : ∀ (A : AV) (cs : List Value),Rd w Im A cs → Ok A
 | .bool _,_,_=>by simp only [Ok]
 | .tt,_,_=>by simp only [Ok]
 | .ff,_,_=>by simp only [Ok]
 | .dec _,_,_=>by simp only [Ok]
 | .int _ _,_,hr=>by simp only [Rd] at hr; simp only [Ok]; exact hr.2
 | .str _,_,hr=>by simp only [Rd] at hr; simp only [Ok]; exact hr.2
 | .nilI,_,_=>by simp only [Ok]
 | .ifc t x,cs,hr=>by simp only [Rd] at hr; obtain ⟨v,rfl,h2,h3⟩:=hr; simp only [Ok]; exact Rd_ok x _ h3
 | .nils,_,_=>by simp only [Ok]
 | .sl sz l .no,cs,hr=>by
   simp only [Rd] at hr
   simp only [Ok]
   obtain ⟨h0,⟨rfl,rfl⟩ | ⟨a,cap,rfl,_,_,_,h⟩⟩:=hr
   ·exact ⟨h0,by simp only [OkL]⟩
   ·exact ⟨h0,RdE_ok l _ h⟩
 | .sl sz l .full,cs,hr=>by simp only [Rd] at hr
 | .sl sz l (.own _),cs,hr=>by simp only [Rd] at hr
 | .ms _ _ _ _ _,_,_=>by simp only [Ok]
 | .ag l,cs,hr=>by simp only [Rd] at hr; simp only [Ok]; exact RdL_ok l cs hr
 | .tup _,_,hr=>by simp only [Rd] at hr
 | .ptr _ _ _,_,_=>by simp only [Ok]
 | .cp x,cs,hr=>by simp only [Rd] at hr; obtain ⟨a,ds,rfl,_,_,h⟩:=hr; simp only [Ok]; exact Rd_ok x _ h
 | .nilp,_,_=>by simp only [Ok]
 | .fn _ _,_,_=>by simp only [Ok]
 | .nilf,_,_=>by simp only [Ok]
 | .mp _,_,_=>by simp only [Ok]
 | .gs _ _,_,_=>by simp only [Ok]
 | .bm _ _,_,_=>by simp only [Ok]
 | .nilm,_,_=>by simp only [Ok]
 | .und,_,_=>by simp only [Ok]
theorem RdL_ok {w : World} {Im : Nat → Nat → Prop} : ∀ (l : List AV) (cs : List Value),RdL w Im l cs → OkL l
 | [],_,_=>by simp only [OkL]
 | x :: l,cs,hr=>by
   simp only [RdL] at hr
   obtain ⟨c,d,rfl,h2,h3⟩:=hr
   simp only [OkL]
   exact ⟨Rd_ok x _ h2,RdL_ok l _ h3⟩
theorem RdE_ok {w : World} {Im : Nat → Nat → Prop} {sz b : Nat} : ∀ (l : List AV) (off : Nat),RdE w Im sz b l off → OkL l
 | [],_,_=>by simp only [OkL]
 | x :: l,off,hr=>by
   simp only [RdE] at hr
   obtain ⟨⟨cs,h1,h2,h3⟩,h4⟩:=hr
   simp only [OkL]
   exact ⟨Rd_ok x _ h3,RdE_ok l _ h4⟩
end

mutual
theorem VR_ok {c : Cx} : ∀ (A : AV) (cs : List Value),VR c A cs → Ok A
 | .bool _,_,_=>by simp only [Ok]
 | .tt,_,_=>by simp only [Ok]
 | .ff,_,_=>by simp only [Ok]
 | .dec _,_,_=>by simp only [Ok]
 | .int _ _,_,hr=>by simp only [VR] at hr; exact Rd_ok _ _ hr
 | .str _,_,hr=>by simp only [VR] at hr; exact Rd_ok _ _ hr
 | .nilI,_,_=>by simp only [Ok]
 | .ifc t x,cs,hr=>by simp only [VR] at hr; obtain ⟨v,rfl,h2,h3⟩:=hr; simp only [Ok]; exact VR_ok x _ h3
 | .nils,_,_=>by simp only [Ok]
 | .sl sz l .no,cs,hr=>by simp only [VR] at hr; exact Rd_ok _ _ hr
 | .sl sz l .full,cs,hr=>by simp only [VR] at hr; exact Rd_ok (.sl sz l .no) _ hr.1
 | .sl sz l (.own _),cs,hr=>by simp only [VR] at hr; exact Rd_ok (.sl sz l .no) _ hr.2.1
 | .ms _ _ _ _ _,_,_=>by simp only [Ok]
 | .ag l,cs,hr=>by simp only [VR] at hr; simp only [Ok]; exact VRL_ok l cs hr
 | .tup _,_,hr=>by simp only [VR,Rd] at hr
 | .ptr _ _ _,_,_=>by simp only [Ok]
 | .cp x,cs,hr=>by simp only [VR] at hr; exact Rd_ok _ _ hr
 | .nilp,_,_=>by simp only [Ok]
 | .fn _ _,_,_=>by simp only [Ok]
 | .nilf,_,_=>by simp only [Ok]
 | .mp _,_,_=>by simp only [Ok]
 | .gs _ _,_,_=>by simp only [Ok]
 | .bm _ _,_,_=>by simp only [Ok]
 | .nilm,_,_=>by simp only [Ok]
 | .und,_,_=>by simp only [Ok]
theorem VRL_ok {c : Cx} : ∀ (l : List AV) (cs : List Value),VRL c l cs → OkL l
 | [],_,_=>by simp only [OkL]
 | x :: l,cs,hr=>by
   simp only [VRL] at hr
   obtain ⟨a,d,rfl,h2,h3⟩:=hr
   simp only [OkL]
   exact ⟨VR_ok x _ h2,VRL_ok l _ h3⟩
end

theorem VA_ok {c : Cx} : ∀ (l : List AV) (vs : List Value),VA c l vs → OkL l
 | [],_,_=>by simp only [OkL]
 | x :: l,vs,hr=>by
   simp only [VA] at hr
   obtain ⟨v,r,rfl,h2,h3,h4⟩:=hr
   simp only [OkL]
   exact ⟨VR_ok x _ h3,VA_ok l _ h4⟩

theorem EV_ok {c : Cx} {A : AV} {v : Value} (h : EV c A v) : Ok A:=by
 cases A <;> first
  | exact VR_ok _ _ h.2
  | (simp only [Ok]; done)
  | (obtain ⟨vs,rfl,h2⟩:=h; simp only [Ok]; exact VA_ok _ _ h2)

theorem cells_one {v x : Value} (hs : v.cells = #[v]) (h : v.cells.toList = [x]) : v = x:=by
 rw [hs] at h; injection h

section
variable {c : Cx} {v : Value}

theorem VV_bool {b : Bool} (h : VV c (.bool b) v) : v = .bool b:=by
 have:=h.2; simp only [VR,Rd] at this; exact cells_one (h.1.2 rfl) this
theorem VV_tt (h : VV c .tt v) : v = .bool true:=by
 have:=h.2; simp only [VR,Rd] at this; exact cells_one (h.1.2 rfl) this
theorem VV_ff (h : VV c .ff v) : v = .bool false:=by
 have:=h.2; simp only [VR,Rd] at this; exact cells_one (h.1.2 rfl) this
theorem VV_dec {p : Prop} (h : VV c (.dec p) v) : ∃ b,v = .bool b ∧ (b = true ↔ p):=by
 have:=h.2; simp only [VR,Rd] at this
 obtain ⟨b,h1,h2⟩:=this
 exact ⟨b,cells_one (h.1.2 rfl) h1,h2⟩
theorem VV_int {k : IntKind} {n : Int} (h : VV c (.int k n) v) : v = .int k n ∧ InR k n:=by
 have:=h.2; simp only [VR,Rd] at this; exact ⟨cells_one (h.1.2 rfl) this.1,this.2⟩
theorem VV_str {s : List UInt8} (h : VV c (.str s) v) : v = .string ⟨s.toArray⟩ ∧ s.length ≤ maxL:=by
 have:=h.2; simp only [VR,Rd] at this; exact ⟨cells_one (h.1.2 rfl) this.1,this.2⟩
theorem VV_nilI (h : VV c .nilI v) : v = .nilIface:=by
 have:=h.2; simp only [VR,Rd] at this; exact cells_one (h.1.2 rfl) this
theorem VV_nils (h : VV c .nils v) : v = .slice none 0 0:=by
 have:=h.2; simp only [VR,Rd] at this; exact cells_one (h.1.2 rfl) this
theorem VV_nilp (h : VV c .nilp v) : v = .pointer none:=by
 have:=h.2; simp only [VR,Rd] at this; exact cells_one (h.1.2 rfl) this
theorem VV_nilm (h : VV c .nilm v) : v = .map none:=by
 have:=h.2; simp only [VR,Rd] at this; exact cells_one (h.1.2 rfl) this
theorem VV_ifc {t : Nat} {x : AV} (h : VV c (.ifc t x) v) : ∃ u,v = .iface t u ∧ VV c x u:=by
 have:=h.2; simp only [VR] at this
 obtain ⟨u,h1,h2,h3⟩:=this
 exact ⟨u,cells_one (h.1.2 rfl) h1,h2,h3⟩
theorem VV_ptr {k off : Nat} {p : List Nat} (h : VV c (.ptr k p off) v) : k < c.nx ∧ v = .pointer (some ⟨c.ρ k,off,none⟩):=by
 have:=h.2; simp only [VR] at this; exact ⟨this.1,cells_one (h.1.2 rfl) this.2⟩
theorem VV_ms {k off len cap sz : Nat} (h : VV c (.ms k off len cap sz) v) : k < c.nx ∧ v = .slice (some ⟨c.ρ k,off * sz,none⟩) len cap ∧ len ≤ cap ∧ cap ≤ maxL:=by
 have:=h.2; simp only [VR] at this; exact ⟨this.1,cells_one (h.1.2 rfl) this.2.1,this.2.2⟩
theorem VV_mp {k : Nat} (h : VV c (.mp k) v) : k < c.nx ∧ v = .map (some (c.ρ k)):=by
 have:=h.2; simp only [VR] at this; exact ⟨this.1,cells_one (h.1.2 rfl) this.2⟩
theorem VV_bm {f k : Nat} (h : VV c (.bm f k) v) : k < c.nx ∧ v = .func (.func f) #[.pointer (some ⟨c.ρ k,0,none⟩)] #[]:=by
 have:=h.2; simp only [VR] at this; exact ⟨this.1,cells_one (h.1.2 rfl) this.2⟩
theorem VV_gs {k len : Nat} (h : VV c (.gs k len) v) : k < c.nx ∧ (∃ a n m,v = .slice a n m) ∧ ∀ n,c.tp k = some n → len ≤ n ∧ (len = n → v = .slice (c.tk k).1 n (c.tk k).2):=by
 have:=h.2; simp only [VR] at this
 obtain ⟨h1,⟨a,n,m,h2⟩,h3⟩:=this
 exact ⟨h1,⟨a,n,m,cells_one (h.1.2 rfl) h2⟩,fun n hn=>⟨(h3 n hn).1,fun e=>cells_one (h.1.2 rfl) ((h3 n hn).2 e)⟩⟩
theorem VV_cp {x : AV} (h : VV c (.cp x) v) : ∃ a ds,v = .pointer (some a) ∧ a.spot = none ∧ cellsAt c.w c.Im a.block a.off ds ∧ Rd c.w c.Im x ds:=by
 have:=h.2; simp only [VR,Rd] at this
 obtain ⟨a,ds,h1,h2⟩:=this
 exact ⟨a,ds,cells_one (h.1.2 rfl) h1,h2⟩
theorem VV_fn {f : Nat} {cap : List AV} (h : VV c (.fn f cap) v) : ∃ vs : List Value,v = .func (.func f) #[] vs.toArray ∧ VA c cap vs:=by
 have:=h.2; simp only [VR] at this
 obtain ⟨vs,h1,h2⟩:=this
 exact ⟨vs,cells_one (h.1.2 rfl) h1,h2⟩
theorem VV_sl {sz : Nat} {l : List AV} {tok : Tk} (h : VV c (.sl sz l tok) v) : l.length ≤ maxL ∧ ((l = [] ∧ v = .slice none 0 0) ∨
  ∃ a cap,v = .slice (some a) l.length cap ∧ l.length ≤ cap ∧ cap ≤ maxL ∧ (l ≠ [] → a.spot = none) ∧ RdE c.w c.Im sz a.block l a.off):=by
 have hv:=h.1.2 rfl
 have key : Rd c.w c.Im (.sl sz l .no) v.cells.toList:=by
  have:=h.2
  cases tok with
  | no=>simpa only [VR] using this
  | full=>simp only [VR] at this; exact this.1
  | own k=>simp only [VR] at this; exact this.2.1
 simp only [Rd] at key
 refine ⟨key.1,?_⟩
 rcases key.2 with (⟨h1,h2⟩ | ⟨a,cap,h1,h2⟩)
 ·exact .inl ⟨h1,cells_one hv h2⟩
 ·exact .inr ⟨a,cap,cells_one hv h1,h2⟩
end

theorem VV_mk {c : Cx} {A : AV} {v : Value} (hA : isAg A = false) (hv : v.cells = #[v]) (h : VR c A [v]) : VV c A v :=
 ⟨⟨(fun h=>by rw [hA] at h; cases h),fun _=>hv⟩,by rw [hv]; exact h⟩

theorem EV_VV {c : Cx} {A : AV} {v : Value} (h : VV c A v) : EV c A v:=by
 cases A <;> first
  | exact h
  | trivial
  | (have:=h.2; simp only [VR,Rd] at this)

def opdOk : Operand → Bool
 | .const (.int k n)=>decide (k.min ≤ n) && decide (n ≤ k.max)
 | .const (.string s)=>decide (s.data.size ≤ 1000000)
 | _=>true

def EnvOk (c : Cx) (e : Env) (a : Act) : Prop:=∀ t A,eget e t = some A → EV c A (a.tmps.getD t undef)

theorem constC_sound {c : Cx} {v : Value} {k : AV → Prop} (hv : opdOk (.const v) = true) (h : constC v k) : ∃ A,VV c A v ∧ k A:=by
 unfold constC at h
 split at h
 ·exact ⟨_,VV_mk rfl rfl (by simp only [VR,Rd]),h⟩
 ·exact ⟨_,VV_mk rfl rfl (by simp only [VR,Rd]),h⟩
 ·refine ⟨_,VV_mk rfl rfl ?_,h⟩
  simp only [VR,Rd]
  simp only [opdOk,Bool.and_eq_true,decide_eq_true_eq] at hv
  exact ⟨trivial,hv⟩
 ·refine ⟨_,VV_mk rfl rfl ?_,h⟩
  simp only [VR,Rd]
  simp only [opdOk,decide_eq_true_eq] at hv
  refine ⟨by simp,?_⟩
  rw [Array.length_toList]; unfold maxL; omega
 ·exact ⟨_,VV_mk rfl rfl (by simp only [VR,Rd]),h⟩
 ·exact ⟨_,VV_mk rfl rfl (by simp only [VR,Rd]),h⟩
 ·exact ⟨_,VV_mk rfl rfl (by simp only [VR,Rd]),h⟩
 ·exact ⟨_,VV_mk rfl rfl (by simp only [VR,Rd]),h⟩
 ·exact ⟨_,VV_mk rfl rfl (by simp only [VR,Rd]),h⟩
 ·exact h.elim

theorem aev_sound {c : Cx} {e : Env} {a : Act} {x : Operand} {k : AV → Prop} (he : EnvOk c e a) (hx : opdOk x = true) (h : aev e x k) : ∃ A,EV c A (a.eval x) ∧ k A:=by
 unfold aev at h
 split at h
 ·obtain ⟨A,h1,h2⟩:=egetC_iff.1 h
  exact ⟨A,he _ _ h1,h2⟩
 ·obtain ⟨A,h1,h2⟩:=constC_sound (c:=c) hx h
  exact ⟨A,EV_VV h1,h2⟩
 ·refine ⟨_,EV_VV (VV_mk (v:=.func (.func _) #[] #[]) rfl rfl ?_),h⟩
  simp only [VR,VA]
  exact ⟨[],rfl,rfl⟩
 ·exact h.elim

def EVL (c : Cx) : List AV → List Value → Prop
 | [],vs=>vs = []
 | x :: l,vs=>∃ v r,vs = v :: r ∧ EV c x v ∧ EVL c l r

theorem aevs_sound {c : Cx} {e : Env} {a : Act} (he : EnvOk c e a) : ∀ {l : List Operand} {k : List AV → Prop},l.all opdOk = true → aevs e l k →
  ∃ As,EVL c As (l.map a.eval) ∧ k As
 | [],k,_,h=>⟨[],rfl,h⟩
 | x :: l,k,hl,h=>by
   simp only [List.all_cons,Bool.and_eq_true] at hl
   obtain ⟨A,h1,h2⟩:=aev_sound he hl.1 h
   obtain ⟨As,h3,h4⟩:=aevs_sound he hl.2 h2
   exact ⟨A :: As,⟨_,_,rfl,h1,h3⟩,h4⟩

end Go.AL

namespace Go.AL

theorem wrap_InR (k : IntKind) (n : Int) : InR k (k.wrap n):=by
 unfold InR IntKind.wrap IntKind.min IntKind.max
 have h0:=Int.emod_nonneg n (b:=(2 ^ k.bits : Int)) (by cases k <;> simp [IntKind.bits])
 have h1:=Int.emod_lt_of_pos n (b:=(2 ^ k.bits : Int)) (by cases k <;> simp [IntKind.bits])
 cases k <;> simp [IntKind.bits,IntKind.signed] at * <;> first | omega | (split <;> omega)

theorem wrap_of_InR {k : IntKind} {n : Int} (h : InR k n) : k.wrap n = n:=by
 unfold InR IntKind.min IntKind.max at h
 unfold IntKind.wrap
 cases k <;> simp [IntKind.bits,IntKind.signed] at * <;> first | omega | (split <;> omega)

theorem InR_mono_div {k : IntKind} {a : Int} (h : InR k a) (n : Nat) : InR k (a.fdiv (2 ^ n)):=by
 have hp : (0 : Int) < 2 ^ n:=Int.pow_pos (by omega)
 have h1 : a.fdiv (2 ^ n) = a / (2 ^ n):=Int.fdiv_eq_ediv_of_nonneg a (Int.le_of_lt hp)
 rw [h1]
 unfold InR at *
 have hmin : k.min ≤ 0:=by cases k <;> simp [IntKind.min,IntKind.signed,IntKind.bits]
 have hmax : 0 ≤ k.max:=by cases k <;> simp [IntKind.max,IntKind.signed,IntKind.bits]
 by_cases ha : 0 ≤ a
 ·have h2 : 0 ≤ a / 2 ^ n:=Int.ediv_nonneg ha (Int.le_of_lt hp)
  have h3 : a / 2 ^ n ≤ a:=Int.ediv_le_self _ ha
  omega
 ·have h2 : a / 2 ^ n < 0:=Int.ediv_neg_of_neg_of_pos (by omega) hp
  have h3 : a ≤ a / 2 ^ n:=by
   have:=Int.le_ediv_of_mul_le hp (a:=a) (b:=a) (by
    have h5 : (1 : Int) ≤ 2 ^ n:=hp
    have : a * 2 ^ n ≤ a * 1:=Int.mul_le_mul_of_nonpos_left (by omega) h5
    omega)
   exact this
  omega

theorem InR_tmod {k : IntKind} {a b : Int} (h : InR k a) : InR k (a.tmod b):=by
 unfold InR at *
 have hmin : k.min ≤ 0:=by cases k <;> simp [IntKind.min,IntKind.signed,IntKind.bits]
 have hmax : 0 ≤ k.max:=by cases k <;> simp [IntKind.max,IntKind.signed,IntKind.bits]
 have h1 : (a.tmod b).natAbs ≤ a.natAbs:=by
  rw [Int.natAbs_tmod]; exact Nat.mod_le _ _
 rcases Int.le_total 0 a with ha | ha
 ·have : 0 ≤ a.tmod b:=Int.tmod_nonneg _ ha
  omega
 ·have : a.tmod b ≤ 0:=by
   have h2:=Int.tmod_nonneg b (a:=-a) (by omega)
   rw [Int.neg_tmod] at h2; omega
  omega

section
variable {c : Cx} {P : Program}

theorem VV_int_mk {kd : IntKind} {n : Int} (h : InR kd n) : VV c (.int kd n) (.int kd n):=VV_mk rfl rfl (by simp only [VR,Rd]; exact ⟨trivial,h⟩)
theorem VV_str_mk {s : List UInt8} (h : s.length ≤ maxL) : VV c (.str s) (.string ⟨s.toArray⟩):=VV_mk rfl rfl (by simp only [VR,Rd]; exact ⟨trivial,h⟩)
theorem VV_dec_mk {p : Prop} {b : Bool} (h : b = true ↔ p) : VV c (.dec p) (.bool b):=VV_mk rfl rfl (by simp only [VR,Rd]; exact ⟨b,rfl,h⟩)
theorem VV_bool_mk (b : Bool) : VV c (.bool b) (.bool b):=VV_mk rfl rfl (by simp only [VR,Rd])
theorem VV_tt_mk : VV c .tt (.bool true):=VV_mk rfl rfl (by simp only [VR,Rd])
theorem VV_ff_mk : VV c .ff (.bool false):=VV_mk rfl rfl (by simp only [VR,Rd])

theorem arith_sound {kd : IntKind} {z : Int} {k : AV → Prop} (h : arith kd z k) : ∃ R,VV c R (.int kd (kd.wrap z)) ∧ k R:=by
 unfold arith at h
 split at h
 ·exact ⟨_,by rw [wrap_of_InR h.1]; exact VV_int_mk h.1,h.2⟩
 ·exact ⟨_,VV_int_mk (wrap_InR _ _),h⟩

theorem notA_sound {A : AV} {k : AV → Prop} {b : Bool} (hA : VV c A (.bool b)) (h : notA A k) : ∃ R,VV c R (.bool !b) ∧ k R:=by
 unfold notA at h
 split at h
 ·have:=VV_tt hA; simp at this; subst this; exact ⟨_,VV_ff_mk,h⟩
 ·have:=VV_ff hA; simp at this; subst this; exact ⟨_,VV_tt_mk,h⟩
 ·have:=VV_bool hA; simp at this; subst this; exact ⟨_,VV_bool_mk _,h⟩
 ·obtain ⟨b',h1,h2⟩:=VV_dec hA; simp at h1; subst h1
  refine ⟨_,VV_dec_mk ?_,h⟩
  rw [← h2]; simp
 ·exact h.elim

theorem boolC_sound {x : AV} {k : AV → Prop} {v : Value} (hx : VV c x v) (h : boolC x k) : ∃ b,v = .bool b ∧ VV c x (.bool b) ∧ k x:=by
 unfold boolC at h
 split at h
 ·have:=VV_tt hx; subst this; exact ⟨_,rfl,hx,h⟩
 ·have:=VV_ff hx; subst this; exact ⟨_,rfl,hx,h⟩
 ·have:=VV_bool hx; subst this; exact ⟨_,rfl,hx,h⟩
 ·obtain ⟨b',h1,h2⟩:=VV_dec hx; subst h1; exact ⟨_,rfl,hx,h⟩
 ·exact h.elim

theorem notA_bool {A : AV} {k : AV → Prop} {v : Value} (hA : VV c A v) (h : notA A k) : ∃ b,v = .bool b:=by
 unfold notA at h
 split at h
 ·exact ⟨_,VV_tt hA⟩
 ·exact ⟨_,VV_ff hA⟩
 ·exact ⟨_,VV_bool hA⟩
 ·obtain ⟨b',h1,_⟩:=VV_dec hA; exact ⟨_,h1⟩
 ·exact h.elim

theorem eqB_sound {A B : AV} {k : AV → Prop} {v u : Value} (hA : VV c A v) (hB : VV c B u) (h : eqB A B k) :
  ∃ a b R,v = .bool a ∧ u = .bool b ∧ VV c R (.bool (a == b)) ∧ k R:=by
 unfold eqB at h
 split at h
 ·obtain rfl:=VV_tt hA
  obtain ⟨b,rfl,h2,h3⟩:=boolC_sound hB h
  exact ⟨true,b,_,rfl,rfl,by simpa using h2,h3⟩
 ·obtain rfl:=VV_tt hB
  obtain ⟨b,rfl,h2,h3⟩:=boolC_sound hA h
  exact ⟨b,true,_,rfl,rfl,by simpa using h2,h3⟩
 ·obtain rfl:=VV_ff hA
  obtain ⟨b,rfl⟩:=notA_bool hB h
  obtain ⟨R,h2,h3⟩:=notA_sound hB h
  exact ⟨false,b,_,rfl,rfl,by simpa using h2,h3⟩
 ·obtain rfl:=VV_ff hB
  obtain ⟨b,rfl⟩:=notA_bool hA h
  obtain ⟨R,h2,h3⟩:=notA_sound hA h
  exact ⟨b,false,_,rfl,rfl,by simpa using h2,h3⟩
 ·obtain rfl:=VV_bool hA
  obtain rfl:=VV_bool hB
  exact ⟨_,_,_,rfl,rfl,VV_dec_mk (by simp),h⟩
 ·obtain ⟨a,rfl,ha⟩:=VV_dec hA
  obtain ⟨b,rfl,hb⟩:=VV_dec hB
  refine ⟨_,_,_,rfl,rfl,VV_dec_mk ?_,h⟩
  rw [← ha,← hb]; cases a <;> cases b <;> simp
 ·obtain ⟨a,rfl,ha⟩:=VV_dec hA
  obtain rfl:=VV_bool hB
  refine ⟨_,_,_,rfl,rfl,VV_dec_mk ?_,h⟩
  rw [← ha]; rename_i b; cases a <;> cases b <;> simp
 ·obtain rfl:=VV_bool hA
  obtain ⟨b,rfl,hb⟩:=VV_dec hB
  refine ⟨_,_,_,rfl,rfl,VV_dec_mk ?_,h⟩
  rw [← hb]; rename_i a _ _; cases a <;> cases b <;> simp
 ·exact h.elim

theorem nilEq_sound {A B : AV} {k : AV → Prop} {v u : Value} (hA : VV c A v) (hB : VV c B u) (h : nilEq A B k) :
  ∃ b R,((v = .nilIface ∧ u = .nilIface ∧ b = true) ∨ (v = .nilIface ∧ (∃ t x,u = .iface t x) ∧ b = false) ∨ ((∃ t x,v = .iface t x) ∧ u = .nilIface ∧ b = false)) ∧ VV c R (.bool b) ∧ k R:=by
 unfold nilEq at h
 split at h
 ·exact ⟨true,_,.inl ⟨VV_nilI hA,VV_nilI hB,rfl⟩,VV_tt_mk,h⟩
 ·obtain ⟨x,h1,_⟩:=VV_ifc hB
  exact ⟨false,_,.inr (.inl ⟨VV_nilI hA,⟨_,_,h1⟩,rfl⟩),VV_ff_mk,h⟩
 ·obtain ⟨x,h1,_⟩:=VV_ifc hA
  exact ⟨false,_,.inr (.inr ⟨⟨_,_,h1⟩,VV_nilI hB,rfl⟩),VV_ff_mk,h⟩
 ·exact h.elim

theorem nilpEq_sound {A B : AV} {k : AV → Prop} {v u : Value} (hA : VV c A v) (hB : VV c B u) (h : nilpEq A B k) :
  ∃ b R a,v = .pointer a ∧ u = .pointer none ∧ b = a.isNone ∧ VV c R (.bool b) ∧ k R:=by
 unfold nilpEq at h
 split at h
 ·exact ⟨true,_,none,VV_nilp hA,VV_nilp hB,rfl,VV_tt_mk,h⟩
 ·obtain ⟨a,ds,h1,_⟩:=VV_cp hA
  exact ⟨false,_,some a,h1,VV_nilp hB,rfl,VV_ff_mk,h⟩
 ·exact ⟨false,_,_,(VV_ptr hA).2,VV_nilp hB,rfl,VV_ff_mk,h⟩
 ·exact h.elim

end
end Go.AL

namespace Go.AL

theorem nthC_iff {α : Type} {k : α → Prop} : ∀ {l : List α} {i : Nat},nthC l i k ↔ ∃ x,l[i]? = some x ∧ k x
 | [],i=>by simp [nthC]
 | x :: l,0=>by simp [nthC]
 | x :: l,i + 1=>by simp only [nthC,List.getElem?_cons_succ]; exact nthC_iff

theorem setNthC_iff {k : List AV → Prop} {y : AV} : ∀ {l : List AV} {i : Nat},setNthC l i y k → i < l.length ∧ k (l.set i y)
 | [],i,h=>by simp [setNthC] at h
 | x :: l,0,h=>by simpa [setNthC] using h
 | x :: l,i + 1,h=>by
   simp only [setNthC] at h
   have:=setNthC_iff h
   exact ⟨by simp; exact this.1,by simpa using this.2⟩

theorem snocC_iff {k : List Nat → Prop} {x : Nat} : ∀ {l : List Nat},snocC l x k ↔ k (l ++ [x])
 | []=>Iff.rfl
 | y :: l=>by simp only [snocC]; exact snocC_iff

theorem appC_iff {k : List AV → Prop} {m : List AV} : ∀ {l : List AV},appC l m k ↔ k (l ++ m)
 | []=>Iff.rfl
 | y :: l=>by simp only [appC]; exact appC_iff

theorem repC_iff {k : List AV → Prop} {z : AV} : ∀ {n : Nat},repC z n k ↔ k (List.replicate n z)
 | 0=>Iff.rfl
 | n + 1=>by simp only [repC]; exact repC_iff

theorem beqC_iff {a b : Nat} {k : Prop} : beqC a b k ↔ a = b ∧ k:=by
 unfold beqC
 cases h : Nat.beq a b with
 | true=>simp [Nat.eq_of_beq_eq_true h]
 | false=>simp [beq_false_ne h]

theorem valC_iff {A : AV} {k : Prop} : valC A k ↔ isVal A = true ∧ k:=by
 unfold valC
 cases isVal A <;> simp

def getP : AV → List Nat → Option AV
 | A,[]=>some A
 | .ag l,i :: p=>match l[i]? with | some x=>getP x p | none=>none
 | _,_ :: _=>none

theorem getPC_iff {k : AV → Prop} : ∀ {p : List Nat} {A : AV},getPC A p k ↔ ∃ x,getP A p = some x ∧ k x
 | [],A=>by simp [getPC,getP]
 | i :: p,A=>by
   cases A with
   | ag l =>
     simp only [getPC,getP,nthC_iff]
     constructor
     ·rintro ⟨x,h1,h2⟩
      obtain ⟨y,h3,h4⟩:=getPC_iff.1 h2
      exact ⟨y,by simp only [h1]; exact h3,h4⟩
     ·rintro ⟨y,h3,h4⟩
      cases hx : l[i]? with
      | none=>simp [hx] at h3
      | some x=>simp only [hx] at h3; exact ⟨x,rfl,getPC_iff.2 ⟨y,h3,h4⟩⟩
   | _=>simp [getPC,getP]

theorem VRL_split {c : Cx} : ∀ {l : List AV} {cs : List Value} {i : Nat} {x : AV},VRL c l cs → l[i]? = some x →
  ∃ pre xs post,cs = pre ++ xs ++ post ∧ pre.length = flatL (l.take i) ∧ VR c x xs ∧ ∀ y ys,VR c y ys → VRL c (l.set i y) (pre ++ ys ++ post)
 | [],_,_,_,_,h=>by simp at h
 | z :: l,cs,0,x,hr,h=>by
   simp only [VRL] at hr
   obtain ⟨a,d,rfl,h2,h3⟩:=hr
   obtain rfl : z = x:=by simpa using h
   refine ⟨[],a,d,by simp,by simp [flatL],h2,fun y ys hy=>?_⟩
   simp only [List.nil_append,List.set_cons_zero,VRL]
   exact ⟨ys,d,rfl,hy,h3⟩
 | z :: l,cs,i + 1,x,hr,h=>by
   simp only [VRL] at hr
   obtain ⟨a,d,rfl,h2,h3⟩:=hr
   obtain ⟨pre,xs,post,rfl,h5,h6,h7⟩:=VRL_split h3 (by simpa using h : l[i]? = some x)
   refine ⟨a ++ pre,xs,post,by simp,by simp [flatL,VR_length _ _ h2,h5],h6,fun y ys hy=>?_⟩
   simp only [List.set_cons_succ,VRL]
   exact ⟨a,pre ++ ys ++ post,by simp,h2,h7 y ys hy⟩

theorem VR_getP {c : Cx} : ∀ {p : List Nat} {A x : AV} {cs : List Value},VR c A cs → getP A p = some x →
  ∃ pre xs post,cs = pre ++ xs ++ post ∧ pre.length = offP A p ∧ VR c x xs
 | [],A,x,cs,hr,h=>by
   obtain rfl : A = x:=by simpa [getP] using h
   exact ⟨[],cs,[],by simp,by cases A <;> simp [offP],hr⟩
 | i :: p,A,x,cs,hr,h=>by
   cases A with
   | ag l =>
     simp only [getP] at h
     cases hx : l[i]? with
     | none=>simp [hx] at h
     | some y =>
       simp only [hx] at h
       simp only [VR] at hr
       obtain ⟨pre,ys,post,rfl,h2,h3,_⟩:=VRL_split hr hx
       obtain ⟨pre',xs,post',rfl,h5,h6⟩:=VR_getP h3 h
       exact ⟨pre ++ pre',xs,post' ++ post,by simp,by simp only [List.length_append,offP,hx,h2,h5],h6⟩
   | _=>simp [getP] at h

theorem setPC_sound {c : Cx} {k : AV → Prop} {B : AV} {bs : List Value} (hB : VR c B bs) : ∀ {p : List Nat} {A : AV} {cs : List Value},VR c A cs → setPC A p B k →
  ∃ A' x pre xs post,getP A p = some x ∧ cs = pre ++ xs ++ post ∧ pre.length = offP A p ∧ VR c x xs ∧ VR c A' (pre ++ bs ++ post) ∧ k A'
 | [],A,cs,hr,h=>by
   have h' : k B:=by cases A <;> simpa [setPC] using h
   exact ⟨B,A,[],cs,[],by simp [getP],by simp,by cases A <;> simp [offP],hr,by simpa using hB,h'⟩
 | i :: p,A,cs,hr,h=>by
   cases A with
   | ag l =>
     simp only [setPC,nthC_iff] at h
     obtain ⟨x,hx,h⟩:=h
     simp only [VR] at hr
     obtain ⟨pre,ys,post,rfl,h2,h3,h4⟩:=VRL_split hr hx
     obtain ⟨x',z,pre',xs,post',h5,rfl,h7,h8,h9,h10⟩:=setPC_sound hB h3 h
     have h11:=setNthC_iff h10
     refine ⟨.ag (l.set i x'),z,pre ++ pre',xs,post' ++ post,by simp only [getP,hx,h5],by simp,by simp only [List.length_append,offP,hx,h2,h7],h8,?_,h11.2⟩
     simp only [VR]
     have:=h4 x' _ h9
     simpa using this
   | _=>simp [setPC] at h

theorem VR_oneCell_single {c : Cx} {A : AV} {cs : List Value} (h : VR c A cs) (hA : isAg A = false) : ∀ u ∈ cs,u.oneCell' = true:=by
 cases A with
 | ag l=>simp [isAg] at hA
 | dec p=>simp only [VR,Rd] at h; obtain ⟨b,rfl,_⟩:=h; simp [Value.oneCell']
 | sl sz l tok =>
   cases tok with
   | no=>simp only [VR,Rd] at h; obtain ⟨_,⟨_,rfl⟩ | ⟨a,cap,rfl,_⟩⟩:=h <;> simp [Value.oneCell']
   | full=>simp only [VR,Rd] at h; obtain ⟨⟨_,⟨_,rfl⟩ | ⟨a,cap,rfl,_⟩⟩,_⟩:=h <;> simp [Value.oneCell']
   | own k=>simp only [VR,Rd] at h; obtain ⟨_,⟨_,⟨_,rfl⟩ | ⟨a,cap,rfl,_⟩⟩,_⟩:=h <;> simp [Value.oneCell']
 | ifc t x=>simp only [VR] at h; obtain ⟨v,rfl,_⟩:=h; simp [Value.oneCell']
 | cp x=>simp only [VR,Rd] at h; obtain ⟨a,ds,rfl,_⟩:=h; simp [Value.oneCell']
 | fn f cap=>simp only [VR] at h; obtain ⟨vs,rfl,_⟩:=h; simp [Value.oneCell']
 | tup l=>simp only [VR,Rd] at h
 | und=>simp only [VR,Rd] at h
 | ptr=>simp only [VR] at h; obtain ⟨_,rfl⟩:=h; simp [Value.oneCell']
 | ms=>simp only [VR] at h; obtain ⟨_,rfl,_⟩:=h; simp [Value.oneCell']
 | mp=>simp only [VR] at h; obtain ⟨_,rfl⟩:=h; simp [Value.oneCell']
 | gs=>simp only [VR] at h; obtain ⟨_,⟨_,_,_,rfl⟩,_⟩:=h; simp [Value.oneCell']
 | bm=>simp only [VR] at h; obtain ⟨_,rfl⟩:=h; simp [Value.oneCell']
 | int=>simp only [VR,Rd] at h; obtain ⟨rfl,_⟩:=h; simp [Value.oneCell']
 | str=>simp only [VR,Rd] at h; obtain ⟨rfl,_⟩:=h; simp [Value.oneCell']
 | _=>simp only [VR,Rd] at h; subst h; simp [Value.oneCell']

mutual
theorem VR_oneCell {c : Cx} : ∀ (A : AV) (cs : List Value),VR c A cs → ∀ u ∈ cs,u.oneCell' = true
 | .ag l,cs,h=>by simp only [VR] at h; exact VRL_oneCell l cs h
 | .bool _,_,h=>VR_oneCell_single h rfl
 | .tt,_,h=>VR_oneCell_single h rfl
 | .ff,_,h=>VR_oneCell_single h rfl
 | .dec _,_,h=>VR_oneCell_single h rfl
 | .int _ _,_,h=>VR_oneCell_single h rfl
 | .str _,_,h=>VR_oneCell_single h rfl
 | .nilI,_,h=>VR_oneCell_single h rfl
 | .ifc _ _,_,h=>VR_oneCell_single h rfl
 | .nils,_,h=>VR_oneCell_single h rfl
 | .sl _ _ _,_,h=>VR_oneCell_single h rfl
 | .ms _ _ _ _ _,_,h=>VR_oneCell_single h rfl
 | .tup _,_,h=>VR_oneCell_single h rfl
 | .ptr _ _ _,_,h=>VR_oneCell_single h rfl
 | .cp _,_,h=>VR_oneCell_single h rfl
 | .nilp,_,h=>VR_oneCell_single h rfl
 | .fn _ _,_,h=>VR_oneCell_single h rfl
 | .nilf,_,h=>VR_oneCell_single h rfl
 | .mp _,_,h=>VR_oneCell_single h rfl
 | .gs _ _,_,h=>VR_oneCell_single h rfl
 | .bm _ _,_,h=>VR_oneCell_single h rfl
 | .nilm,_,h=>VR_oneCell_single h rfl
 | .und,_,h=>VR_oneCell_single h rfl
theorem VRL_oneCell {c : Cx} : ∀ (l : List AV) (cs : List Value),VRL c l cs → ∀ u ∈ cs,u.oneCell' = true
 | [],_,h=>by simp only [VRL] at h; subst h; simp
 | x :: l,cs,h=>by
   simp only [VRL] at h
   obtain ⟨a,d,rfl,h2,h3⟩:=h
   intro u hu
   rcases List.mem_append.1 hu with hu | hu
   ·exact VR_oneCell x a h2 u hu
   ·exact VRL_oneCell l d h3 u hu
end

section
variable {P : Program} {t : Nat} {i : TI}

theorem TIOk.under (h : TIOk P t i) : ∃ d,P.underlying t = some d ∧ descOf P d = i.desc:=by
 have:=h.desc
 cases hd : P.underlying t with
 | none=>simp [hd] at this
 | some d=>simp [hd] at this; exact ⟨d,rfl,this⟩

theorem TIOk.run_isAgg (h : TIOk P t i) (w : World) : (isAgg t).run P w = .ok (isAg i.zero) w:=by
 obtain ⟨d,h1,h2⟩:=h.under
 rw [← h.agg,← h2]
 unfold isAgg
 simp only [Sem.run_bind,run_underlying h1,Result.andThen_ok]
 cases d <;> rfl

theorem TIOk.run_size (h : TIOk P t i) (w : World) : (sizeOf t).run P w = .ok (flat i.zero) w:=by
 obtain ⟨x,v,h1,h2,_⟩:=h.info
 unfold sizeOf typeInfo
 simp [h1,h2]

theorem TIOk.run_zero (h : TIOk P t i) (w : World) : ∃ v,(zeroValue t).run P w = .ok v w ∧ shapeV i.zero v ∧ ∀ w Im,Rd w Im i.zero v.cells.toList:=by
 obtain ⟨x,v,h1,h2,h3,h4,h5,h6⟩:=h.info
 refine ⟨v,?_,h5,h6⟩
 unfold zeroValue typeInfo
 simp [h1,h4]
end

theorem chkT_sound {P : Program} {L : Lay} {t : Nat} {x : AV} {k : Prop} (hL : LayOk P L) (h : chkT L t x k) :
  isVal x = true ∧ ∃ i,TIOk P t i ∧ flat x = flat i.zero ∧ isAg x = isAg i.zero ∧ k:=by
 unfold chkT at h
 obtain ⟨hv,h⟩:=valC_iff.1 h
 refine ⟨hv,?_⟩
 obtain ⟨i,hi,h⟩:=Lay.getC_ok hL h
 refine ⟨i,hi,?_⟩
 cases hb : Nat.beq (flat x) (flat i.zero) with
 | false=>simp [hb] at h
 | true =>
   simp only [hb] at h
   refine ⟨Nat.eq_of_beq_eq_true hb,?_⟩
   cases h1 : isAg x <;> cases h2 : isAg i.zero <;> simp [h1,h2] at h ⊢ <;> exact h

theorem run_loadVar {P : Program} {c : Cx} {t : Nat} {i : TI} {x : AV} {cs : List Value} {b off : Nat} (hT : TIOk P t i) (hf : flat x = flat i.zero) (ha : isAg x = isAg i.zero)
  (hr : VR c x cs) (hc : ∀ j v,cs[j]? = some v → c.w.cell? ⟨b,off + j,none⟩ = some v) : (loadVar t ⟨b,off,none⟩).run P c.w = .ok (mkV x cs) c.w:=by
 unfold loadVar
 simp only [Sem.run_bind,hT.run_isAgg,Result.andThen_ok]
 cases hz : isAg i.zero with
 | true =>
   have hl : cs.length = flat i.zero:=(VR_length _ _ hr).trans hf
   have:=run_loadCells_list (P:=P) c.w ⟨b,off,none⟩ cs (fun j v hj=>by
    have:=hc j v hj
    unfold Addr.add; split
    ·rename_i h0; subst h0; simpa using this
    ·simpa using this)
   simp only [if_true,Sem.run_bind,hT.run_size,Result.andThen_ok,← hl,this,Sem.run_pure]
   rw [hz] at ha
   cases x <;> simp [isAg] at ha
   rfl
 | false =>
   obtain ⟨v,rfl,hv⟩:=VR_shape hr (by rw [ha,hz])
   have:=hc 0 v rfl
   simp only [Nat.add_zero] at this
   simp only [Bool.false_eq_true,if_false,run_load,this]
   rw [hz] at ha
   have : mkV x [v] = v:=by cases x <;> simp [isAg] at ha <;> rfl
   rw [this]

theorem run_storeVar {P : Program} {w : World} {t : Nat} {i : TI} {v : Value} {b off : Nat} {cur : Array Value} {ty : Nat} (hT : TIOk P t i) (hf : v.cells.size = flat i.zero)
  (hg : w.heap[b]? = some (.cells cur ty)) (hl : off + v.cells.size ≤ cur.size) (h1 : ∀ u ∈ v.cells.toList,u.oneCell' = true) :
  (storeVar t ⟨b,off,none⟩ v).run P w = .ok () (w.setRow b (cur.toList.take off ++ v.cells.toList ++ cur.toList.drop (off + v.cells.size)).toArray):=by
 unfold storeVar
 have:=run_storeCells_at P b off ty v.cells.toList 0 cur w hg (by simpa using hl) h1
 simp only [Nat.add_zero,Array.length_toList] at this
 simp only [Sem.run_bind,hT.run_size,Result.andThen_ok,hf,ne_eq,not_true_eq_false,if_false]
 rw [hf] at this
 exact this

theorem cell_of_heap {w : World} {b o : Nat} {cs : Array Value} {ty : Nat} {fr : Nat × Nat} (h : w.heap[b]? = some (.cells cs ty fr)) : w.cell? ⟨b,o,none⟩ = cs[o]?:=by
 simp [World.cell?,h]

theorem EV_val {c : Cx} {A : AV} {v : Value} (h : EV c A v) (hv : isVal A = true) : VV c A v:=by
 cases A <;> first | exact h | (simp [isVal] at hv)

end Go.AL

namespace Go.AL

theorem VRE_mono {c d : Cx} (h : c.Le d) {sz : Nat} : ∀ {l : List AV} {cs : List Value},VRE c sz l cs → VRE d sz l cs
 | [],_,_=>trivial
 | x :: l,cs,hr=>by
   obtain ⟨a,e,h1,h2,h3,h4⟩:=hr
   exact ⟨a,e,h1,h2,Rd_mono h.im _ _ h3,VRE_mono h h4⟩

theorem VRM_mono {c d : Cx} (h : c.Le d) : ∀ {l : List (AV × AV)} {es : List MapEntry},VRM c l es → VRM d l es
 | [],_,hr=>hr
 | (x,y) :: l,es,hr=>by
   obtain ⟨e,r,h1,h2,h3,h4⟩:=hr
   exact ⟨e,r,h1,VV_mono h h2,VV_mono h h3,VRM_mono h h4⟩

theorem HOk_mono {c d : Cx} (h : c.Le d) {k : Nat} {o : HO} (hk : k < c.nx) (ht : d.tk k = c.tk k)
  (hb : ∀ b,blkOf c (k,o) = some b → d.w.heap[b]? = c.w.heap[b]? ∧ ∀ x,d.Im b x → c.Im b x) (ho : o.Ok c k) : o.Ok d k:=by
 cases o with
 | box A =>
   obtain ⟨cs,ty,h1,h2,h3⟩:=ho
   have:=hb (c.ρ k) rfl
   refine ⟨cs,ty,?_,VR_mono h _ _ h2,?_⟩
   ·rw [h.ρ k hk,this.1,h1]
   ·rw [h.ρ k hk]; exact fun x hx=>h3 x (this.2 x hx)
 | arr sz cap l =>
   obtain ⟨cs,ty,h1,h2,h3,h4,h5,h6⟩:=ho
   have:=hb (c.ρ k) rfl
   refine ⟨cs,ty,?_,h2,h3,h4,VRE_mono h h5,?_⟩
   ·rw [h.ρ k hk,this.1,h1]
   ·rw [h.ρ k hk]; exact fun x hx=>h6 x (this.2 x hx)
 | tok sz top =>
   simp only [HO.Ok,ht] at ho ⊢
   by_cases he : (c.tk k).2 = top
   ·exact .inl he
   ·rcases ho with ho | ⟨b,cs,ty,h1,h2,h3,h4,h5,h6⟩
    ·exact .inl ho
    ·have:=hb b (by simp [blkOf,he,h1])
     exact .inr ⟨b,cs,ty,h1,by rw [this.1,h2],h3,h4,h5,fun x hx hi=>h6 x hx (this.2 x hi)⟩
 | amap sh es =>
   obtain ⟨ents,clock,h1,h2,h3⟩:=ho
   have:=hb (c.ρ k) rfl
   refine ⟨ents,clock,?_,VRM_mono h h2,h3⟩
   rw [h.ρ k hk,this.1,h1]
 | wtok sz l =>
   simp only [HO.Ok,ht] at ho ⊢
   rcases ho with ho | ⟨b,cs,ty,h1,h2,h3,h4,h5,h6,h7⟩
   ·exact .inl ho
   ·have:=hb b (by simp [blkOf,h1])
    exact .inr ⟨b,cs,ty,h1,by rw [this.1,h2],h3,h4,h5,VRE_mono h h6,fun x hx=>h7 x (this.2 x hx)⟩
 | gone=>trivial

theorem HOk_lt {c : Cx} {k : Nat} {o : HO} (ho : o.Ok c k) {b : Nat} (hb : blkOf c (k,o) = some b) : b < c.w.heap.size:=by
 have key : ∀ {x : Obj},c.w.heap[b]? = some x → b < c.w.heap.size:=fun h=>(Array.getElem?_eq_some_iff.1 h).1
 cases o with
 | box A=>obtain ⟨cs,ty,h1,_⟩:=ho; simp [blkOf] at hb; subst hb; exact key h1
 | arr sz cap l=>obtain ⟨cs,ty,h1,_⟩:=ho; simp [blkOf] at hb; subst hb; exact key h1
 | tok sz top =>
   simp only [blkOf] at hb
   split at hb
   ·simp at hb
   ·rcases ho with ho | ⟨b',cs,ty,h1,h2,_⟩
    ·contradiction
    ·simp [h1] at hb; subst hb; exact key h2
 | amap sh es=>obtain ⟨ents,clock,h1,_⟩:=ho; simp [blkOf] at hb; subst hb; exact key h1
 | wtok sz l =>
   rcases ho with ⟨h1,_⟩ | ⟨b',cs,ty,h1,h2,_⟩
   ·simp [blkOf,h1] at hb
   ·simp [blkOf,h1] at hb; subst hb; exact key h2
 | gone=>simp [blkOf] at hb

theorem HR.blk_lt {c : Cx} {H : Heap} (h : HR c H) {x : Nat × HO} (hx : x ∈ H) {b : Nat} (hb : blkOf c x = some b) : b < c.w.heap.size :=
 HOk_lt (h.ok x hx) hb

theorem blkOf_same {c d : Cx} {x : Nat × HO} (hρ : d.ρ x.1 = c.ρ x.1) (ht : d.tk x.1 = c.tk x.1) : blkOf d x = blkOf c x:=by
 unfold blkOf; rw [hρ,ht]

theorem pairwise_mem {α : Type} {R : α → α → Prop} : ∀ {l : List α},l.Pairwise R → ∀ {S : α → α → Prop},(∀ x ∈ l,∀ y ∈ l,R x y → S x y) → l.Pairwise S
 | [],_,_,_=>.nil
 | x :: l,h,S,hS=>by
   rw [List.pairwise_cons] at h ⊢
   exact ⟨fun y hy=>hS x (by simp) y (by simp [hy]) (h.1 y hy),pairwise_mem h.2 fun a ha b hb=>hS a (by simp [ha]) b (by simp [hb])⟩

theorem Tr.keep {c d : Cx} {H : Heap} (hr : HR c H) (le : c.Le d) (hnx : d.nx = c.nx) (htp : d.tp = c.tp) (htk : d.tk = c.tk)
  (os : d.w.os = c.w.os) (tape : d.w.tape = c.w.tape) (output : d.w.output = c.w.output) (size : c.w.heap.size ≤ d.w.heap.size)
  (fr : ∀ b,b < c.w.heap.size → d.w.heap[b]? = c.w.heap[b]?) (im : ∀ b o,d.Im b o → c.Im b o ∨ (c.w.heap.size ≤ b ∧ b < d.w.heap.size)) : Tr c H d H:=by
 have hbk : ∀ x ∈ H,blkOf d x = blkOf c x:=fun x hx=>blkOf_same (le.ρ _ (by rw [hr.nx]; exact ids_lt_next hr.ids x hx)) (by rw [htk])
 refine ⟨⟨hnx.trans hr.nx,htp.trans hr.tp,hr.ids,fun b o h=>?_,fun x hx=>?_,?_⟩,le,os,tape,output,size,fun b hb _=>fr b hb,fun y hy b hb=>.inr ⟨y,hy,by rw [← hbk y hy]; exact hb⟩,fun b o h=>(im b o h).imp id (fun h=>.inl h.1)⟩
 ·rcases im b o h with h | h
  ·have:=hr.im b o h; omega
  ·exact h.2
 ·refine HOk_mono le (by rw [hr.nx]; exact ids_lt_next hr.ids x hx) (by rw [htk]) (fun b hb=>?_) (hr.ok x hx)
  have hlt:=hr.blk_lt hx hb
  exact ⟨fr b hlt,fun o ho=>(im b o ho).resolve_right (by omega)⟩
 ·exact pairwise_mem hr.apart fun x hx y hy h b hb=>by rw [hbk y hy]; rw [hbk x hx] at hb; exact h b hb

def Cx.alloc (c : Cx) (o : Obj) : Cx:={ c with w:=c.w.alloc o,Im:=fun b x=>c.Im b x ∨ b = c.w.heap.size }

theorem alloc_heap_old (w : World) (o : Obj) {b : Nat} (h : b < w.heap.size) : (w.alloc o).heap[b]? = w.heap[b]?:=by
 show (w.heap.push o)[b]? = _
 rw [Array.getElem?_push,if_neg (by omega)]
theorem alloc_heap_new (w : World) (o : Obj) : (w.alloc o).heap[w.heap.size]? = some o:=by
 show (w.heap.push o)[_]? = _
 simp

theorem cell_same {w w' : World} {b o : Nat} (h : w'.heap[b]? = w.heap[b]?) : w'.cell? ⟨b,o,none⟩ = w.cell? ⟨b,o,none⟩:=by
 simp [World.cell?,h]

theorem Tr.alloc {c : Cx} {H : Heap} (hr : HR c H) (o : Obj) : Tr c H (c.alloc o) H:=by
 refine Tr.keep hr ⟨fun b x h=>⟨.inl h,?_⟩,Nat.le_refl _,fun _ _=>rfl,fun _ _ _ h=>.inl ⟨h,rfl⟩⟩ rfl rfl rfl rfl rfl rfl (by simp [Cx.alloc]) (fun b hb=>alloc_heap_old _ _ hb) (fun b x h=>?_)
 ·exact cell_same (alloc_heap_old _ _ (hr.im b x h))
 ·rcases h with h | h
  ·exact .inl h
  ·subst h; exact .inr ⟨Nat.le_refl _,by simp [Cx.alloc]⟩

theorem Tr.drew {c : Cx} {H : Heap} (hr : HR c H) : Tr c H { c with w:=c.w.drew } H :=
 Tr.keep hr ⟨fun _ _ h=>⟨h,rfl⟩,Nat.le_refl _,fun _ _=>rfl,fun _ _ _ h=>.inl ⟨h,rfl⟩⟩ rfl rfl rfl rfl rfl rfl (Nat.le_refl _) (fun _ _=>rfl) (fun _ _ h=>.inl h)

def Cx.push (c : Cx) (o : Obj) (H : Heap) : Cx :=
 { c with w:=c.w.alloc o,ρ:=fun k=>if k = c.nx then c.w.heap.size else c.ρ k,nx:=c.nx + 1,tp:=tpOf H }

theorem tpOf_cons_ne {H : Heap} {i k : Nat} {o : HO} (h : i ≠ k) : tpOf ((i,o) :: H) k = tpOf H k:=by
 unfold tpOf
 simp only [hget]
 cases hb : Nat.beq i k with
 | true=>exact absurd (Nat.eq_of_beq_eq_true hb) h
 | false=>rfl

theorem tpOf_cons_eq {H : Heap} {i : Nat} {o : HO} : tpOf ((i,o) :: H) i = (match o with | .tok _ n=>some n | .wtok _ l=>some l.length | _=>none):=by
 unfold tpOf
 simp only [hget,Nat.beq_refl]
 cases o <;> rfl

theorem push_le {c : Cx} {H : Heap} (hr : HR c H) (o : Obj) (ho : HO) : c.Le (c.push o ((nextId H,ho) :: H)):=by
 refine ⟨fun b x h=>⟨h,cell_same (alloc_heap_old _ _ (hr.im b x h))⟩,Nat.le_succ _,fun k hk=>?_,fun k n hk hn=>?_⟩
 ·simp only [Cx.push]; rw [if_neg (by omega)]
 ·refine .inl ⟨?_,rfl⟩
  have : nextId H ≠ k:=by rw [← hr.nx]; omega
  simp only [Cx.push] at hn
  rw [tpOf_cons_ne this] at hn
  rw [hr.tp]; exact hn

theorem push_ρ {c : Cx} {H : Heap} (hr : HR c H) (o : Obj) (G : Heap) : (c.push o G).ρ (nextId H) = c.w.heap.size:=by simp only [Cx.push]; rw [if_pos hr.nx.symm]

theorem Tr.push {c : Cx} {H : Heap} (hr : HR c H) (o : Obj) (ho : HO) (hblk : ∀ d : Cx,blkOf d (nextId H,ho) = some (d.ρ (nextId H)))
  (hok : ho.Ok (c.push o ((nextId H,ho) :: H)) (nextId H)) : Tr c H (c.push o ((nextId H,ho) :: H)) ((nextId H,ho) :: H):=by
 have hlt : ∀ x ∈ H,x.1 < c.nx:=fun x hx=>by rw [hr.nx]; exact ids_lt_next hr.ids x hx
 have le:=push_le hr o ho
 have hbk : ∀ x ∈ H,blkOf (c.push o ((nextId H,ho) :: H)) x = blkOf c x:=fun x hx=>blkOf_same (le.ρ _ (hlt x hx)) rfl
 have hρ : (c.push o ((nextId H,ho) :: H)).ρ (nextId H) = c.w.heap.size:=by simp only [Cx.push]; rw [if_pos hr.nx.symm]
 refine ⟨⟨?_,rfl,?_,?_,?_,?_⟩,le,rfl,rfl,rfl,by simp [Cx.push],fun b hb _=>alloc_heap_old _ _ hb,?_,fun b x h=>.inl h⟩
 ·simp only [Cx.push,nextId,hr.nx]
 ·exact ⟨fun x hx=>ids_lt_next hr.ids x hx,hr.ids⟩
 ·intro b x h
  have:=hr.im b x h
  simp only [Cx.push,World.size_alloc]; omega
 ·intro x hx
  rcases List.mem_cons.1 hx with rfl | hx
  ·exact hok
  ·refine HOk_mono le (hlt x hx) rfl (fun b hb=>?_) (hr.ok x hx)
   exact ⟨alloc_heap_old _ _ (hr.blk_lt hx hb),fun y hy=>hy⟩
 ·rw [List.pairwise_cons]
  constructor
  ·intro y hy b hb hb'
   rw [hblk,hρ] at hb
   rw [hbk y hy] at hb'
   have:=hr.blk_lt hy hb'
   simp at hb; omega
  ·exact pairwise_mem hr.apart fun x hx y hy h b hb=>by rw [hbk y hy]; rw [hbk x hx] at hb; exact h b hb
 ·intro y hy b hb
  rcases List.mem_cons.1 hy with rfl | hy
  ·rw [hblk,hρ] at hb; simp at hb; exact .inl (by omega)
  ·rw [hbk y hy] at hb; exact .inr ⟨y,hy,hb⟩

end Go.AL

namespace Go.AL

theorem pairwise_of_ids {R : Nat × HO → Nat × HO → Prop} : ∀ {H : Heap},idsOk H → (∀ x ∈ H,∀ y ∈ H,x.1 ≠ y.1 → R x y) → H.Pairwise R
 | [],_,_=>.nil
 | (i,o) :: H,hi,h=>by
   simp only [idsOk] at hi
   rw [List.pairwise_cons]
   exact ⟨fun y hy=>h _ (by simp) y (by simp [hy]) (by have:=hi.1 y hy; simp; omega),pairwise_of_ids hi.2 fun x hx y hy=>h x (by simp [hx]) y (by simp [hy])⟩

theorem pairwise_get {R : Nat × HO → Nat × HO → Prop} (hs : ∀ x y,R x y → R y x) : ∀ {H : Heap},H.Pairwise R → ∀ x ∈ H,∀ y ∈ H,x.1 ≠ y.1 → R x y
 | [],_,x,hx,_,_,_=>by simp at hx
 | z :: H,h,x,hx,y,hy,hn=>by
   rw [List.pairwise_cons] at h
   rcases List.mem_cons.1 hx with ex | ex <;> rcases List.mem_cons.1 hy with ey | ey
   ·subst ex; subst ey; exact absurd rfl hn
   ·subst ex; exact h.1 y ey
   ·subst ey; exact hs _ _ (h.1 x ex)
   ·exact pairwise_get hs h.2 x ex y ey hn

theorem HR.apart' {c : Cx} {H : Heap} (h : HR c H) {x y : Nat × HO} (hx : x ∈ H) (hy : y ∈ H) (hn : x.1 ≠ y.1) {b : Nat} (hb : blkOf c x = some b) : blkOf c y ≠ some b :=
 pairwise_get (R:=fun x y=>∀ b,blkOf c x = some b → blkOf c y ≠ some b) (fun _ _ h b hb hb'=>h b hb' hb) h.apart x hx y hy hn b hb

theorem mem_hset : ∀ {H : Heap} {k : Nat} {o' : HO} {x : Nat × HO},idsOk H → x ∈ hset H k o' → x = (k,o') ∨ (x ∈ H ∧ x.1 ≠ k)
 | [],_,_,_,_,h=>by simp [hset] at h
 | (i,o) :: H,k,o',x,hi,h=>by
   simp only [idsOk] at hi
   simp only [hset] at h
   cases hb : Nat.beq i k with
   | true =>
     have e:=Nat.eq_of_beq_eq_true hb
     rw [hb] at h
     rcases List.mem_cons.1 h with h | h
     ·exact .inl (by rw [h,e])
     ·exact .inr ⟨List.mem_cons_of_mem _ h,by have:=hi.1 x h; omega⟩
   | false =>
     rw [hb] at h
     rcases List.mem_cons.1 h with h | h
     ·exact .inr ⟨by rw [h]; exact List.mem_cons_self,by rw [h]; exact beq_false_ne hb⟩
     ·exact (mem_hset hi.2 h).imp id fun h=>⟨List.mem_cons_of_mem _ h.1,h.2⟩

theorem mem_hset_ids : ∀ {H : Heap} {k : Nat} {o' : HO} {x : Nat × HO},x ∈ hset H k o' → ∃ y ∈ H,y.1 = x.1
 | [],_,_,_,h=>by simp [hset] at h
 | (i,o) :: H,k,o',x,h=>by
   simp only [hset] at h
   cases hb : Nat.beq i k with
   | true =>
     rw [hb] at h
     rcases List.mem_cons.1 h with rfl | h
     ·exact ⟨(i,o),List.mem_cons_self,rfl⟩
     ·exact ⟨x,List.mem_cons_of_mem _ h,rfl⟩
   | false =>
     rw [hb] at h
     rcases List.mem_cons.1 h with rfl | h
     ·exact ⟨(i,o),List.mem_cons_self,rfl⟩
     ·obtain ⟨y,hy,he⟩:=mem_hset_ids h; exact ⟨y,by simp [hy],he⟩

theorem idsOk_hset : ∀ {H : Heap} {k : Nat} {o' : HO},idsOk H → idsOk (hset H k o')
 | [],_,_,h=>h
 | (i,o) :: H,k,o',h=>by
   simp only [idsOk] at h
   simp only [hset]
   cases Nat.beq i k with
   | true=>exact ⟨h.1,h.2⟩
   | false =>
     refine ⟨fun x hx=>?_,idsOk_hset h.2⟩
     obtain ⟨y,hy,he⟩:=mem_hset_ids hx
     have:=h.1 y hy; omega

theorem nextId_hset : ∀ {H : Heap} {k : Nat} {o' : HO},nextId (hset H k o') = nextId H
 | [],_,_=>rfl
 | (i,o) :: H,k,o'=>by
   simp only [hset]
   cases Nat.beq i k <;> rfl

theorem hget_hset_ne : ∀ {H : Heap} {k j : Nat} {o' : HO},j ≠ k → hget (hset H k o') j = hget H j
 | [],_,_,_,_=>rfl
 | (i,o) :: H,k,j,o',h=>by
   simp only [hset]
   cases hb : Nat.beq i k with
   | true =>
     obtain rfl:=Nat.eq_of_beq_eq_true hb
     simp only [hget]
     cases hc : Nat.beq i j with
     | true=>exact absurd (Nat.eq_of_beq_eq_true hc).symm h
     | false=>rfl
   | false =>
     simp only [hget]
     cases Nat.beq i j with
     | true=>rfl
     | false=>exact hget_hset_ne h

theorem hget_hset_eq : ∀ {H : Heap} {k : Nat} {o o' : HO},hget H k = some o → hget (hset H k o') k = some o'
 | [],_,_,_,h=>by simp [hget] at h
 | (i,x) :: H,k,o,o',h=>by
   simp only [hset]
   cases hb : Nat.beq i k with
   | true=>simp only [hget]; rw [hb]
   | false =>
     simp only [hget] at h ⊢
     rw [hb] at h ⊢
     exact hget_hset_eq h

theorem Tr.set {c d : Cx} {H : Heap} {k : Nat} {o o' : HO} (hr : HR c H) (hk : hget H k = some o) (le : c.Le d) (hnx : d.nx = c.nx) (htp : d.tp = tpOf (hset H k o'))
  (htk : ∀ j,j ≠ k → d.tk j = c.tk j) (os : d.w.os = c.w.os) (tape : d.w.tape = c.w.tape) (output : d.w.output = c.w.output) (size : c.w.heap.size ≤ d.w.heap.size)
  (fr : ∀ b,b < c.w.heap.size → blkOf c (k,o) ≠ some b → d.w.heap[b]? = c.w.heap[b]?)
  (im : ∀ b x,d.Im b x → c.Im b x ∨ (c.w.heap.size ≤ b ∧ b < d.w.heap.size) ∨ blkOf c (k,o) = some b)
  (hblk : ∀ b,blkOf d (k,o') = some b → c.w.heap.size ≤ b ∨ blkOf c (k,o) = some b) (hok : o'.Ok d k) : Tr c H d (hset H k o'):=by
 have hkm:=hget_mem hk
 have hlt : ∀ x ∈ H,x.1 < c.nx:=fun x hx=>by rw [hr.nx]; exact ids_lt_next hr.ids x hx
 have hbk : ∀ x ∈ H,x.1 ≠ k → blkOf d x = blkOf c x:=fun x hx hn=>blkOf_same (le.ρ _ (hlt x hx)) (htk _ hn)
 refine ⟨⟨?_,htp,idsOk_hset hr.ids,?_,?_,?_⟩,le,os,tape,output,size,?_,?_,?_⟩
 ·rw [nextId_hset,hnx,hr.nx]
 ·intro b x h
  rcases im b x h with h | h | h
  ·have:=hr.im b x h; omega
  ·exact h.2
  ·have:=hr.blk_lt hkm h; omega
 ·intro x hx
  rcases mem_hset hr.ids hx with rfl | ⟨hx,hn⟩
  ·exact hok
  ·refine HOk_mono le (hlt x hx) (htk _ hn) (fun b hb=>?_) (hr.ok x hx)
   have hlt':=hr.blk_lt hx hb
   have hne : blkOf c (k,o) ≠ some b:=fun h=>hr.apart' hkm hx (fun e=>hn e.symm) h hb
   refine ⟨fr b hlt' hne,fun y hy=>?_⟩
   rcases im b y hy with h | h | h
   ·exact h
   ·omega
   ·exact absurd h hne
 ·refine pairwise_of_ids (idsOk_hset hr.ids) ?_
  intro x hx y hy hn b hb hb'
  rcases mem_hset hr.ids hx with rfl | ⟨hx,hxn⟩ <;> rcases mem_hset hr.ids hy with rfl | ⟨hy,hyn⟩
  ·exact hn rfl
  ·rw [hbk y hy hyn] at hb'
   rcases hblk b hb with h | h
   ·have:=hr.blk_lt hy hb'; omega
   ·exact hr.apart' hkm hy (fun e=>hyn e.symm) h hb'
  ·rw [hbk x hx hxn] at hb
   rcases hblk b hb' with h | h
   ·have:=hr.blk_lt hx hb; omega
   ·exact hr.apart' hkm hx (fun e=>hxn e.symm) h hb
  ·rw [hbk x hx hxn] at hb
   rw [hbk y hy hyn] at hb'
   exact hr.apart' hx hy hn hb hb'
 ·intro b hb hn
  exact fr b hb (hn _ hkm)
 ·intro y hy b hb
  rcases mem_hset hr.ids hy with rfl | ⟨hy,hyn⟩
  ·exact (hblk b hb).imp id fun h=>⟨_,hkm,h⟩
  ·rw [hbk y hy hyn] at hb; exact .inr ⟨y,hy,hb⟩
 ·intro b x h
  rcases im b x h with h | h | h
  ·exact .inl h
  ·exact .inr (.inl h.1)
  ·exact .inr (.inr ⟨_,hkm,h⟩)

theorem tpOf_hset_same {H : Heap} {k : Nat} {o o' : HO} (hk : hget H k = some o) (h1 : ∀ s n,o ≠ .tok s n) (h2 : ∀ s n,o' ≠ .tok s n)
  (h3 : ∀ s l,o ≠ .wtok s l:=by intros; simp) (h4 : ∀ s l,o' ≠ .wtok s l:=by intros; simp) : tpOf (hset H k o') = tpOf H:=by
 funext j
 unfold tpOf
 by_cases hj : j = k
 ·subst hj
  rw [hget_hset_eq hk,hk]
  cases o <;> cases o' <;> first | rfl | exact absurd rfl (h1 _ _) | exact absurd rfl (h2 _ _) | exact absurd rfl (h3 _ _) | exact absurd rfl (h4 _ _)
 ·rw [hget_hset_ne hj]

theorem Tr.write {c : Cx} {H : Heap} {k : Nat} {o o' : HO} {cur cs : Array Value} {ty : Nat} (hr : HR c H) (hk : hget H k = some o)
  (_hg : c.w.heap[c.ρ k]? = some (.cells cur ty)) (hb : ∀ d : Cx,blkOf d (k,o) = some (d.ρ k)) (hb' : ∀ d : Cx,blkOf d (k,o') = some (d.ρ k)) (him : ∀ x,¬ c.Im (c.ρ k) x)
  (h1 : ∀ s n,o ≠ .tok s n) (h2 : ∀ s n,o' ≠ .tok s n)
  (hok : o'.Ok { c with w:=c.w.setRow (c.ρ k) cs } k) : Tr c H { c with w:=c.w.setRow (c.ρ k) cs } (hset H k o'):=by
 have hother : ∀ b,b ≠ c.ρ k → (c.w.setRow (c.ρ k) cs).heap[b]? = c.w.heap[b]?:=fun b hb=>setRow_other c.w _ b _ hb
 refine Tr.set hr hk ⟨fun b x h=>⟨h,?_⟩,Nat.le_refl _,fun _ _=>rfl,fun _ _ _ h=>.inl ⟨h,rfl⟩⟩ rfl ?_ (fun _ _=>rfl) rfl rfl rfl (by simp [World.setRow]) (fun b hb' hn=>hother b ?_) (fun b x h=>.inl h) (fun b h=>.inr ?_) hok
 ·exact cell_same (hother b (fun e=>him x (e ▸ h)))
 ·rw [tpOf_hset_same hk h1 h2 (by rintro s l rfl; have:=hb { c with tk:=fun _=>(none,0) }; simp [blkOf] at this) (by rintro s l rfl; have:=hb' { c with tk:=fun _=>(none,0) }; simp [blkOf] at this)]; exact hr.tp
 ·intro e; exact hn (by rw [hb,e])
 ·rw [hb'] at h; rw [hb]; exact h

end Go.AL

namespace Go.AL

theorem nils_no {c : Cx} {s : Nat} {cs : List Value} (h : VR c .nils cs) : Rd c.w c.Im (.sl s [] .no) cs:=by
 simp only [VR,Rd] at h ⊢
 exact ⟨by simp [maxL],.inl ⟨trivial,h⟩⟩

theorem sl_no {c : Cx} {s : Nat} {l : List AV} {t : Tk} {cs : List Value} (h : VR c (.sl s l t) cs) : Rd c.w c.Im (.sl s l .no) cs:=by
 cases t with
 | no=>simpa only [VR] using h
 | full=>simp only [VR] at h; exact h.1
 | own k=>simp only [VR] at h; exact h.2.1

theorem leRL_length : ∀ {l m : List AV},leRL l m → l.length = m.length
 | [],[],_=>rfl
 | [],_ :: _,h=>by simp only [leRL] at h
 | _ :: _,[],h=>by simp only [leRL] at h
 | x :: l,y :: m,h=>by simp only [leRL] at h; simp [leRL_length h.2]

theorem leR_isAg {A B : AV} (h : leR A B) : isAg B = isAg A:=by
 cases A with
 | ag l=>cases B <;> simp only [leR] at h <;> first | rfl | cases h
 | sl s l t=>cases B <;> first | rfl | (cases t <;> simp only [leR] at h <;> cases h)
 | _=>cases B <;> first | rfl | (simp only [leR] at h; cases h)

theorem le0_isAg {A B : AV} (h : le0 A B) : isAg B = isAg A:=by
 cases A with
 | ag l=>cases B <;> simp only [le0] at h <;> first | rfl | cases h
 | sl s l t=>cases B <;> first | rfl | (cases t <;> simp only [le0] at h <;> cases h)
 | _=>cases B <;> first | rfl | (simp only [le0] at h; cases h)

theorem shapeV_ag {A B : AV} {v : Value} (h : isAg B = isAg A) (hs : shapeV A v) : shapeV B v:=by
 unfold shapeV at *; rw [h]; exact hs

set_option maxHeartbeats 1600000 in
theorem leR_plain {w : World} {Im : Nat → Nat → Prop} {A B : AV} {cs : List Value} (h1 : ∀ l,A ≠ .ag l) (h2 : ∀ t x,A ≠ .ifc t x) (h3 : ∀ s l t,A ≠ .sl s l t) (h : leR A B) (hr : Rd w Im A cs) : Rd w Im B cs:=by
 cases A with
 | ag l=>exact absurd rfl (h1 l)
 | ifc t x=>exact absurd rfl (h2 t x)
 | sl s l t=>exact absurd rfl (h3 s l t)
 | nils =>
   cases B with
   | sl s' l' t' =>
     cases t' with
     | no=>simp only [leR] at h; subst h; simp only [Rd] at hr ⊢; exact ⟨by simp [maxL],.inl ⟨trivial,hr⟩⟩
     | full=>simp only [leR] at h; cases h
     | own k=>simp only [leR] at h; cases h
   | nils=>exact hr
   | _=>simp only [leR] at h; cases h
 | tt =>
   cases B <;> simp only [leR] at h <;> first
    | exact hr
    | (subst h; exact hr)
    | (cases h; done)
    | (simp only [Rd] at hr ⊢; exact ⟨true,hr,by simpa using h⟩)
 | ff =>
   cases B <;> simp only [leR] at h <;> first
    | exact hr
    | (subst h; exact hr)
    | (cases h; done)
    | (simp only [Rd] at hr ⊢; exact ⟨false,hr,by simpa using h⟩)
 | bool x =>
   cases B <;> simp only [leR] at h <;> first
    | (subst h; exact hr)
    | (cases h; done)
    | (simp only [Rd] at hr ⊢; exact ⟨x,hr,h⟩)
 | dec p =>
   cases B with
   | bool b =>
     simp only [leR] at h
     simp only [Rd] at hr ⊢
     obtain ⟨b',h1,h2⟩:=hr
     rw [h1,Bool.eq_iff_iff.2 (h2.trans h)]
   | dec q =>
     simp only [leR] at h
     simp only [Rd] at hr ⊢
     obtain ⟨b',h1,h2⟩:=hr
     exact ⟨b',h1,h2.trans h⟩
   | tt =>
     simp only [leR] at h
     simp only [Rd] at hr ⊢
     obtain ⟨b',h1,h2⟩:=hr
     rw [h1,h2.2 h]
   | ff =>
     simp only [leR] at h
     simp only [Rd] at hr ⊢
     obtain ⟨b',h1,h2⟩:=hr
     cases b' with
     | true=>exact absurd (h2.1 rfl) h
     | false=>exact h1
   | _=>simp only [leR] at h; cases h
 | int k n =>
   cases B with
   | int k' n'=>simp only [leR] at h; obtain ⟨rfl,rfl⟩:=h; exact hr
   | _=>simp only [leR] at h; cases h
 | str k =>
   cases B with
   | str k'=>simp only [leR] at h; subst h; exact hr
   | _=>simp only [leR] at h; cases h
 | _=>cases B <;> simp only [leR] at h <;> first | exact hr | (cases h; exact hr) | (cases h; done)

mutual
theorem leR_Rd {w : World} {Im : Nat → Nat → Prop} : ∀ (A B : AV) (cs : List Value),leR A B → Rd w Im A cs → Rd w Im B cs
 | .ag l,B,cs,h,hr=>by
   cases B with
   | ag m =>
     simp only [leR] at h
     simp only [Rd] at hr ⊢
     exact leRL_RdL l m cs h hr
   | _=>simp only [leR] at h; cases h
 | .ifc t x,B,cs,h,hr=>by
   cases B with
   | ifc t' y =>
     simp only [leR] at h
     simp only [Rd] at hr ⊢
     obtain ⟨rfl,h⟩:=h
     obtain ⟨v,h1,h2,h3⟩:=hr
     exact ⟨v,h1,shapeV_ag (leR_isAg h) h2,leR_Rd x y _ h h3⟩
   | _=>simp only [leR] at h; cases h
 | .sl s l .full,B,cs,h,hr=>by simp only [Rd] at hr
 | .sl s l (.own k),B,cs,h,hr=>by simp only [Rd] at hr
 | .sl s l .no,B,cs,h,hr=>by
   cases B with
   | sl s' l' t' =>
     cases t' with
     | no =>
       simp only [leR] at h
       obtain ⟨rfl,h⟩:=h
       have hl:=leRL_length h
       simp only [Rd] at hr ⊢
       rw [← hl]
       refine ⟨hr.1,hr.2.imp ?_ ?_⟩
       ·rintro ⟨rfl,h2⟩
        exact ⟨List.eq_nil_of_length_eq_zero (by simpa using hl.symm),h2⟩
       ·rintro ⟨a,cap,h1,h2,h3,h4,h5⟩
        refine ⟨a,cap,h1,h2,h3,fun hne=>h4 fun e=>hne ?_,leRL_RdE l l' _ _ _ h h5⟩
        subst e; exact List.eq_nil_of_length_eq_zero (by simpa using hl.symm)
     | full=>simp only [leR] at h; cases h
     | own k=>simp only [leR] at h; cases h
   | _=>simp only [leR] at h; cases h
 | .bool _,_,_,h,hr=>leR_plain (by simp) (by simp) (by simp) h hr
 | .tt,_,_,h,hr=>leR_plain (by simp) (by simp) (by simp) h hr
 | .ff,_,_,h,hr=>leR_plain (by simp) (by simp) (by simp) h hr
 | .dec _,_,_,h,hr=>leR_plain (by simp) (by simp) (by simp) h hr
 | .int _ _,_,_,h,hr=>leR_plain (by simp) (by simp) (by simp) h hr
 | .str _,_,_,h,hr=>leR_plain (by simp) (by simp) (by simp) h hr
 | .nilI,_,_,h,hr=>leR_plain (by simp) (by simp) (by simp) h hr
 | .nils,_,_,h,hr=>leR_plain (by simp) (by simp) (by simp) h hr
 | .ms _ _ _ _ _,_,_,h,hr=>leR_plain (by simp) (by simp) (by simp) h hr
 | .tup _,_,_,h,hr=>leR_plain (by simp) (by simp) (by simp) h hr
 | .ptr _ _ _,_,_,h,hr=>leR_plain (by simp) (by simp) (by simp) h hr
 | .cp _,_,_,h,hr=>leR_plain (by simp) (by simp) (by simp) h hr
 | .nilp,_,_,h,hr=>leR_plain (by simp) (by simp) (by simp) h hr
 | .fn _ _,_,_,h,hr=>leR_plain (by simp) (by simp) (by simp) h hr
 | .nilf,_,_,h,hr=>leR_plain (by simp) (by simp) (by simp) h hr
 | .mp _,_,_,h,hr=>leR_plain (by simp) (by simp) (by simp) h hr
 | .gs _ _,_,_,h,hr=>leR_plain (by simp) (by simp) (by simp) h hr
 | .bm _ _,_,_,h,hr=>leR_plain (by simp) (by simp) (by simp) h hr
 | .nilm,_,_,h,hr=>leR_plain (by simp) (by simp) (by simp) h hr
 | .und,_,_,h,hr=>leR_plain (by simp) (by simp) (by simp) h hr
theorem leRL_RdL {w : World} {Im : Nat → Nat → Prop} : ∀ (l m : List AV) (cs : List Value),leRL l m → RdL w Im l cs → RdL w Im m cs
 | [],[],_,_,hr=>hr
 | [],_ :: _,_,h,_=>by simp only [leRL] at h
 | _ :: _,[],_,h,_=>by simp only [leRL] at h
 | x :: l,y :: m,cs,h,hr=>by
   simp only [leRL] at h
   simp only [RdL] at hr ⊢
   obtain ⟨a,d,h1,h2,h3⟩:=hr
   exact ⟨a,d,h1,leR_Rd x y a h.1 h2,leRL_RdL l m d h.2 h3⟩
theorem leRL_RdE {w : World} {Im : Nat → Nat → Prop} : ∀ (l m : List AV) (sz b off : Nat),leRL l m → RdE w Im sz b l off → RdE w Im sz b m off
 | [],[],_,_,_,_,hr=>hr
 | [],_ :: _,_,_,_,h,_=>by simp only [leRL] at h
 | _ :: _,[],_,_,_,h,_=>by simp only [leRL] at h
 | x :: l,y :: m,sz,b,off,h,hr=>by
   simp only [leRL] at h
   simp only [RdE] at hr ⊢
   obtain ⟨⟨a,h1,h2,h3⟩,h4⟩:=hr
   exact ⟨⟨a,h1,h2,leR_Rd x y a h.1 h3⟩,leRL_RdE l m sz b _ h.2 h4⟩
end

theorem VRE_leRL {c : Cx} {sz : Nat} : ∀ {l m : List AV} {cs : List Value},leRL l m → VRE c sz l cs → VRE c sz m cs
 | [],[],_,_,h=>h
 | [],_ :: _,_,h,_=>by simp only [leRL] at h
 | _ :: _,[],_,h,_=>by simp only [leRL] at h
 | x :: l,y :: m,cs,h,hr=>by
   simp only [leRL] at h
   obtain ⟨a,d,h1,h2,h3,h4⟩:=hr
   exact ⟨a,d,h1,h2,leR_Rd x y _ h.1 h3,VRE_leRL h.2 h4⟩

theorem leRL_sl {w : World} {Im : Nat → Nat → Prop} {s : Nat} {l m : List AV} {cs : List Value} (h : leRL l m) (hr : Rd w Im (.sl s l .no) cs) : Rd w Im (.sl s m .no) cs :=
 leR_Rd _ _ _ (by simp only [leR]; exact ⟨trivial,h⟩) hr

set_option maxHeartbeats 1600000 in
theorem le0_basic {c : Cx} {A B : AV} {cs : List Value} (hA : isAg A = false) (hI : ∀ t x,A ≠ .ifc t x) (h : le0 A B) (hr : VR c A cs) : VR c B cs ∧ isAg B = false:=by
 cases A with
 | ag l=>cases hA
 | ifc t x=>exact absurd rfl (hI t x)
 | sl s l t =>
   cases B with
   | sl s' l' t' =>
     cases t' with
     | no =>
       have h' : s = s' ∧ leRL l l':=by cases t <;> simpa only [le0] using h
       obtain ⟨e,h'⟩:=h'
       exact ⟨by simp only [VR]; exact e ▸ leRL_sl h' (sl_no hr),rfl⟩
     | full =>
       cases t with
       | full =>
         simp only [le0] at h
         obtain ⟨rfl,h⟩:=h
         simp only [VR] at hr ⊢
         exact ⟨⟨leRL_sl h hr.1,by rw [← leRL_length h]; exact hr.2⟩,rfl⟩
       | _=>simp only [le0] at h; cases h
     | own k' =>
       cases t with
       | own k =>
         simp only [le0] at h
         obtain ⟨rfl,h,rfl⟩:=h
         simp only [VR] at hr ⊢
         exact ⟨⟨hr.1,leRL_sl h hr.2.1,by rw [← leRL_length h]; exact hr.2.2⟩,rfl⟩
       | _=>simp only [le0] at h; cases h
   | _=>cases t <;> simp only [le0] at h <;> cases h
 | nils =>
   cases B with
   | sl s' l' t' =>
     cases t' with
     | no=>simp only [le0] at h; subst h; exact ⟨by simp only [VR]; exact nils_no hr,rfl⟩
     | full =>
       simp only [le0] at h; subst h
       refine ⟨?_,rfl⟩
       simp only [VR]
       refine ⟨nils_no hr,none,?_⟩
       simp only [VR,Rd] at hr
       simpa using hr
     | own k=>simp only [le0] at h; cases h
   | nils=>exact ⟨hr,rfl⟩
   | _=>simp only [le0] at h; cases h
 | tt =>
   cases B <;> simp only [le0] at h <;> first
    | exact ⟨hr,rfl⟩
    | (subst h; exact ⟨hr,rfl⟩)
    | (cases h; done)
    | (refine ⟨?_,rfl⟩; simp only [VR,Rd] at hr ⊢; exact ⟨true,hr,by simpa using h⟩)
 | ff =>
   cases B <;> simp only [le0] at h <;> first
    | exact ⟨hr,rfl⟩
    | (subst h; exact ⟨hr,rfl⟩)
    | (cases h; done)
    | (refine ⟨?_,rfl⟩; simp only [VR,Rd] at hr ⊢; exact ⟨false,hr,by simpa using h⟩)
 | bool x =>
   cases B <;> simp only [le0] at h <;> first
    | (subst h; exact ⟨hr,rfl⟩)
    | (cases h; done)
    | (refine ⟨?_,rfl⟩; simp only [VR,Rd] at hr ⊢; exact ⟨x,hr,h⟩)
 | dec p =>
   cases B with
   | bool b =>
     simp only [le0] at h
     simp only [VR,Rd] at hr ⊢
     obtain ⟨b',h1,h2⟩:=hr
     refine ⟨?_,rfl⟩
     rw [h1,Bool.eq_iff_iff.2 (h2.trans h)]
   | dec q =>
     simp only [le0] at h
     simp only [VR,Rd] at hr ⊢
     obtain ⟨b',h1,h2⟩:=hr
     exact ⟨⟨b',h1,h2.trans h⟩,rfl⟩
   | tt =>
     simp only [le0] at h
     simp only [VR,Rd] at hr ⊢
     obtain ⟨b',h1,h2⟩:=hr
     exact ⟨by rw [h1,h2.2 h],rfl⟩
   | ff =>
     simp only [le0] at h
     simp only [VR,Rd] at hr ⊢
     obtain ⟨b',h1,h2⟩:=hr
     refine ⟨?_,rfl⟩
     cases b' with
     | true=>exact absurd (h2.1 rfl) h
     | false=>exact h1
   | _=>simp only [le0] at h; cases h
 | int k n =>
   cases B with
   | int k' n'=>simp only [le0] at h; obtain ⟨rfl,rfl⟩:=h; exact ⟨hr,rfl⟩
   | _=>simp only [le0] at h; cases h
 | str k =>
   cases B with
   | str k'=>simp only [le0] at h; subst h; exact ⟨hr,rfl⟩
   | _=>simp only [le0] at h; cases h
 | _=>cases B <;> simp only [le0] at h <;> first | exact ⟨hr,rfl⟩ | (cases h; exact ⟨hr,rfl⟩) | (cases h; done)

mutual
theorem le0_VR {c : Cx} : ∀ (A B : AV) (cs : List Value),le0 A B → VR c A cs → VR c B cs ∧ isAg B = isAg A
 | .ag l,B,cs,h,hr=>by
   cases B with
   | ag m =>
     simp only [le0] at h
     simp only [VR] at hr ⊢
     exact ⟨leL_VRL l m cs h hr,rfl⟩
   | _=>simp only [le0] at h; cases h
 | .bool _,_,_,h,hr=>le0_basic rfl (by simp) h hr
 | .tt,_,_,h,hr=>le0_basic rfl (by simp) h hr
 | .ff,_,_,h,hr=>le0_basic rfl (by simp) h hr
 | .dec _,_,_,h,hr=>le0_basic rfl (by simp) h hr
 | .int _ _,_,_,h,hr=>le0_basic rfl (by simp) h hr
 | .str _,_,_,h,hr=>le0_basic rfl (by simp) h hr
 | .nilI,_,_,h,hr=>le0_basic rfl (by simp) h hr
 | .ifc t x,B,cs,h,hr=>by
   cases B with
   | ifc t' y =>
     simp only [le0] at h
     simp only [VR] at hr ⊢
     obtain ⟨rfl,h⟩:=h
     obtain ⟨v,h1,h2,h3⟩:=hr
     exact ⟨⟨v,h1,shapeV_ag (le0_isAg h) h2,(le0_VR x y _ h h3).1⟩,rfl⟩
   | _=>simp only [le0] at h; cases h
 | .nils,_,_,h,hr=>le0_basic rfl (by simp) h hr
 | .sl _ _ _,_,_,h,hr=>le0_basic rfl (by simp) h hr
 | .ms _ _ _ _ _,_,_,h,hr=>le0_basic rfl (by simp) h hr
 | .tup _,_,_,h,hr=>le0_basic rfl (by simp) h hr
 | .ptr _ _ _,_,_,h,hr=>le0_basic rfl (by simp) h hr
 | .cp _,_,_,h,hr=>le0_basic rfl (by simp) h hr
 | .nilp,_,_,h,hr=>le0_basic rfl (by simp) h hr
 | .fn _ _,_,_,h,hr=>le0_basic rfl (by simp) h hr
 | .nilf,_,_,h,hr=>le0_basic rfl (by simp) h hr
 | .mp _,_,_,h,hr=>le0_basic rfl (by simp) h hr
 | .gs _ _,_,_,h,hr=>le0_basic rfl (by simp) h hr
 | .bm _ _,_,_,h,hr=>le0_basic rfl (by simp) h hr
 | .nilm,_,_,h,hr=>le0_basic rfl (by simp) h hr
 | .und,_,_,h,hr=>le0_basic rfl (by simp) h hr
theorem leL_VRL {c : Cx} : ∀ (l m : List AV) (cs : List Value),leL l m → VRL c l cs → VRL c m cs
 | [],[],_,_,hr=>hr
 | [],_ :: _,_,h,_=>by simp only [leL] at h
 | _ :: _,[],_,h,_=>by simp only [leL] at h
 | x :: l,y :: m,cs,h,hr=>by
   simp only [leL] at h
   simp only [VRL] at hr ⊢
   obtain ⟨a,d,h1,h2,h3⟩:=hr
   exact ⟨a,d,h1,(le0_VR x y a h.1 h2).1,leL_VRL l m d h.2 h3⟩
end

theorem le0_VV {c : Cx} {A B : AV} {v : Value} (h : le0 A B) (hv : VV c A v) : VV c B v:=by
 obtain ⟨h1,h2⟩:=le0_VR A B _ h hv.2
 exact ⟨⟨fun hb=>hv.1.1 (by rw [← h2]; exact hb),fun hb=>hv.1.2 (by rw [← h2]; exact hb)⟩,h1⟩

theorem leL_VA {c : Cx} : ∀ {l m : List AV} {vs : List Value},leL l m → VA c l vs → VA c m vs
 | [],[],_,_,hr=>hr
 | [],_ :: _,_,h,_=>by simp only [leL] at h
 | _ :: _,[],_,h,_=>by simp only [leL] at h
 | x :: l,y :: m,vs,h,hr=>by
   simp only [leL] at h
   simp only [VA] at hr ⊢
   obtain ⟨v,r,h1,h2,h3,h4⟩:=hr
   have:=le0_VV h.1 ⟨h2,h3⟩
   exact ⟨v,r,h1,this.1,this.2,leL_VA h.2 h4⟩

theorem le_EV {c : Cx} {A B : AV} {v : Value} (h : le A B) (hv : EV c A v) : EV c B v:=by
 cases A with
 | tup l =>
   cases B with
   | und=>trivial
   | tup m =>
     obtain ⟨vs,h1,h2⟩:=hv
     exact ⟨vs,h1,leL_VA h h2⟩
   | _=>simp only [le,le0] at h; cases h
 | und =>
   cases B with
   | und=>trivial
   | _=>simp only [le,le0] at h; cases h
 | _ =>
   have hv : VV c _ v:=hv
   cases B with
   | und=>trivial
   | _=>exact EV_VV (le0_VV h hv)

def Cx.cut (c : Cx) (G : Heap) : Cx:={ c with nx:=nextId G,tp:=tpOf G }

mutual
theorem VR_cut {c : Cx} {G : Heap} (htp : ∀ k n,tpOf G k = some n → c.tp k = some n) : ∀ (A : AV) (cs : List Value),bndB (nextId G) A = true → VR c A cs → VR (c.cut G) A cs
 | .bool _,_,_,hr=>by simp only [VR] at hr ⊢; exact hr
 | .tt,_,_,hr=>by simp only [VR] at hr ⊢; exact hr
 | .ff,_,_,hr=>by simp only [VR] at hr ⊢; exact hr
 | .dec _,_,_,hr=>by simp only [VR] at hr ⊢; exact hr
 | .int _ _,_,_,hr=>by simp only [VR] at hr ⊢; exact hr
 | .str _,_,_,hr=>by simp only [VR] at hr ⊢; exact hr
 | .nilI,_,_,hr=>by simp only [VR] at hr ⊢; exact hr
 | .ifc t x,cs,hb,hr=>by
   simp only [VR] at hr ⊢
   obtain ⟨v,h1,h2,h3⟩:=hr
   exact ⟨v,h1,h2,VR_cut htp x _ (by simpa only [bndB] using hb) h3⟩
 | .nils,_,_,hr=>by simp only [VR] at hr ⊢; exact hr
 | .sl _ _ .no,_,_,hr=>by simp only [VR] at hr ⊢; exact hr
 | .sl _ _ .full,_,_,hr=>by simp only [VR] at hr ⊢; exact hr
 | .sl sz l (.own k),cs,hb,hr=>by
   simp only [VR] at hr ⊢
   obtain ⟨h1,h2,h3⟩:=hr
   simp only [bndB] at hb
   exact ⟨Nat.le_of_ble_eq_true hb,h2,fun n hn=>h3 n (htp k n hn)⟩
 | .ms k _ _ _ _,_,hb,hr=>by
   simp only [VR] at hr ⊢
   simp only [bndB] at hb
   exact ⟨Nat.le_of_ble_eq_true hb,hr.2⟩
 | .ag l,cs,hb,hr=>by
   simp only [VR] at hr ⊢
   exact VRL_cut htp l cs (by simpa only [bndB] using hb) hr
 | .tup _,_,_,hr=>by simp only [VR] at hr ⊢; exact hr
 | .ptr k _ _,_,hb,hr=>by
   simp only [VR] at hr ⊢
   simp only [bndB] at hb
   exact ⟨Nat.le_of_ble_eq_true hb,hr.2⟩
 | .cp x,cs,_,hr=>by simp only [VR] at hr ⊢; exact hr
 | .nilp,_,_,hr=>by simp only [VR] at hr ⊢; exact hr
 | .fn f cap,cs,hb,hr=>by
   simp only [VR] at hr ⊢
   obtain ⟨vs,h1,h2⟩:=hr
   exact ⟨vs,h1,VA_cut htp cap vs (by simpa only [bndB] using hb) h2⟩
 | .nilf,_,_,hr=>by simp only [VR] at hr ⊢; exact hr
 | .mp k,_,hb,hr=>by
   simp only [VR] at hr ⊢
   simp only [bndB] at hb
   exact ⟨Nat.le_of_ble_eq_true hb,hr.2⟩
 | .bm f k,_,hb,hr=>by
   simp only [VR] at hr ⊢
   simp only [bndB] at hb
   exact ⟨Nat.le_of_ble_eq_true hb,hr.2⟩
 | .gs k len,_,hb,hr=>by
   simp only [VR] at hr ⊢
   simp only [bndB] at hb
   exact ⟨Nat.le_of_ble_eq_true hb,hr.2.1,fun n hn=>hr.2.2 n (htp k n hn)⟩
 | .nilm,_,_,hr=>by simp only [VR] at hr ⊢; exact hr
 | .und,_,_,hr=>by simp only [VR] at hr ⊢; exact hr
theorem VRL_cut {c : Cx} {G : Heap} (htp : ∀ k n,tpOf G k = some n → c.tp k = some n) : ∀ (l : List AV) (cs : List Value),bndBL (nextId G) l = true → VRL c l cs → VRL (c.cut G) l cs
 | [],_,_,hr=>by simpa only [VRL] using hr
 | x :: l,cs,hb,hr=>by
   simp only [VRL] at hr ⊢
   simp only [bndBL] at hb
   obtain ⟨a,e,h1,h2,h3⟩:=hr
   cases hx : bndB (nextId G) x with
   | false=>rw [hx] at hb; cases hb
   | true=>rw [hx] at hb; exact ⟨a,e,h1,VR_cut htp x _ hx h2,VRL_cut htp l _ hb h3⟩
theorem VA_cut {c : Cx} {G : Heap} (htp : ∀ k n,tpOf G k = some n → c.tp k = some n) : ∀ (l : List AV) (vs : List Value),bndBL (nextId G) l = true → VA c l vs → VA (c.cut G) l vs
 | [],_,_,hr=>by simpa only [VA] using hr
 | x :: l,vs,hb,hr=>by
   simp only [VA] at hr ⊢
   simp only [bndBL] at hb
   obtain ⟨v,r,h1,h2,h3,h4⟩:=hr
   cases hx : bndB (nextId G) x with
   | false=>rw [hx] at hb; cases hb
   | true=>rw [hx] at hb; exact ⟨v,r,h1,h2,VR_cut htp x _ hx h3,VA_cut htp l _ hb h4⟩
end

theorem VV_cut {c : Cx} {G : Heap} (htp : ∀ k n,tpOf G k = some n → c.tp k = some n) {A : AV} {v : Value} (hb : bndB (nextId G) A = true) (h : VV c A v) : VV (c.cut G) A v:=⟨h.1,VR_cut htp _ _ hb h.2⟩

theorem EV_cut {c : Cx} {G : Heap} (htp : ∀ k n,tpOf G k = some n → c.tp k = some n) {A : AV} {v : Value} (hb : bndB (nextId G) A = true) (h : EV c A v) : EV (c.cut G) A v:=by
 cases A <;> first
  | exact VV_cut htp hb h
  | trivial
  | (obtain ⟨vs,h1,h2⟩:=h; exact ⟨vs,h1,VA_cut htp _ _ (by simpa only [bndB] using hb) h2⟩)

theorem VRM_cut {c : Cx} {G : Heap} (htp : ∀ k n,tpOf G k = some n → c.tp k = some n) : ∀ {l : List (AV × AV)} {es : List MapEntry},bndM (nextId G) l = true → VRM c l es → VRM (c.cut G) l es
 | [],_,_,hr=>hr
 | (x,y) :: l,es,hb,hr=>by
   obtain ⟨e,r,h1,h2,h3,h4⟩:=hr
   simp only [bndM] at hb
   cases hx : bndB (nextId G) x with
   | false=>rw [hx] at hb; cases hb
   | true =>
     cases hy : bndB (nextId G) y with
     | false=>rw [hx,hy] at hb; cases hb
     | true=>rw [hx,hy] at hb; exact ⟨e,r,h1,VV_cut htp hx h2,VV_cut htp hy h3,VRM_cut htp hb h4⟩

theorem WkH_mem {H : Heap} {n : Nat} : ∀ {G : Heap},WkH H n G → ∀ k o,(k,o) ∈ G → ∃ o',hget H k = some o' ∧ leO o' o ∧ (match o with | .amap _ es=>bndM n es = true | o=>bndO n o = true)
 | [],_,_,_,hm=>by simp at hm
 | (i,x) :: G,h,k,o,hm=>by
   simp only [WkH] at h
   rcases List.mem_cons.1 hm with hm | hm
   ·simp at hm
    obtain ⟨rfl,rfl⟩:=hm
    obtain ⟨o',h1,h2⟩:=hgetC_iff.1 h.1
    exact ⟨o',h1,h2⟩
   ·exact WkH_mem h.2 k o hm

theorem leO_tok {o : HO} {s n : Nat} (h : leO o (.tok s n)) : o = .tok s n:=by
 cases o <;> simp only [leO] at h
 obtain ⟨rfl,rfl⟩:=h; rfl

theorem leO_wtok {o : HO} {s : Nat} {l : List AV} (h : leO o (.wtok s l)) : ∃ l',o = .wtok s l' ∧ leRL l' l:=by
 cases o <;> simp only [leO] at h
 obtain ⟨rfl,h⟩:=h; exact ⟨_,rfl,h⟩

theorem HWk0.tp {H G : Heap} (h : HWk0 H G) : ∀ k n,tpOf G k = some n → tpOf H k = some n:=by
 intro k n hn
 unfold tpOf at hn ⊢
 cases hg : hget G k with
 | none=>simp [hg] at hn
 | some o =>
   rw [hg] at hn
   obtain ⟨o',h1,h2,_⟩:=WkH_mem h.get k _ (hget_mem hg)
   cases o <;> simp at hn
   ·subst hn
    obtain rfl:=leO_tok h2
    rw [h1]
   ·subst hn
    obtain ⟨l',rfl,h3⟩:=leO_wtok h2
    rw [h1]; simp [leRL_length h3]

theorem leO_blk {c d : Cx} {k : Nat} {o' o : HO} (hρ : d.ρ = c.ρ) (ht : d.tk = c.tk) (h : leO o' o) {b : Nat} (hb : blkOf d (k,o) = some b) : blkOf c (k,o') = some b:=by
 cases o with
 | gone=>simp [blkOf] at hb
 | tok s n =>
   obtain rfl:=leO_tok h
   simp only [blkOf,ht] at hb ⊢; exact hb
 | _=>cases o' <;> simp only [leO] at h <;> simp only [blkOf,hρ,ht] at hb ⊢ <;> exact hb

theorem leM_VRM {c : Cx} : ∀ {l m : List (AV × AV)} {es : List MapEntry},leM l m → VRM c l es → VRM c m es
 | [],[],_,_,h=>h
 | [],_ :: _,_,h,_=>by simp only [leM] at h
 | _ :: _,[],_,h,_=>by simp only [leM] at h
 | (x,v) :: l,(y,u) :: m,es,h,hr=>by
   simp only [leM] at h
   obtain ⟨rfl,h1,h2⟩:=h
   obtain ⟨e,r,g1,g2,g3,g4⟩:=hr
   exact ⟨e,r,g1,g2,le0_VV h1 g3,leM_VRM h2 g4⟩

theorem leM_KSh {sh : AV} : ∀ {l m : List (AV × AV)},leM l m → KSh sh l → KSh sh m
 | [],[],_,h=>h
 | [],_ :: _,h,_=>by simp only [leM] at h
 | _ :: _,[],h,_=>by simp only [leM] at h
 | (x,v) :: l,(y,u) :: m,h,hr=>by
   simp only [leM] at h
   obtain ⟨rfl,h1,h2⟩:=h
   exact ⟨hr.1,leM_KSh h2 hr.2⟩

theorem Tr.cut {c0 c : Cx} {H0 H G : Heap} (htr : Tr c0 H0 c H) (hw : HWk0 H G) (hn : c0.nx ≤ nextId G) : Tr c0 H0 (c.cut G) G:=by
 have htp : ∀ k n,tpOf G k = some n → c.tp k = some n:=fun k n h=>by rw [htr.hr.tp]; exact hw.tp k n h
 have hmem : ∀ x ∈ G,∃ o',(x.1,o') ∈ H ∧ leO o' x.2 ∧ ∀ b,blkOf (c.cut G) x = some b → blkOf c (x.1,o') = some b:=by
  rintro ⟨k,o⟩ hx
  obtain ⟨o',h1,h2,_⟩:=WkH_mem hw.get k o hx
  exact ⟨o',hget_mem h1,h2,fun b hb=>leO_blk (d:=c.cut G) rfl rfl h2 hb⟩
 refine ⟨⟨rfl,rfl,hw.ids,htr.hr.im,?_,?_⟩,⟨htr.le.im,hn,htr.le.ρ,fun k n hk h=>htr.le.tk k n hk (htp k n h)⟩,htr.os,htr.tape,htr.output,htr.size,htr.fr,?_,htr.imb⟩
 ·rintro ⟨k,o⟩ hx
  obtain ⟨o',h1,h2,h3⟩:=WkH_mem hw.get k o hx
  have hok:=htr.hr.okOf h1
  by_cases hgone : o = .gone
  ·subst hgone; trivial
  cases o' <;> cases o <;> simp only [leO] at h2 <;> first | exact absurd rfl hgone | skip
  ·obtain ⟨cs,ty,g1,g2,g3⟩:=hok
   simp only [bndO] at h3
   exact ⟨cs,ty,g1,VR_cut htp _ _ h3 (le0_VR _ _ _ h2 g2).1,g3⟩
  ·obtain ⟨rfl,rfl,h2⟩:=h2
   obtain ⟨cs,ty,g1,g2,g3,g4,g5,g6⟩:=hok
   have hv : ∀ {sz : Nat} {l : List AV} {cs : List Value},VRE c sz l cs → VRE (c.cut G) sz l cs:=by
    intro sz l
    induction l with
    | nil=>intros; trivial
    | cons x l ih=>rintro cs ⟨a,d,h1,h2,h3,h4⟩; exact ⟨a,d,h1,h2,h3,ih h4⟩
   exact ⟨cs,ty,g1,g2,by rw [← leRL_length h2]; exact g3,g4,hv (VRE_leRL h2 g5),g6⟩
  ·obtain ⟨rfl,rfl⟩:=h2
   exact hok
  ·obtain ⟨rfl,h2⟩:=h2
   obtain ⟨ents,clock,g1,g2,g3,g4⟩:=hok
   exact ⟨ents,clock,g1,VRM_cut htp h3 (leM_VRM h2 g2),leM_KSh h2 g3,g4⟩
  ·obtain ⟨rfl,h2⟩:=h2
   have hv : ∀ {sz : Nat} {l : List AV} {cs : List Value},VRE c sz l cs → VRE (c.cut G) sz l cs:=by
    intro sz l
    induction l with
    | nil=>intros; trivial
    | cons x l ih=>rintro cs ⟨a,d,h1,h2,h3,h4⟩; exact ⟨a,d,h1,h2,h3,ih h4⟩
   have hl:=leRL_length h2
   rcases hok with ⟨g1,g2,g3⟩ | ⟨b,cs,ty,g1,g2,g3,g4,g5,g6,g7⟩
   ·subst g3; exact .inl ⟨g1,g2,List.length_eq_zero_iff.1 (by rw [← hl]; rfl)⟩
   ·exact .inr ⟨b,cs,ty,g1,g2,g3,by rw [← hl]; exact g4,g5,hv (VRE_leRL h2 g6),g7⟩
 ·refine pairwise_of_ids hw.ids fun x hx y hy hne b hb hb'=>?_
  obtain ⟨o1,h1,_,e1⟩:=hmem x hx
  obtain ⟨o2,h2,_,e2⟩:=hmem y hy
  exact htr.hr.apart' h1 h2 hne (e1 b hb) (e2 b hb')
 ·intro y hy b hb
  obtain ⟨o1,h1,_,e1⟩:=hmem y hy
  exact htr.own _ h1 b (e1 b hb)

theorem WkE_mem {e : Env} {n : Nat} : ∀ {E : Env},WkE e n E → ∀ t A,(t,A) ∈ E → ∃ A',eget e t = some A' ∧ le A' A ∧ bndB n A = true
 | [],_,_,_,hm=>by simp at hm
 | (i,x) :: E,h,t,A,hm=>by
   simp only [WkE] at h
   rcases List.mem_cons.1 hm with hm | hm
   ·simp at hm
    obtain ⟨rfl,rfl⟩:=hm
    obtain ⟨A',h1,h2⟩:=egetC_iff.1 h.1
    exact ⟨A',h1,h2⟩
   ·exact WkE_mem h.2 t A hm

theorem eget_mem : ∀ {e : Env} {t : Nat} {A : AV},eget e t = some A → (t,A) ∈ e
 | [],_,_,h=>by simp [eget] at h
 | (i,x) :: e,t,A,h=>by
   simp only [eget] at h
   cases hb : Nat.beq i t with
   | true =>
     rw [hb] at h
     obtain rfl:=Nat.eq_of_beq_eq_true hb
     simp at h; subst h; simp
   | false=>rw [hb] at h; exact List.mem_cons_of_mem _ (eget_mem h)

theorem WkE_all {c : Cx} {e E : Env} {G H : Heap} {a : Act} (he : EnvOk c e a) (hr : HR c H) (hw : HWk0 H G) (h : WkE e (nextId G) E) : ∀ t A,(t,A) ∈ E → EV (c.cut G) A (a.tmps.getD t undef):=by
 intro t A hm
 obtain ⟨A',h1,h2,h3⟩:=WkE_mem h t A hm
 exact EV_cut (fun k n hn=>by rw [hr.tp]; exact hw.tp k n hn) h3 (le_EV h2 (he t A' h1))

mutual
theorem leR_refl : ∀ (A : AV),leR A A
 | .bool _ | .tt | .ff | .dec _ | .str _ | .nilI | .nils | .ms _ _ _ _ _ | .tup _ | .ptr _ _ _ | .cp _ | .nilp | .fn _ _ | .nilf | .mp _ | .gs _ _ | .bm _ _ | .nilm | .und=>by simp [leR]
 | .ifc t x=>⟨rfl,leR_refl x⟩
 | .int _ _=>⟨rfl,rfl⟩
 | .sl _ l .no=>⟨rfl,leRL_refl l⟩
 | .sl _ l .full=>by simp [leR]
 | .sl _ l (.own _)=>by simp [leR]
 | .ag l=>leRL_refl l
theorem leRL_refl : ∀ (l : List AV),leRL l l
 | []=>trivial
 | x :: l=>⟨leR_refl x,leRL_refl l⟩
end

mutual
theorem le0_refl : ∀ (A : AV),le0 A A
 | .bool _ | .tt | .ff | .dec _ | .str _ | .nilI | .nils | .ms _ _ _ _ _ | .tup _ | .ptr _ _ _ | .cp _ | .nilp | .fn _ _ | .nilf | .mp _ | .gs _ _ | .bm _ _ | .nilm | .und=>by simp [le0]
 | .ifc t x=>⟨rfl,le0_refl x⟩
 | .int _ _=>⟨rfl,rfl⟩
 | .sl _ l .no=>⟨rfl,leRL_refl l⟩
 | .sl _ l .full=>⟨rfl,leRL_refl l⟩
 | .sl _ l (.own _)=>⟨rfl,leRL_refl l,rfl⟩
 | .ag l=>leL_refl l
theorem leL_refl : ∀ (l : List AV),leL l l
 | []=>trivial
 | x :: l=>⟨le0_refl x,leL_refl l⟩
end

theorem le_refl (A : AV) : le A A:=by
 cases A <;> first | exact le0_refl _ | exact leL_refl _ | trivial

mutual
theorem VR_bnd {c : Cx} : ∀ (A : AV) (cs : List Value),VR c A cs → bndB c.nx A = true
 | .bool _,_,_ | .tt,_,_ | .ff,_,_ | .dec _,_,_ | .int _ _,_,_ | .str _,_,_ | .nilI,_,_ | .nils,_,_ | .cp _,_,_ | .nilp,_,_ | .nilf,_,_ | .nilm,_,_ | .und,_,_
 | .sl _ _ .no,_,_ | .sl _ _ .full,_,_=>rfl
 | .tup _,_,h=>by simp only [VR,Rd] at h
 | .ifc t x,_,h=>by simp only [VR] at h; obtain ⟨v,_,_,h3⟩:=h; exact VR_bnd x _ h3
 | .sl _ _ (.own k),_,h=>by simp only [VR] at h; simpa [bndB] using h.1
 | .ms _ _ _ _ _,_,h=>by simp only [VR] at h; simpa [bndB] using h.1
 | .ptr _ _ _,_,h=>by simp only [VR] at h; simpa [bndB] using h.1
 | .mp _,_,h=>by simp only [VR] at h; simpa [bndB] using h.1
 | .gs _ _,_,h=>by simp only [VR] at h; simpa [bndB] using h.1
 | .bm _ _,_,h=>by simp only [VR] at h; simpa [bndB] using h.1
 | .ag l,_,h=>by simp only [VR] at h; exact VRL_bnd l _ h
 | .fn _ cap,_,h=>by simp only [VR] at h; obtain ⟨vs,_,h2⟩:=h; exact VA_bnd cap _ h2
theorem VRL_bnd {c : Cx} : ∀ (l : List AV) (cs : List Value),VRL c l cs → bndBL c.nx l = true
 | [],_,_=>rfl
 | x :: l,_,h=>by
   simp only [VRL] at h
   obtain ⟨a,d,_,h2,h3⟩:=h
   simp only [bndBL,VR_bnd x _ h2,VRL_bnd l _ h3]
theorem VA_bnd {c : Cx} : ∀ (l : List AV) (vs : List Value),VA c l vs → bndBL c.nx l = true
 | [],_,_=>rfl
 | x :: l,_,h=>by
   simp only [VA] at h
   obtain ⟨v,r,_,_,h2,h3⟩:=h
   simp only [bndBL,VR_bnd x _ h2,VA_bnd l _ h3]
end

theorem VRM_bnd {c : Cx} : ∀ {l : List (AV × AV)} {es : List MapEntry},VRM c l es → bndM c.nx l = true
 | [],_,_=>rfl
 | (x,y) :: l,_,h=>by
   obtain ⟨e,r,_,h2,h3,h4⟩:=h
   simp only [bndM,VR_bnd x _ h2.2,VR_bnd y _ h3.2,VRM_bnd h4]

theorem WkH_of {H : Heap} {n : Nat} : ∀ {G : Heap},(∀ k o,(k,o) ∈ G → ∃ o',hget H k = some o' ∧ leO o' o ∧ (match o with | .amap _ es=>bndM n es = true | o=>bndO n o = true)) → WkH H n G
 | [],_=>trivial
 | (i,x) :: G,h=>⟨hgetC_iff.2 (h i x (by simp)),WkH_of fun k o hm=>h k o (by simp [hm])⟩

theorem leM_refl : ∀ (l : List (AV × AV)),leM l l
 | []=>trivial
 | (_,y) :: l=>⟨rfl,le0_refl y,leM_refl l⟩

theorem leO_refl (o : HO) : leO o o:=by
 cases o with
 | box A=>exact le0_refl A
 | arr=>exact ⟨rfl,rfl,leRL_refl _⟩
 | tok=>exact ⟨rfl,rfl⟩
 | amap=>exact ⟨rfl,leM_refl _⟩
 | wtok=>exact ⟨rfl,leRL_refl _⟩
 | gone=>trivial

theorem HWk.to0 {c : Cx} {H G : Heap} (h : HWk H G) (hr : HR c H) : HWk0 H G:=by
 cases h with
 | mk h1 h2=>exact ⟨h1,h2⟩
 | refl h =>
   subst h
   refine ⟨WkH_of fun k o hm=>?_,hr.ids⟩
   have hok:=hr.ok _ hm
   refine ⟨o,mem_hget hr.ids hm,leO_refl o,?_⟩
   rw [← hr.nx]
   cases o with
   | box A=>obtain ⟨cs,ty,_,h2,_⟩:=hok; exact VR_bnd _ _ h2
   | amap sh es=>obtain ⟨ents,clock,_,h2,_⟩:=hok; exact VRM_bnd h2
   | _=>rfl

end Go.AL
