/-
  A logic for calls of Go functions: values, weakening. Nothing is assumed.
-/
import Derived.Calls
import Derived.Laws.Sem
import Derived.Laws.World
import Derived.Defers
import Derived.Maps.Keyed
import Derived.Laws.AppendOwn
import Derived.Laws.MakeOwn

namespace Go.AL

def maxL : Nat:=9223372036854775807

inductive Tk where
 | no | full | own (k : Nat)
 deriving Inhabited

inductive AV where
 | bool (b : Bool) | tt | ff | dec (p : Prop)
 | int (k : IntKind) (n : Int)
 | str (s : List UInt8)
 | eX | jm (t : Nat) (x : AV)
 | aG | sl (sz : Nat) (l : List AV) (tok : Tk)
 | ms (k off len cap sz : Nat)
 | ag (l : List AV) | eU (l : List AV)
 | ptr (k : Nat) (path : List Nat) (off : Nat) | cp (x : AV) | gI
 | fn (f : Nat) (cap : List AV) | aH
 | mp (k : Nat) | iQ
 | gs (k len : Nat)
 | bm (f k : Nat)
 | und
 deriving Inhabited

def dK : AV -> Bool
 | .ag _=>true
 | _=>false

mutual
def flat : AV -> Nat
 | .ag l=>iJ l
 | _=>1
def iJ : List AV -> Nat
 | []=>0
 | x :: l=>flat x + iJ l
end

def jH (w : World) (Im : Nat -> Nat -> Prop) (b off : Nat) (cs : List Value) : Prop :=
 ∀ j v,cs[j]? = some v -> w.cell? ⟨b,off + j,none⟩ = some v /\ Im b (off + j)

def uQ (k : IntKind) (n : Int) : Prop:=k.min <= n /\ n <= k.max

def eP (A : AV) (v : Value) : Prop :=
 (dK A = true -> ∃ cs,v = .agg cs) /\ (dK A = false -> v.cells = #[v])

mutual
def Rd (w : World) (Im : Nat -> Nat -> Prop) : AV -> List Value -> Prop
 | .bool b,cs=>cs = [.bool b]
 | .tt,cs=>cs = [.bool true]
 | .ff,cs=>cs = [.bool false]
 | .dec p,cs=>∃ b,cs = [.bool b] /\ (b = true ↔ p)
 | .int k n,cs=>cs = [.int k n] /\ uQ k n
 | .str s,cs=>cs = [.string ⟨s.toArray⟩] /\ s.length <= maxL
 | .eX,cs=>cs = [.nilIface]
 | .jm t x,cs=>∃ v,cs = [.iface t v] /\ eP x v /\ Rd w Im x v.cells.toList
 | .aG,cs=>cs = [.slice none 0 0]
 | .sl sz l .no,cs=>l.length <= maxL /\ ((l = [] /\ cs = [.slice none 0 0]) \/
   ∃ a cap,cs = [.slice (some a) l.length cap] /\ l.length <= cap /\ cap <= maxL /\ (l ≠ [] -> a.spot = none) /\ sD w Im sz a.block l a.off)
 | .cp x,cs=>∃ a ds,cs = [.pointer (some a)] /\ a.spot = none /\ jH w Im a.block a.off ds /\ Rd w Im x ds
 | .gI,cs=>cs = [.pointer none]
 | .fn f cap,cs=>∃ vs,cs = [.func (.func f) #[] vs.toArray] /\ Vs w Im cap vs
 | .aH,cs=>cs = [.nilFunc]
 | .iQ,cs=>cs = [.map none]
 | .ag l,cs=>lN w Im l cs
 | _,_=>False
def lN (w : World) (Im : Nat -> Nat -> Prop) : List AV -> List Value -> Prop
 | [],cs=>cs = []
 | x :: l,cs=>∃ c d,cs = c ++ d /\ Rd w Im x c /\ lN w Im l d
def sD (w : World) (Im : Nat -> Nat -> Prop) (sz b : Nat) : List AV -> Nat -> Prop
 | [],_=>True
 | x :: l,off=>(∃ cs,cs.length = sz /\ jH w Im b off cs /\ Rd w Im x cs) /\ sD w Im sz b l (off + sz)
def Vs (w : World) (Im : Nat -> Nat -> Prop) : List AV -> List Value -> Prop
 | [],vs=>vs = []
 | x :: l,vs=>∃ v r,vs = v :: r /\ eP x v /\ Rd w Im x v.cells.toList /\ Vs w Im l r
end

structure Cx where
 w : World
 Im : Nat -> Nat -> Prop
 ρ : Nat -> Nat
 nx : Nat
 tk : Nat -> Option Addr × Nat
 tp : Nat -> Option Nat

mutual
def VR (c : Cx) : AV -> List Value -> Prop
 | .ptr k _ off,cs=>k < c.nx /\ cs = [.pointer (some ⟨c.ρ k,off,none⟩)]
 | .ms k off len cap sz,cs=>k < c.nx /\ cs = [.slice (some ⟨c.ρ k,off * sz,none⟩) len cap] /\ len <= cap /\ cap <= maxL
 | .sl sz l .full,cs=>Rd c.w c.Im (.sl sz l .no) cs /\ ∃ a,cs = [.slice a l.length l.length]
 | .sl sz l (.own k),cs=>k < c.nx /\ Rd c.w c.Im (.sl sz l .no) cs /\
   ∀ n,c.tp k = some n -> l.length <= n /\ (l.length = n -> cs = [.slice (c.tk k).1 n (c.tk k).2])
 | .mp k,cs=>k < c.nx /\ cs = [.map (some (c.ρ k))]
 | .bm f k,cs=>k < c.nx /\ cs = [.func (.func f) #[.pointer (some ⟨c.ρ k,0,none⟩)] #[]]
 | .gs k len,cs=>k < c.nx /\ (∃ a n m,cs = [.slice a n m]) /\ ∀ n,c.tp k = some n -> len <= n /\ (len = n -> cs = [.slice (c.tk k).1 n (c.tk k).2])
 | .fn f cap,cs=>∃ vs,cs = [.func (.func f) #[] vs.toArray] /\ VA c cap vs
 | .ag l,cs=>lU c l cs
 | .jm t x,cs=>∃ v,cs = [.iface t v] /\ eP x v /\ VR c x v.cells.toList
 | A,cs=>Rd c.w c.Im A cs
def lU (c : Cx) : List AV -> List Value -> Prop
 | [],cs=>cs = []
 | x :: l,cs=>∃ a d,cs = a ++ d /\ VR c x a /\ lU c l d
def VA (c : Cx) : List AV -> List Value -> Prop
 | [],vs=>vs = []
 | x :: l,vs=>∃ v r,vs = v :: r /\ eP x v /\ VR c x v.cells.toList /\ VA c l r
end

def VV (c : Cx) (A : AV) (v : Value) : Prop:=eP A v /\ VR c A v.cells.toList

def EV (c : Cx) : AV -> Value -> Prop
 | .und,_=>True
 | .eU l,v=>∃ vs,v = .tuple vs /\ VA c l vs.toList
 | A,v=>VV c A v

theorem Aq {w w' : World} {Im OX : Nat -> Nat -> Prop} (h : ∀ b o,Im b o -> OX b o /\ w'.cell? ⟨b,o,none⟩ = w.cell? ⟨b,o,none⟩)
  {b off : Nat} {cs : List Value} (hc : jH w Im b off cs) : jH w' OX b off cs:=by
 intro j v hj
 obtain ⟨h1,h2⟩:=hc j v hj
 exact ⟨(h _ _ h2).2.trans h1,(h _ _ h2).1⟩

mutual
theorem eF {w w' : World} {Im OX : Nat -> Nat -> Prop} (h : ∀ b o,Im b o -> OX b o /\ w'.cell? ⟨b,o,none⟩ = w.cell? ⟨b,o,none⟩) :
  ∀ (A : AV) (cs : List Value),Rd w Im A cs -> Rd w' OX A cs
 | .bool _,_,hr=>by simpa only [Rd] using hr
 | .tt,_,hr=>by simpa only [Rd] using hr
 | .ff,_,hr=>by simpa only [Rd] using hr
 | .dec _,_,hr=>by simpa only [Rd] using hr
 | .int _ _,_,hr=>by simpa only [Rd] using hr
 | .str _,_,hr=>by simpa only [Rd] using hr
 | .eX,_,hr=>by simpa only [Rd] using hr
 | .jm t x,cs,hr=>by
   simp only [Rd] at hr ⊢
   obtain ⟨v,h1,h2,h3⟩:=hr
   exact ⟨v,h1,h2,eF h x _ h3⟩
 | .aG,_,hr=>by simpa only [Rd] using hr
 | .sl sz l .no,cs,hr=>by
   simp only [Rd] at hr ⊢
   obtain ⟨h0,hr⟩:=hr
   refine ⟨h0,hr.imp id ?_⟩
   rintro ⟨a,cap,h1,h2,h3,h4,h5⟩
   exact ⟨a,cap,h1,h2,h3,h4,H9 h _ _ l _ h5⟩
 | .sl sz l .full,cs,hr=>by simp only [Rd] at hr
 | .sl sz l (.own _),cs,hr=>by simp only [Rd] at hr
 | .ms _ _ _ _ _,_,hr=>by simp only [Rd] at hr
 | .ag l,cs,hr=>by
   simp only [Rd] at hr ⊢
   exact OO h l cs hr
 | .eU _,_,hr=>by simp only [Rd] at hr
 | .ptr _ _ _,_,hr=>by simp only [Rd] at hr
 | .cp x,cs,hr=>by
   simp only [Rd] at hr ⊢
   obtain ⟨a,ds,h1,h2,h3,h4⟩:=hr
   exact ⟨a,ds,h1,h2,Aq h h3,eF h x _ h4⟩
 | .gI,_,hr=>by simpa only [Rd] using hr
 | .fn f cap,cs,hr=>by
   simp only [Rd] at hr ⊢
   obtain ⟨vs,h1,h2⟩:=hr
   exact ⟨vs,h1,OV h cap vs h2⟩
 | .aH,_,hr=>by simpa only [Rd] using hr
 | .mp _,_,hr=>by simp only [Rd] at hr
 | .iQ,_,hr=>by simpa only [Rd] using hr
 | .gs _ _,_,hr=>by simp only [Rd] at hr
 | .bm _ _,_,hr=>by simp only [Rd] at hr
 | .und,_,hr=>by simp only [Rd] at hr
theorem OO {w w' : World} {Im OX : Nat -> Nat -> Prop} (h : ∀ b o,Im b o -> OX b o /\ w'.cell? ⟨b,o,none⟩ = w.cell? ⟨b,o,none⟩) :
  ∀ (l : List AV) (cs : List Value),lN w Im l cs -> lN w' OX l cs
 | [],_,hr=>by simpa only [lN] using hr
 | x :: l,cs,hr=>by
   simp only [lN] at hr ⊢
   obtain ⟨c,d,h1,h2,h3⟩:=hr
   exact ⟨c,d,h1,eF h x _ h2,OO h l _ h3⟩
theorem H9 {w w' : World} {Im OX : Nat -> Nat -> Prop} (h : ∀ b o,Im b o -> OX b o /\ w'.cell? ⟨b,o,none⟩ = w.cell? ⟨b,o,none⟩) (sz b : Nat) :
  ∀ (l : List AV) (off : Nat),sD w Im sz b l off -> sD w' OX sz b l off
 | [],_,_=>by simp only [sD]
 | x :: l,off,hr=>by
   simp only [sD] at hr ⊢
   obtain ⟨⟨cs,h1,h2,h3⟩,h4⟩:=hr
   exact ⟨⟨cs,h1,Aq h h2,eF h x _ h3⟩,H9 h sz b l _ h4⟩
theorem OV {w w' : World} {Im OX : Nat -> Nat -> Prop} (h : ∀ b o,Im b o -> OX b o /\ w'.cell? ⟨b,o,none⟩ = w.cell? ⟨b,o,none⟩) :
  ∀ (l : List AV) (vs : List Value),Vs w Im l vs -> Vs w' OX l vs
 | [],_,hr=>by simpa only [Vs] using hr
 | x :: l,vs,hr=>by
   simp only [Vs] at hr ⊢
   obtain ⟨v,r,h1,h2,h3,h4⟩:=hr
   exact ⟨v,r,h1,h2,eF h x _ h3,OV h l _ h4⟩
end

structure Cx.Le (c d : Cx) : Prop where
 im : ∀ b o,c.Im b o -> d.Im b o /\ d.w.cell? ⟨b,o,none⟩ = c.w.cell? ⟨b,o,none⟩
 nx : c.nx <= d.nx
 ρ : ∀ k,k < c.nx -> d.ρ k = c.ρ k
 tk : ∀ k n,k < c.nx -> d.tp k = some n -> (c.tp k = some n /\ d.tk k = c.tk k) \/ ∃ m,c.tp k = some m /\ m < n

mutual
theorem oH {c d : Cx} (h : c.Le d) : ∀ (A : AV) (cs : List Value),VR c A cs -> VR d A cs
 | .bool _,cs,hr=>by simp only [VR] at hr ⊢; exact eF h.im _ _ hr
 | .tt,_,hr=>by simp only [VR] at hr ⊢; exact eF h.im _ _ hr
 | .ff,_,hr=>by simp only [VR] at hr ⊢; exact eF h.im _ _ hr
 | .dec _,_,hr=>by simp only [VR] at hr ⊢; exact eF h.im _ _ hr
 | .int _ _,_,hr=>by simp only [VR] at hr ⊢; exact eF h.im _ _ hr
 | .str _,_,hr=>by simp only [VR] at hr ⊢; exact eF h.im _ _ hr
 | .eX,_,hr=>by simp only [VR] at hr ⊢; exact eF h.im _ _ hr
 | .jm t x,cs,hr=>by
   simp only [VR] at hr ⊢
   obtain ⟨v,h1,h2,h3⟩:=hr
   exact ⟨v,h1,h2,oH h x _ h3⟩
 | .aG,_,hr=>by simp only [VR] at hr ⊢; exact eF h.im _ _ hr
 | .sl _ _ .no,_,hr=>by simp only [VR] at hr ⊢; exact eF h.im _ _ hr
 | .sl _ _ .full,_,hr=>by simp only [VR] at hr ⊢; exact ⟨eF h.im _ _ hr.1,hr.2⟩
 | .sl sz l (.own k),cs,hr=>by
   simp only [VR] at hr ⊢
   obtain ⟨h1,h2,h3⟩:=hr
   refine ⟨Nat.lt_of_lt_of_le h1 h.nx,eF h.im _ _ h2,fun n hn=>?_⟩
   rcases h.tk k n h1 hn with ⟨h4,h5⟩ | ⟨m,h4,h5⟩
   ·rw [h5]; exact h3 n h4
   ·have:=(h3 m h4).1; exact ⟨by omega,fun e=>by omega⟩
 | .ms k _ _ _ _,_,hr=>by
   simp only [VR] at hr ⊢
   rw [h.ρ k hr.1]
   exact ⟨Nat.lt_of_lt_of_le hr.1 h.nx,hr.2⟩
 | .ag l,cs,hr=>by
   simp only [VR] at hr ⊢
   exact OM h l cs hr
 | .eU _,_,hr=>by simp only [VR] at hr ⊢; exact eF h.im _ _ hr
 | .ptr k _ _,_,hr=>by
   simp only [VR] at hr ⊢
   rw [h.ρ k hr.1]
   exact ⟨Nat.lt_of_lt_of_le hr.1 h.nx,hr.2⟩
 | .cp x,cs,hr=>by simp only [VR] at hr ⊢; exact eF h.im _ _ hr
 | .gI,_,hr=>by simp only [VR] at hr ⊢; exact eF h.im _ _ hr
 | .fn f cap,cs,hr=>by
   simp only [VR] at hr ⊢
   obtain ⟨vs,h1,h2⟩:=hr
   exact ⟨vs,h1,LG h cap vs h2⟩
 | .aH,_,hr=>by simp only [VR] at hr ⊢; exact eF h.im _ _ hr
 | .mp k,_,hr=>by
   simp only [VR] at hr ⊢
   rw [h.ρ k hr.1]
   exact ⟨Nat.lt_of_lt_of_le hr.1 h.nx,hr.2⟩
 | .bm f k,_,hr=>by
   simp only [VR] at hr ⊢
   rw [h.ρ k hr.1]
   exact ⟨Nat.lt_of_lt_of_le hr.1 h.nx,hr.2⟩
 | .gs k len,_,hr=>by
   simp only [VR] at hr ⊢
   obtain ⟨h1,h2,h3⟩:=hr
   refine ⟨Nat.lt_of_lt_of_le h1 h.nx,h2,fun n hn=>?_⟩
   rcases h.tk k n h1 hn with ⟨h4,h5⟩ | ⟨m,h4,h5⟩
   ·rw [h5]; exact h3 n h4
   ·have:=(h3 m h4).1; exact ⟨by omega,fun e=>by omega⟩
 | .iQ,_,hr=>by simp only [VR] at hr ⊢; exact eF h.im _ _ hr
 | .und,_,hr=>by simp only [VR] at hr ⊢; exact eF h.im _ _ hr
theorem OM {c d : Cx} (h : c.Le d) : ∀ (l : List AV) (cs : List Value),lU c l cs -> lU d l cs
 | [],_,hr=>by simpa only [lU] using hr
 | x :: l,cs,hr=>by
   simp only [lU] at hr ⊢
   obtain ⟨a,e,h1,h2,h3⟩:=hr
   exact ⟨a,e,h1,oH h x _ h2,OM h l _ h3⟩
theorem LG {c d : Cx} (h : c.Le d) : ∀ (l : List AV) (vs : List Value),VA c l vs -> VA d l vs
 | [],_,hr=>by simpa only [VA] using hr
 | x :: l,vs,hr=>by
   simp only [VA] at hr ⊢
   obtain ⟨v,r,h1,h2,h3,h4⟩:=hr
   exact ⟨v,r,h1,h2,oH h x _ h3,LG h l _ h4⟩
end

theorem oG {c d : Cx} (h : c.Le d) {A : AV} {v : Value} (hv : VV c A v) : VV d A v:=⟨hv.1,oH h _ _ hv.2⟩

theorem mP {c d : Cx} (h : c.Le d) : ∀ {A : AV} {v : Value},EV c A v -> EV d A v:=by
 intro A v hv
 cases A <;> first
  | exact oG h hv
  | trivial
  | (obtain ⟨vs,h1,h2⟩:=hv; exact ⟨vs,h1,LG h _ _ h2⟩)

end Go.AL

namespace Go.AL

mutual
theorem dh {w : World} {Im : Nat -> Nat -> Prop} : ∀ (A : AV) (cs : List Value),Rd w Im A cs -> cs.length = flat A
 | .bool _,_,hr=>by simp only [Rd] at hr; subst hr; rfl
 | .tt,_,hr=>by simp only [Rd] at hr; subst hr; rfl
 | .ff,_,hr=>by simp only [Rd] at hr; subst hr; rfl
 | .dec _,_,hr=>by simp only [Rd] at hr; obtain ⟨b,rfl,_⟩:=hr; rfl
 | .int _ _,_,hr=>by simp only [Rd] at hr; obtain ⟨rfl,_⟩:=hr; rfl
 | .str _,_,hr=>by simp only [Rd] at hr; obtain ⟨rfl,_⟩:=hr; rfl
 | .eX,_,hr=>by simp only [Rd] at hr; subst hr; rfl
 | .jm t x,cs,hr=>by simp only [Rd] at hr; obtain ⟨v,rfl,_⟩:=hr; rfl
 | .aG,_,hr=>by simp only [Rd] at hr; subst hr; rfl
 | .sl sz l .no,cs,hr=>by
   simp only [Rd] at hr
   obtain ⟨_,⟨_,rfl⟩ | ⟨a,cap,rfl,_⟩⟩:=hr <;> rfl
 | .sl sz l .full,cs,hr=>by simp only [Rd] at hr
 | .sl sz l (.own _),cs,hr=>by simp only [Rd] at hr
 | .ms _ _ _ _ _,_,hr=>by simp only [Rd] at hr
 | .ag l,cs,hr=>by
   simp only [Rd] at hr
   simp only [flat]
   exact H7 l cs hr
 | .eU _,_,hr=>by simp only [Rd] at hr
 | .ptr _ _ _,_,hr=>by simp only [Rd] at hr
 | .cp x,cs,hr=>by simp only [Rd] at hr; obtain ⟨a,ds,rfl,_⟩:=hr; rfl
 | .gI,_,hr=>by simp only [Rd] at hr; subst hr; rfl
 | .fn _ _,_,hr=>by simp only [Rd] at hr; obtain ⟨_,rfl,_⟩:=hr; rfl
 | .aH,_,hr=>by simp only [Rd] at hr; subst hr; rfl
 | .mp _,_,hr=>by simp only [Rd] at hr
 | .gs _ _,_,hr=>by simp only [Rd] at hr
 | .bm _ _,_,hr=>by simp only [Rd] at hr
 | .iQ,_,hr=>by simp only [Rd] at hr; subst hr; rfl
 | .und,_,hr=>by simp only [Rd] at hr
theorem H7 {w : World} {Im : Nat -> Nat -> Prop} : ∀ (l : List AV) (cs : List Value),lN w Im l cs -> cs.length = iJ l
 | [],_,hr=>by simp only [lN] at hr; subst hr; rfl
 | x :: l,cs,hr=>by
   simp only [lN] at hr
   obtain ⟨c,d,rfl,h2,h3⟩:=hr
   simp only [iJ,List.length_append,dh x _ h2,H7 l _ h3]
end

mutual
theorem gu {c : Cx} : ∀ (A : AV) (cs : List Value),VR c A cs -> cs.length = flat A
 | .bool _,_,hr=>by simp only [VR] at hr; exact dh _ _ hr
 | .tt,_,hr=>by simp only [VR] at hr; exact dh _ _ hr
 | .ff,_,hr=>by simp only [VR] at hr; exact dh _ _ hr
 | .dec _,_,hr=>by simp only [VR] at hr; exact dh _ _ hr
 | .int _ _,_,hr=>by simp only [VR] at hr; exact dh _ _ hr
 | .str _,_,hr=>by simp only [VR] at hr; exact dh _ _ hr
 | .eX,_,hr=>by simp only [VR] at hr; exact dh _ _ hr
 | .jm t x,cs,hr=>by simp only [VR] at hr; obtain ⟨v,rfl,_⟩:=hr; rfl
 | .aG,_,hr=>by simp only [VR] at hr; exact dh _ _ hr
 | .sl sz l .no,cs,hr=>by simp only [VR] at hr; exact dh _ _ hr
 | .sl sz l .full,cs,hr=>by simp only [VR] at hr; exact dh (.sl sz l .no) _ hr.1
 | .sl sz l (.own _),cs,hr=>by simp only [VR] at hr; exact dh (.sl sz l .no) _ hr.2.1
 | .ms _ _ _ _ _,_,hr=>by simp only [VR] at hr; obtain ⟨_,rfl,_⟩:=hr; rfl
 | .ag l,cs,hr=>by
   simp only [VR] at hr
   simp only [flat]
   exact Hw l cs hr
 | .eU _,_,hr=>by simp only [VR] at hr; exact dh _ _ hr
 | .ptr _ _ _,_,hr=>by simp only [VR] at hr; obtain ⟨_,rfl⟩:=hr; rfl
 | .cp x,cs,hr=>by simp only [VR] at hr; exact dh _ _ hr
 | .gI,_,hr=>by simp only [VR] at hr; exact dh _ _ hr
 | .fn _ _,_,hr=>by simp only [VR] at hr; obtain ⟨_,rfl,_⟩:=hr; rfl
 | .aH,_,hr=>by simp only [VR] at hr; exact dh _ _ hr
 | .mp _,_,hr=>by simp only [VR] at hr; obtain ⟨_,rfl⟩:=hr; rfl
 | .gs _ _,_,hr=>by simp only [VR] at hr; obtain ⟨_,⟨_,_,_,rfl⟩,_⟩:=hr; rfl
 | .bm _ _,_,hr=>by simp only [VR] at hr; obtain ⟨_,rfl⟩:=hr; rfl
 | .iQ,_,hr=>by simp only [VR] at hr; exact dh _ _ hr
 | .und,_,hr=>by simp only [VR] at hr; exact dh _ _ hr
theorem Hw {c : Cx} : ∀ (l : List AV) (cs : List Value),lU c l cs -> cs.length = iJ l
 | [],_,hr=>by simp only [lU] at hr; subst hr; rfl
 | x :: l,cs,hr=>by
   simp only [lU] at hr
   obtain ⟨a,d,rfl,h2,h3⟩:=hr
   simp only [iJ,List.length_append,gu x _ h2,Hw l _ h3]
end

def mkV (A : AV) (cs : List Value) : Value:=match A with
 | .ag _=>.agg cs.toArray
 | _=>cs.getD 0 default

theorem nI {c : Cx} {A : AV} {cs : List Value} (h : VR c A cs) (hA : dK A = false) : ∃ v,cs = [v] /\ v.cells = #[v]:=by
 cases A with
 | ag l=>simp [dK] at hA
 | dec p=>simp only [VR,Rd] at h; obtain ⟨b,rfl,_⟩:=h; exact ⟨_,rfl,rfl⟩
 | sl sz l tok =>
   cases tok with
   | no=>simp only [VR,Rd] at h; obtain ⟨_,⟨_,rfl⟩ | ⟨a,cap,rfl,_⟩⟩:=h <;> exact ⟨_,rfl,rfl⟩
   | full=>simp only [VR,Rd] at h; obtain ⟨⟨_,⟨_,rfl⟩ | ⟨a,cap,rfl,_⟩⟩,_⟩:=h <;> exact ⟨_,rfl,rfl⟩
   | own k=>simp only [VR,Rd] at h; obtain ⟨_,⟨_,⟨_,rfl⟩ | ⟨a,cap,rfl,_⟩⟩,_⟩:=h <;> exact ⟨_,rfl,rfl⟩
 | jm t x=>simp only [VR] at h; obtain ⟨v,rfl,_⟩:=h; exact ⟨_,rfl,rfl⟩
 | cp x=>simp only [VR,Rd] at h; obtain ⟨a,ds,rfl,_⟩:=h; exact ⟨_,rfl,rfl⟩
 | fn f cap=>simp only [VR] at h; obtain ⟨vs,rfl,_⟩:=h; exact ⟨_,rfl,rfl⟩
 | eU l=>simp only [VR,Rd] at h
 | und=>simp only [VR,Rd] at h
 | ptr=>simp only [VR] at h; obtain ⟨_,rfl⟩:=h; exact ⟨_,rfl,rfl⟩
 | ms=>simp only [VR] at h; obtain ⟨_,rfl,_⟩:=h; exact ⟨_,rfl,rfl⟩
 | mp=>simp only [VR] at h; obtain ⟨_,rfl⟩:=h; exact ⟨_,rfl,rfl⟩
 | gs=>simp only [VR] at h; obtain ⟨_,⟨_,_,_,rfl⟩,_⟩:=h; exact ⟨_,rfl,rfl⟩
 | bm=>simp only [VR] at h; obtain ⟨_,rfl⟩:=h; exact ⟨_,rfl,rfl⟩
 | int=>simp only [VR,Rd] at h; obtain ⟨rfl,_⟩:=h; exact ⟨_,rfl,rfl⟩
 | str=>simp only [VR,Rd] at h; obtain ⟨rfl,_⟩:=h; exact ⟨_,rfl,rfl⟩
 | _=>simp only [VR,Rd] at h; subst h; exact ⟨_,rfl,rfl⟩

theorem Uf {c : Cx} {A : AV} {cs : List Value} (h : VR c A cs) : (mkV A cs).cells.toList = cs:=by
 cases hA : dK A with
 | true=>cases A <;> simp [dK] at hA; simp [mkV,Value.cells]
 | false =>
   obtain ⟨v,rfl,hv⟩:=nI h hA
   have : mkV A [v] = v:=by cases A <;> simp [dK] at hA <;> rfl
   rw [this,hv]

theorem LC {c : Cx} {A : AV} {cs : List Value} (h : VR c A cs) : VV c A (mkV A cs):=by
 refine ⟨⟨fun hA=>?_,fun hA=>?_⟩,by rw [Uf h]; exact h⟩
 ·cases A <;> simp [dK] at hA; exact ⟨_,rfl⟩
 ·obtain ⟨v,rfl,hv⟩:=nI h hA
  have : mkV A [v] = v:=by cases A <;> simp [dK] at hA <;> rfl
  rw [this,hv]

theorem AP {c : Cx} {A : AV} {v : Value} (h : VR c A [v]) (hA : dK A = false) : VV c A v:=by
 obtain ⟨u,hu,hv⟩:=nI h hA
 obtain rfl : v = u:=by simpa using hu
 exact ⟨⟨fun h=>by simp [h] at hA,fun _=>hv⟩,by rw [hv]; exact h⟩

theorem Vf {c : Cx} {A : AV} {v : Value} (h : VV c A v) (hA : dK A = false) : VR c A [v]:=by
 have:=h.2; rw [h.1.2 hA] at this; exact this

mutual
def nU : AV -> Bool
 | .ptr _ _ _ | .ms _ _ _ _ _ | .mp _ | .gs _ _ | .bm _ _ | .eU _ | .und=>false
 | .fn _ cap=>yw cap
 | .ag l=>yw l
 | .jm _ x=>nU x
 | _=>true
def yw : List AV -> Bool
 | []=>true
 | x :: l=>match nU x with | true=>yw l | false=>false
end

mutual
def strip : AV -> AV
 | .sl sz l _=>.sl sz l .no
 | .ag l=>.ag (stripL l)
 | .jm t x=>.jm t (strip x)
 | .fn f cap=>.fn f (stripL cap)
 | A=>A
def stripL : List AV -> List AV
 | []=>[]
 | x :: l=>strip x :: stripL l
end

theorem PW (A : AV) : dK (strip A) = dK A:=by cases A <;> rfl

theorem zf {A : AV} {v : Value} (h : eP A v) : eP (strip A) v:=by
 unfold eP at *; rw [PW]; exact h

mutual
theorem pY {c : Cx} : ∀ (A : AV) (cs : List Value),nU A = true -> VR c A cs -> Rd c.w c.Im (strip A) cs
 | .bool _,_,_,hr=>by simpa only [VR,strip] using hr
 | .tt,_,_,hr=>by simpa only [VR,strip] using hr
 | .ff,_,_,hr=>by simpa only [VR,strip] using hr
 | .dec _,_,_,hr=>by simpa only [VR,strip] using hr
 | .int _ _,_,_,hr=>by simpa only [VR,strip] using hr
 | .str _,_,_,hr=>by simpa only [VR,strip] using hr
 | .eX,_,_,hr=>by simpa only [VR,strip] using hr
 | .jm t x,cs,hp,hr=>by
   simp only [VR] at hr
   obtain ⟨v,rfl,h2,h3⟩:=hr
   simp only [strip,Rd]
   exact ⟨v,rfl,zf h2,pY x _ hp h3⟩
 | .aG,_,_,hr=>by simpa only [VR,strip] using hr
 | .sl sz l .no,cs,_,hr=>by simpa only [VR,strip] using hr
 | .sl sz l .full,cs,_,hr=>by simp only [VR] at hr; simpa only [strip] using hr.1
 | .sl sz l (.own _),cs,_,hr=>by simp only [VR] at hr; simpa only [strip] using hr.2.1
 | .ms _ _ _ _ _,_,hp,_=>by simp [nU] at hp
 | .ag l,cs,hp,hr=>by
   simp only [VR] at hr
   simp only [strip,Rd]
   exact JI l cs hp hr
 | .eU _,_,hp,_=>by simp [nU] at hp
 | .ptr _ _ _,_,hp,_=>by simp [nU] at hp
 | .cp x,cs,_,hr=>by simpa only [VR,strip] using hr
 | .gI,_,_,hr=>by simpa only [VR,strip] using hr
 | .fn f cap,cs,hp,hr=>by
   simp only [VR] at hr
   obtain ⟨vs,h1,h2⟩:=hr
   simp only [strip,Rd]
   exact ⟨vs,h1,JL cap vs hp h2⟩
 | .aH,_,_,hr=>by simpa only [VR,strip] using hr
 | .mp _,_,hp,_=>by simp [nU] at hp
 | .gs _ _,_,hp,_=>by simp [nU] at hp
 | .bm _ _,_,hp,_=>by simp [nU] at hp
 | .iQ,_,_,hr=>by simpa only [VR,strip] using hr
 | .und,_,hp,_=>by simp [nU] at hp
theorem JI {c : Cx} : ∀ (l : List AV) (cs : List Value),yw l = true -> lU c l cs -> lN c.w c.Im (stripL l) cs
 | [],_,_,hr=>by simpa only [lU,stripL,lN] using hr
 | x :: l,cs,hp,hr=>by
   simp only [lU] at hr
   obtain ⟨a,d,h1,h2,h3⟩:=hr
   simp only [stripL,lN]
   simp only [yw] at hp
   cases hx : nU x with
   | false=>simp [hx] at hp
   | true=>rw [hx] at hp; exact ⟨a,d,h1,pY x _ hx h2,JI l _ hp h3⟩
theorem JL {c : Cx} : ∀ (l : List AV) (vs : List Value),yw l = true -> VA c l vs -> Vs c.w c.Im (stripL l) vs
 | [],_,_,hr=>by simpa only [VA,stripL,Vs] using hr
 | x :: l,vs,hp,hr=>by
   simp only [VA] at hr
   obtain ⟨v,r,h1,h2,h3,h4⟩:=hr
   simp only [stripL,Vs]
   simp only [yw] at hp
   cases hx : nU x with
   | false=>simp [hx] at hp
   | true=>rw [hx] at hp; exact ⟨v,r,h1,zf h2,pY x _ hx h3,JL l _ hp h4⟩
end

mutual
theorem iM {c : Cx} : ∀ (A : AV) (cs : List Value),Rd c.w c.Im A cs -> VR c A cs
 | .bool _,_,hr=>by simpa only [VR] using hr
 | .tt,_,hr=>by simpa only [VR] using hr
 | .ff,_,hr=>by simpa only [VR] using hr
 | .dec _,_,hr=>by simpa only [VR] using hr
 | .int _ _,_,hr=>by simpa only [VR] using hr
 | .str _,_,hr=>by simpa only [VR] using hr
 | .eX,_,hr=>by simpa only [VR] using hr
 | .jm t x,cs,hr=>by
   simp only [Rd] at hr
   obtain ⟨v,h1,h2,h3⟩:=hr
   simp only [VR]
   exact ⟨v,h1,h2,iM x _ h3⟩
 | .aG,_,hr=>by simpa only [VR] using hr
 | .sl sz l .no,cs,hr=>by simpa only [VR] using hr
 | .sl sz l .full,cs,hr=>by simp only [Rd] at hr
 | .sl sz l (.own _),cs,hr=>by simp only [Rd] at hr
 | .ms _ _ _ _ _,_,hr=>by simp only [Rd] at hr
 | .ag l,cs,hr=>by
   simp only [Rd] at hr
   simp only [VR]
   exact Hu l cs hr
 | .eU _,_,hr=>by simp only [Rd] at hr
 | .ptr _ _ _,_,hr=>by simp only [Rd] at hr
 | .cp x,cs,hr=>by simpa only [VR] using hr
 | .gI,_,hr=>by simpa only [VR] using hr
 | .fn f cap,cs,hr=>by
   simp only [Rd] at hr
   obtain ⟨vs,h1,h2⟩:=hr
   simp only [VR]
   exact ⟨vs,h1,JG cap vs h2⟩
 | .aH,_,hr=>by simpa only [VR] using hr
 | .gs _ _,_,hr=>by simp only [Rd] at hr
 | .bm _ _,_,hr=>by simp only [Rd] at hr
 | .mp _,_,hr=>by simp only [Rd] at hr
 | .iQ,_,hr=>by simpa only [VR] using hr
 | .und,_,hr=>by simp only [Rd] at hr
theorem Hu {c : Cx} : ∀ (l : List AV) (cs : List Value),lN c.w c.Im l cs -> lU c l cs
 | [],_,hr=>by simpa only [lU,lN] using hr
 | x :: l,cs,hr=>by
   simp only [lN] at hr
   obtain ⟨a,d,h1,h2,h3⟩:=hr
   simp only [lU]
   exact ⟨a,d,h1,iM x _ h2,Hu l _ h3⟩
theorem JG {c : Cx} : ∀ (l : List AV) (vs : List Value),Vs c.w c.Im l vs -> VA c l vs
 | [],_,hr=>by simpa only [VA,Vs] using hr
 | x :: l,vs,hr=>by
   simp only [Vs] at hr
   obtain ⟨v,r,h1,h2,h3,h4⟩:=hr
   simp only [VA]
   exact ⟨v,r,h1,h2,iM x _ h3,JG l _ h4⟩
end

theorem YC {c : Cx} {A : AV} {v : Value} (hs : eP A v) (h : Rd c.w c.Im A v.cells.toList) : VV c A v:=⟨hs,iM _ _ h⟩

theorem Tf {w : World} {Im : Nat -> Nat -> Prop} {sz b : Nat} : ∀ {l : List AV} {off i : Nat} {x : AV},sD w Im sz b l off -> l[i]? = some x ->
  ∃ cs,cs.length = sz /\ jH w Im b (off + i * sz) cs /\ Rd w Im x cs
 | [],_,_,_,_,h=>by simp at h
 | y :: l,off,0,x,hr,h=>by
   simp only [sD] at hr
   obtain rfl : y = x:=by simpa using h
   simpa using hr.1
 | y :: l,off,i + 1,x,hr,h=>by
   simp only [sD] at hr
   obtain ⟨cs,h1,h2,h3⟩:=Tf (i:=i) hr.2 (by simpa using h)
   refine ⟨cs,h1,?_,h3⟩
   have : off + (i + 1) * sz = off + sz + i * sz:=by rw [Nat.add_mul]; omega
   rw [this]; exact h2

theorem Ia {w : World} {Im : Nat -> Nat -> Prop} {sz b : Nat} : ∀ {l m : List AV} {off : Nat},sD w Im sz b l off -> sD w Im sz b m (off + l.length * sz) ->
  sD w Im sz b (l ++ m) off
 | [],m,off,_,h=>by simpa using h
 | x :: l,m,off,h,hm=>by
   simp only [sD,List.cons_append] at h ⊢
   refine ⟨h.1,Ia h.2 ?_⟩
   have : off + sz + l.length * sz = off + (x :: l).length * sz:=by simp [Nat.add_mul]; omega
   rw [this]; exact hm

theorem OU {w : World} {Im : Nat -> Nat -> Prop} {sz b : Nat} : ∀ {l : List AV} {off : Nat} (n : Nat),sD w Im sz b l off -> n <= l.length -> sD w Im sz b (l.drop n) (off + n * sz)
 | l,off,0,h,_=>by simpa using h
 | [],off,n + 1,_,hn=>by simp at hn
 | x :: l,off,n + 1,h,hn=>by
   simp only [sD] at h
   have:=OU (l:=l) (off:=off + sz) n h.2 (by simpa using hn)
   have e : off + (n + 1) * sz = off + sz + n * sz:=by rw [Nat.add_mul]; omega
   rw [e]; exact this

theorem OT {w : World} {Im : Nat -> Nat -> Prop} {sz b : Nat} : ∀ {l : List AV} {off : Nat} (n : Nat),sD w Im sz b l off -> sD w Im sz b (l.take n) off
 | l,off,0,h=>by simp [sD]
 | [],off,n + 1,h=>by simp [sD]
 | x :: l,off,n + 1,h=>by
   simp only [sD] at h
   simp only [List.take_succ_cons,sD]
   exact ⟨h.1,OT n h.2⟩

end Go.AL

namespace Go.AL

abbrev Env:=List (Nat × AV)

inductive HO where
 | box (A : AV)
 | arr (sz cap : Nat) (l : List AV)
 | tok (sz top : Nat)
 | dV (sh : AV) (es : List (AV × AV))
 | iT (sz : Nat) (l : List AV)
 | gone
 deriving Inhabited

abbrev Heap:=List (Nat × HO)

def xX : Env -> Nat -> (AV -> Prop) -> Prop
 | [],_,_=>False
 | (i,A) :: e,t,k=>match Nat.beq i t with | true=>k A | false=>xX e t k

def dR : Env -> Nat -> Option AV
 | [],_=>none
 | (i,A) :: e,t=>match Nat.beq i t with | true=>some A | false=>dR e t

theorem gU {k : AV -> Prop} : ∀ {e : Env} {t : Nat},xX e t k ↔ ∃ A,dR e t = some A /\ k A
 | [],t=>by simp [xX,dR]
 | (i,A) :: e,t=>by
   simp only [xX,dR]
   cases Nat.beq i t with
   | true=>simp
   | false=>exact gU

def iI : Heap -> Nat -> (HO -> Prop) -> Prop
 | [],_,_=>False
 | (i,o) :: H,n,k=>match Nat.beq i n with | true=>k o | false=>iI H n k

def hget : Heap -> Nat -> Option HO
 | [],_=>none
 | (i,o) :: H,n=>match Nat.beq i n with | true=>some o | false=>hget H n

theorem dD {k : HO -> Prop} : ∀ {H : Heap} {n : Nat},iI H n k ↔ ∃ o,hget H n = some o /\ k o
 | [],n=>by simp [iI,hget]
 | (i,o) :: H,n=>by
   simp only [iI,hget]
   cases Nat.beq i n with
   | true=>simp
   | false=>exact dD

def uK : Heap -> Nat -> HO -> (Heap -> Prop) -> Prop
 | [],_,_,_=>False
 | (i,o) :: H,n,o',k=>match Nat.beq i n with | true=>k ((i,o') :: H) | false=>uK H n o' fun H'=>k ((i,o) :: H')

def hset : Heap -> Nat -> HO -> Heap
 | [],_,_=>[]
 | (i,o) :: H,n,o'=>match Nat.beq i n with | true=>(i,o') :: H | false=>(i,o) :: hset H n o'

theorem iY : ∀ {H : Heap} {n : Nat} {o' : HO} {k : Heap -> Prop},uK H n o' k ↔ (∃ o,hget H n = some o) /\ k (hset H n o')
 | [],n,o',k=>by simp [uK,hget]
 | (i,o) :: H,n,o',k=>by
   simp only [uK,hget,hset]
   cases Nat.beq i n with
   | true=>simp
   | false=>exact iY

def nextId : Heap -> Nat
 | []=>0
 | (i,_) :: _=>i + 1

def aO (n : Nat) (k : Nat -> Prop) : Prop :=
 match n with
 | 0=>k 1 | 1=>k 2 | 2=>k 3 | 3=>k 4 | 4=>k 5 | 5=>k 6 | 6=>k 7 | 7=>k 8 | 8=>k 9 | 9=>k 10
 | 10=>k 11 | 11=>k 12 | 12=>k 13 | 13=>k 14 | 14=>k 15 | 15=>k 16 | 16=>k 17 | 17=>k 18 | 18=>k 19 | 19=>k 20
 | n + 20=>k (n + 21)

theorem IQ {n : Nat} {k : Nat -> Prop} : aO n k ↔ k (n + 1):=by
 unfold aO
 split <;> exact Iff.rfl

def oW (H : Heap) (o : HO) (k : Nat -> Heap -> Prop) : Prop :=
 match H with
 | []=>k 0 [(0,o)]
 | (i,x) :: H=>aO i fun j=>k j ((j,o) :: (i,x) :: H)

theorem eH {H : Heap} {o : HO} {k : Nat -> Heap -> Prop} : oW H o k ↔ k (nextId H) ((nextId H,o) :: H):=by
 cases H with
 | nil=>exact Iff.rfl
 | cons x H=>obtain ⟨i,x⟩:=x; simp only [oW,IQ,nextId]

def dG (H : Heap) (k : Nat) : Option Nat:=match hget H k with | some (.tok _ n)=>some n | some (.iT _ l)=>some l.length | _=>none

def LD (c : Cx) (sz : Nat) : List AV -> List Value -> Prop
 | [],_=>True
 | x :: l,cs=>∃ a d,cs = a ++ d /\ a.length = sz /\ Rd c.w c.Im x a /\ LD c sz l d

def Dp (c : Cx) : List (AV × AV) -> List MapEntry -> Prop
 | [],es=>es = []
 | (x,y) :: l,es=>∃ e r,es = e :: r /\ VV c x e.key /\ VV c y e.val /\ Dp c l r

def qA : IntKind -> IntKind -> Bool
 | .i8,.i8 | .i16,.i16 | .i32,.i32 | .i64,.i64 | .u8,.u8 | .u16,.u16 | .u32,.u32 | .u64,.u64=>true
 | _,_=>false

theorem gJ {a b : IntKind} (h : qA a b = true) : a = b:=by cases a <;> cases b <;> first | rfl | simp [qA] at h

mutual
def ay : AV -> AV -> Bool
 | .int k _,.int k' _=>qA k k'
 | .str _,.str _=>true
 | .ag l,.ag m=>bZ l m
 | _,_=>false
def bZ : List AV -> List AV -> Bool
 | [],[]=>true
 | x :: l,y :: m=>ay x y && bZ l m
 | _,_=>false
end

def OW (sh : AV) : List (AV × AV) -> Prop
 | []=>True
 | (x,_) :: l=>ay sh x = true /\ OW sh l

def HO.Ok (c : Cx) (k : Nat) : HO -> Prop
 | .box A=>∃ cs ty,c.w.heap[c.ρ k]? = some (.cells cs.toArray ty) /\ VR c A cs /\ ∀ o,¬ c.Im (c.ρ k) o
 | .arr sz cap l=>∃ cs ty,c.w.heap[c.ρ k]? = some (.cells cs.toArray ty) /\ cs.length = cap * sz /\ l.length <= cap /\ cap <= maxL /\ LD c sz l cs /\ ∀ o,¬ c.Im (c.ρ k) o
 | .tok sz top=>(c.tk k).2 = top \/ ∃ b cs ty,(c.tk k).1 = some ⟨b,0,none⟩ /\ c.w.heap[b]? = some (.cells cs ty) /\ cs.size = (c.tk k).2 * sz /\
   top <= (c.tk k).2 /\ (c.tk k).2 <= maxL /\ ∀ o,top * sz <= o -> ¬ c.Im b o
 | .dV sh es=>∃ ents clock,c.w.heap[c.ρ k]? = some (.map ents clock) /\ Dp c es ents.toList /\ OW sh es /\ (∀ e ∈ ents.toList,e.born < clock) /\ ents.toList.Pairwise fun a b=>a.key ≠ b.key
 | .iT sz l=>((c.tk k).1 = none /\ (c.tk k).2 = 0 /\ l = []) \/ ∃ b cs ty,(c.tk k).1 = some ⟨b,0,none⟩ /\ c.w.heap[b]? = some (.cells cs.toArray ty) /\ cs.length = (c.tk k).2 * sz /\
   l.length <= (c.tk k).2 /\ (c.tk k).2 <= maxL /\ LD c sz l cs /\ ∀ o,¬ c.Im b o
 | .gone=>True

def aQ (c : Cx) (x : Nat × HO) : Option Nat :=
 match x.2 with
 | .tok _ top=>if (c.tk x.1).2 = top then none else (c.tk x.1).1.map (·.block)
 | .iT _ _=>(c.tk x.1).1.map (·.block)
 | .gone=>none
 | _=>some (c.ρ x.1)

def au : Heap -> Prop
 | []=>True
 | (i,_) :: H=>(∀ x ∈ H,x.1 < i) /\ au H

structure HR (c : Cx) (H : Heap) : Prop where
 nx : c.nx = nextId H
 tp : c.tp = dG H
 ids : au H
 im : ∀ b o,c.Im b o -> b < c.w.heap.size
 ok : ∀ x ∈ H,x.2.Ok c x.1
 apart : H.Pairwise fun x y=>∀ b : Nat,aQ c x = some b -> aQ c y ≠ some b

structure Tr (c : Cx) (H : Heap) (d : Cx) (H' : Heap) : Prop where
 hr : HR d H'
 le : c.Le d
 os : d.w.os = c.w.os
 tape : d.w.tape = c.w.tape
 output : d.w.output = c.w.output
 size : c.w.heap.size <= d.w.heap.size
 fr : ∀ b,b < c.w.heap.size -> (∀ x ∈ H,aQ c x ≠ some b) -> d.w.heap[b]? = c.w.heap[b]?
 own : ∀ y ∈ H',∀ b,aQ d y = some b -> c.w.heap.size <= b \/ ∃ x ∈ H,aQ c x = some b
 ZI : ∀ b o,d.Im b o -> c.Im b o \/ c.w.heap.size <= b \/ ∃ x ∈ H,aQ c x = some b

theorem Cx.Le.refl (c : Cx) : c.Le c:=⟨fun _ _ h=>⟨h,rfl⟩,Nat.le_refl _,fun _ _=>rfl,fun _ _ _ h=>.inl ⟨h,rfl⟩⟩

theorem Cx.Le.trans {a b c : Cx} (h : a.Le b) (g : b.Le c) : a.Le c:=by
 refine ⟨fun x o hx=>?_,Nat.le_trans h.nx g.nx,fun k hk=>?_,fun k n hk hn=>?_⟩
 ·have h1:=h.im x o hx
  have h2:=g.im x o h1.1
  exact ⟨h2.1,h2.2.trans h1.2⟩
 ·exact (g.ρ k (Nat.lt_of_lt_of_le hk h.nx)).trans (h.ρ k hk)
 ·rcases g.tk k n (Nat.lt_of_lt_of_le hk h.nx) hn with ⟨h1,h2⟩ | ⟨m,h1,h2⟩
  ·rcases h.tk k n hk h1 with ⟨h3,h4⟩ | h3
   ·exact .inl ⟨h3,h2.trans h4⟩
   ·exact .inr h3
  ·rcases h.tk k m hk h1 with ⟨h3,h4⟩ | ⟨m',h3,h4⟩
   ·exact .inr ⟨m,h3,h2⟩
   ·exact .inr ⟨m',h3,by omega⟩

theorem Tr.refl {c : Cx} {H : Heap} (h : HR c H) : Tr c H c H :=
 ⟨h,.refl c,rfl,rfl,rfl,Nat.le_refl _,fun _ _ _=>rfl,fun y hy _ hb=>.inr ⟨y,hy,hb⟩,fun _ _ h=>.inl h⟩

theorem Tr.trans {a b c : Cx} {H H' QS : Heap} (h : Tr a H b H') (g : Tr b H' c QS) : Tr a H c QS:=by
 refine ⟨g.hr,h.le.trans g.le,g.os.trans h.os,g.tape.trans h.tape,g.output.trans h.output,Nat.le_trans h.size g.size,fun x hx hn=>?_,fun y hy x hx=>?_,fun x o hx=>?_⟩
 ·rw [g.fr x (Nat.lt_of_lt_of_le hx h.size) ?_,h.fr x hx hn]
  intro y hy hb
  rcases h.own y hy x hb with h1 | ⟨z,h1,h2⟩
  ·omega
  ·exact hn z h1 h2
 ·rcases g.own y hy x hx with h1 | ⟨z,h1,h2⟩
  ·exact .inl (Nat.le_trans h.size h1)
  ·exact h.own z h1 x h2
 ·rcases g.ZI x o hx with h1 | h1 | ⟨z,h1,h2⟩
  ·exact h.ZI x o h1
  ·exact .inr (.inl (Nat.le_trans h.size h1))
  ·exact .inr (h.own z h1 x h2)

theorem gK {i n : Nat} (h : Nat.beq i n = false) : i ≠ n:=by
 intro e; subst e; simp at h

theorem gZ : ∀ {H : Heap} {n : Nat} {o : HO},hget H n = some o -> (n,o) ∈ H
 | [],_,_,h=>by simp [hget] at h
 | (i,x) :: H,n,o,h=>by
   simp only [hget] at h
   cases hb : Nat.beq i n with
   | true =>
     rw [hb] at h
     obtain rfl:=Nat.eq_of_beq_eq_true hb
     simp at h; subst h; simp
   | false=>rw [hb] at h; exact List.mem_cons_of_mem _ (gZ h)

theorem mW : ∀ {H : Heap} {n : Nat} {o : HO},au H -> (n,o) ∈ H -> hget H n = some o
 | [],_,_,_,h=>by simp at h
 | (i,x) :: H,n,o,hi,h=>by
   simp only [au] at hi
   simp only [hget]
   rcases List.mem_cons.1 h with h | h
   ·simp at h; obtain ⟨rfl,rfl⟩:=h; simp
   ·have:=hi.1 _ h
    have hb : Nat.beq i n = false:=by
     cases hb : Nat.beq i n with
     | false=>rfl
     | true=>have:=Nat.eq_of_beq_eq_true hb; simp at *; omega
    rw [hb]; exact mW hi.2 h

theorem bH : ∀ {H : Heap},au H -> ∀ x ∈ H,x.1 < nextId H
 | [],_,x,h=>by simp at h
 | (i,y) :: H,hi,x,h=>by
   simp only [au] at hi
   simp only [nextId]
   rcases List.mem_cons.1 h with h | h
   ·subst h; exact Nat.lt_succ_self _
   ·have:=hi.1 _ h; omega

theorem HR.sW {c : Cx} {H : Heap} (h : HR c H) {k : Nat} {o : HO} (hk : hget H k = some o) : o.Ok c k:=h.ok _ (gZ hk)

end Go.AL

namespace Go.AL

inductive TD where
 | aS | bool | int (k : IntKind) | str | slice (e : Nat) | struct (fs : List (Nat × Nat × Nat)) | arr (n e : Nat) | map (k e : Nat) | iface | ptr (e : Nat) | other
 deriving Inhabited

structure TI where
 desc : TD
 bytes : Nat
 zero : AV
 key : Option AV:=none
 cmp : Bool:=false
 deriving Inhabited

inductive Lay where
 | nil
 | node (l : Lay) (t : Nat) (i : TI) (r : Lay)

def Lay.bM : Lay -> Nat -> (TI -> Prop) -> Prop
 | .nil,_,_=>False
 | .node l t i r,n,k=>match Nat.beq n t with
   | true=>k i
   | false=>match Nat.ble n t with
     | true=>l.bM n k
     | false=>r.bM n k

def descOf (P : Program) : TypeDesc -> TD
 | .bool=>.bool
 | .int k=>.int k
 | .string=>.str
 | .slice e=>.slice e
 | .struct fs=>.struct (fs.toList.map fun f=>(f.offset,P.cellsOf f.type,f.type))
 | .array n e=>.arr n e
 | .map k e=>.map k e
 | .interface _=>.iface
 | .pointer e=>.ptr e
 | .func ..=>.aS
 | _=>.other

def Xg : TD -> Bool
 | .struct _ | .arr _ _=>true
 | _=>false

def vg (n : Nat) : List AV -> List (Nat × Nat)
 | []=>[]
 | x :: l=>(n,flat x) :: vg (n + flat x) l

structure Ti (P : Program) (k : Nat) (sh : AV) : Prop where
 law : Go.Maps.Keyed P k
 rd : ∀ w Im A v,ay sh A = true -> eP A v -> Rd w Im A v.cells.toList -> ∃ l,keyOf P k v = some l

def jF : AV -> AV -> Bool
 | .int k _,.int k' _=>qA k k'
 | .str _,.str _=>true
 | .ff,.tt | .ff,.ff | .ff,.bool _ | .ff,.dec _=>true
 | _,_=>false
def gW : List AV -> List AV -> Bool
 | [],[]=>true
 | x :: l,y :: m=>match jF x y with | true=>gW l m | false=>false
 | _,_=>false

def ZG : AV -> Prop
 | .tt=>True
 | .bool b=>b = true
 | .dec p=>p
 | _=>False

def eqP : AV -> AV -> Prop
 | .int _ a,.int _ b=>a = b
 | .str a,.str b=>a = b
 | A,B=>(ZG A ↔ ZG B)
def NT : List AV -> List AV -> Prop
 | [],[]=>True
 | x :: l,y :: m=>eqP x y /\ NT l m
 | _,_=>False

structure EqOk (P : Program) (t : Nat) (zs : List AV) : Prop where
 run : ∀ w Im l m cs ds,gW zs l = true -> gW zs m = true -> lN w Im l cs.toList -> lN w Im m ds.toList -> ∃ r,(Op.equal t (.agg cs) (.agg ds)).run P w = .ok r w /\ (r = true ↔ cs = ds)
 grd : P.eqGuardType P.depth t = false

structure pX (P : Program) (t : Nat) (i : TI) : Prop where
 cmpd : i.cmp = true -> ∀ zs,i.zero = .ag zs -> EqOk P t zs
 keyed : ∀ k e sh,i.desc = .map k e -> i.key = some sh -> Ti P k sh
 info : ∃ x v,P.info? t = some x /\ x.size = flat i.zero /\ x.bytes = i.bytes /\ x.zero = some v /\ eP i.zero v /\ ∀ w Im,Rd w Im i.zero v.cells.toList
 desc : (P.underlying t).map (descOf P) = some i.desc
 agg : Xg i.desc = dK i.zero
 flds : ∀ fs,i.desc = .struct fs -> ∃ zs,i.zero = .ag zs /\ fs.map (fun f=>(f.1,f.2.1)) = vg 0 zs
 inf : ∀ fs,i.desc = .struct fs -> ∀ f ∈ fs,∃ x,P.info? f.2.2 = some x

def dS (P : Program) : Lay -> Prop
 | .nil=>True
 | .node l t i r=>pX P t i /\ dS P l /\ dS P r

theorem Lay.bC {P : Program} {k : TI -> Prop} : ∀ {L : Lay} {t : Nat},dS P L -> L.bM t k -> ∃ i,pX P t i /\ k i
 | .nil,_,_,h=>h.elim
 | .node l t' i r,t,hL,h=>by
   simp only [Lay.bM] at h
   cases hb : Nat.beq t t' with
   | true=>rw [hb] at h; obtain rfl:=Nat.eq_of_beq_eq_true hb; exact ⟨i,hL.1,h⟩
   | false =>
     rw [hb] at h
     cases hc : Nat.ble t t' with
     | true=>rw [hc] at h; exact Lay.bC hL.2.1 h
     | false=>rw [hc] at h; exact Lay.bC hL.2.2 h

def Gn (v : Value) (k : AV -> Prop) : Prop :=
 match v with
 | .bool true=>k .tt
 | .bool false=>k .ff
 | .int kd n=>k (.int kd n)
 | .string s=>k (.str s.data.toList)
 | .slice none 0 0=>k .aG
 | .nilIface=>k .eX
 | .pointer none=>k .gI
 | .map none=>k .iQ
 | .nilFunc=>k .aH
 | _=>False

def bW (e : Env) (x : Operand) (k : AV -> Prop) : Prop :=
 match x with
 | .tmp t=>xX e t k
 | .const v=>Gn v k
 | .func f=>k (.fn f [])
 | .global _=>False

def pK (e : Env) : List Operand -> (List AV -> Prop) -> Prop
 | [],k=>k []
 | x :: l,k=>bW e x fun A=>pK e l fun As=>k (A :: As)

def qw {α : Type} : List α -> Nat -> (α -> Prop) -> Prop
 | [],_,_=>False
 | x :: _,0,k=>k x
 | _ :: l,n + 1,k=>qw l n k

def jr : List AV -> Nat -> AV -> (List AV -> Prop) -> Prop
 | [],_,_,_=>False
 | _ :: l,0,y,k=>k (y :: l)
 | x :: l,n + 1,y,k=>jr l n y fun l'=>k (x :: l')

def IV : List Nat -> Nat -> (List Nat -> Prop) -> Prop
 | [],x,k=>k [x]
 | y :: l,x,k=>IV l x fun l'=>k (y :: l')

def OG : List AV -> List AV -> (List AV -> Prop) -> Prop
 | [],m,k=>k m
 | x :: l,m,k=>OG l m fun l'=>k (x :: l')

def vF : AV -> List Nat -> (AV -> Prop) -> Prop
 | A,[],k=>k A
 | .ag l,i :: p,k=>qw l i fun x=>vF x p k
 | _,_ :: _,_=>False

def zi : AV -> List Nat -> AV -> (AV -> Prop) -> Prop
 | _,[],y,k=>k y
 | .ag l,i :: p,y,k=>qw l i fun x=>zi x p y fun x'=>jr l i x' fun l'=>k (.ag l')
 | _,_ :: _,_,_=>False

def EX : AV -> List Nat -> Nat
 | .ag l,i :: p=>iJ (l.take i) + (match l[i]? with | some x=>EX x p | none=>0)
 | _,_=>0

def isVal : AV -> Bool
 | .eU _ | .und=>false
 | _=>true

def Ew (A : AV) (k : Prop) : Prop:=match isVal A with | true=>k | false=>False

def CB : List AV -> Prop -> Prop
 | [],k=>k
 | A :: l,k=>Ew A (CB l k)

def yJ (L : Lay) (t : Nat) (x : AV) (k : Prop) : Prop :=
 Ew x <| L.bM t fun i=>match Nat.beq (flat x) (flat i.zero) with
  | false=>False
  | true=>match dK x,dK i.zero with
    | true,true=>k
    | false,false=>k
    | _,_=>False

def kL (a b : Nat) (k : Prop) : Prop:=match Nat.beq a b with | true=>k | false=>False
def BU (a b : Nat) (k : Prop) : Prop:=match Nat.ble a b with | true=>k | false=>False

def br (A : AV) (kt kf : Prop) : Prop :=
 match A with
 | .tt=>kt
 | .ff=>kf
 | .bool b=>(b = true -> kt) /\ (b = false -> kf)
 | .dec p=>(p -> kt) /\ (¬ p -> kf)
 | _=>False

def arith (kd : IntKind) (z : Int) (k : AV -> Prop) : Prop :=
 match kd with
 | .i64=>uQ .i64 z /\ k (.int .i64 z)
 | kd=>k (.int kd (kd.wrap z))

def jD (op : BinOp) (k : IntKind) (x y : Int) : Int :=
 match op with
 | .and=>k.wrap (BitVec.ofInt k.bits x &&& BitVec.ofInt k.bits y).toNat
 | .or=>k.wrap (BitVec.ofInt k.bits x ||| BitVec.ofInt k.bits y).toNat
 | .xor=>k.wrap (BitVec.ofInt k.bits x ^^^ BitVec.ofInt k.bits y).toNat
 | _=>k.wrap (BitVec.ofInt k.bits x &&& ~~~ (BitVec.ofInt k.bits y)).toNat

def EJ (k : IntKind) (x y : Int) : Int:=k.wrap (x * 2 ^ min y.toNat k.bits)
def uO (k : IntKind) (x y : Int) : Int:=x.fdiv (2 ^ min y.toNat k.bits)

def uP : AV -> (AV -> Prop) -> Prop
 | .tt,k=>k .ff
 | .ff,k=>k .tt
 | .bool b,k=>k (.bool (!b))
 | .dec p,k=>k (.dec (¬ p))
 | _,_=>False

def GL (x : AV) (k : AV -> Prop) : Prop :=
 match x with
 | .tt=>k .tt | .ff=>k .ff | .bool b=>k (.bool b) | .dec p=>k (.dec p) | _=>False

def ZR (A B : AV) (k : AV -> Prop) : Prop :=
 match A,B with
 | .tt,x=>GL x k
 | x,.tt=>GL x k
 | .ff,x=>uP x k
 | x,.ff=>uP x k
 | .bool a,.bool b=>k (.dec (a = b))
 | .dec p,.dec q=>k (.dec (p ↔ q))
 | .dec p,.bool b=>k (.dec (p ↔ b = true))
 | .bool b,.dec p=>k (.dec (b = true ↔ p))
 | _,_=>False

def CQ (A B : AV) (k : AV -> Prop) : Prop :=
 match A,B with
 | .eX,.eX=>k .tt
 | .eX,.jm _ _=>k .ff
 | .jm _ _,.eX=>k .ff
 | _,_=>False

def vk (A B : AV) (k : AV -> Prop) : Prop :=
 match A,B with
 | .gI,.gI=>k .tt
 | .cp _,.gI=>k .ff
 | .ptr _ _ _,.gI=>k .ff
 | _,_=>False

def Yw (d : TD) (op : BinOp) (hc : Bool) (A B : AV) (k : AV -> Prop) : Prop :=
 match d,op with
 | .bool,.eql=>ZR A B k
 | .bool,.neq=>ZR A B fun R=>uP R k
 | .iface,.eql=>(match hc with | true=>CQ A B k | false=>False)
 | .iface,.neq=>(match hc with | true=>CQ A B fun R=>uP R k | false=>False)
 | .ptr _,.eql=>vk A B k
 | .ptr _,.neq=>vk A B fun R=>uP R k
 | _,_=>False

def Ce (d : TD) (op : BinOp) (hc : Bool) (A B : AV) (k : AV -> Prop) : Prop :=
 match A,B with
 | .int ka a,.int kb b =>
   (match op with
   | .shl=>0 <= b /\ k (.int ka (EJ ka a b))
   | .shr=>0 <= b /\ k (.int ka (uO ka a b))
   | op=>match qA ka kb with
     | false=>False
     | true=>match op with
       | .add=>arith ka (a + b) k
       | .sub=>arith ka (a - b) k
       | .mul=>arith ka (a * b) k
       | .quo=>b ≠ 0 /\ arith ka (a.tdiv b) k
       | .rem=>b ≠ 0 /\ k (.int ka (a.tmod b))
       | .eql=>k (.dec (a = b))
       | .neq=>k (.dec (a ≠ b))
       | .lss=>k (.dec (a < b))
       | .leq=>k (.dec (a <= b))
       | .gtr=>k (.dec (b < a))
       | .geq=>k (.dec (b <= a))
       | op=>k (.int ka (jD op ka a b)))
 | .str a,.str b =>
   (match op with
   | .add=>a.length + b.length <= maxL /\ k (.str (a ++ b))
   | .eql=>k (.dec (a = b))
   | .neq=>k (.dec (a ≠ b))
   | .lss=>k (.bool (Op.bytesLess a b))
   | _=>False)
 | A,B=>Yw d op hc A B k

def OI (i : TI) (op : BinOp) (A B : AV) (k : AV -> Prop) : Prop :=
 match i.cmp,i.zero,A,B with
 | true,.ag zs,.ag l,.ag m=>match gW zs l,gW zs m with
   | true,true=>(match op with
     | .eql=>k (.dec (NT l m))
     | .neq=>k (.dec (¬ NT l m))
     | _=>False)
   | _,_=>False
 | _,_,_,_=>False

structure dM {α : Type} (l : List α) (n : Int) (k : α -> Prop) : Prop where
 ex : ∃ x,(0 <= n /\ l[n.toNat]? = some x) /\ k x

structure OZ {α : Type} (l : List α) (lo hi : Int) (k : List α -> Prop) : Prop where
 ex : (0 <= lo /\ lo <= hi /\ hi <= (l.length : Int)) /\ k ((l.drop lo.toNat).take (hi.toNat - lo.toNat))

inductive bV (e n : Nat) (sz : Nat) (z : AV) (H : Heap) (k : AV -> Heap -> Prop) : Prop where
 | pure (h : n = e /\ k (.sl sz (List.replicate n z) .full) H)
 | wr (h : k (.ms (nextId H) 0 n e sz) ((nextId H,.arr sz e (List.replicate n z)) :: H))

def xQ (A : AV) (k : AV -> Prop) : Prop:=match nU A with | true=>k (strip A) | false=>False

def y9 (H : Heap) (sz : Nat) (B : AV) (k : List AV -> Prop) : Prop :=
 match B with
 | .aG=>k []
 | .sl sz' m _=>kL sz' sz (k m)
 | .ms j off len _ sz'=>iI H j fun o=>match o with
   | .arr VQ _ l=>kL sz' sz (kL VQ sz (off + len <= l.length /\ k ((l.drop off).take len)))
   | _=>False
 | .str s=>kL sz 1 (k (s.map fun b=>.int .u8 b.toNat))
 | _=>False

structure fE (sz bytes : Nat) (l m : List AV) (k : Prop) : Prop where
 len : l.length + m.length <= maxL
 room : (l.length + m.length) * bytes <= 140737488355328
 next : k

inductive yj (sz bytes : Nat) (l m : List AV) (H : Heap) (k : AV -> Heap -> Prop) : Prop where
 | tok (len : l.length + m.length <= maxL) (room : (l.length + m.length) * bytes <= 140737488355328) (next : oW H (.tok sz (l.length + m.length)) fun j H'=>k (.sl sz (l ++ m) (.own j)) H')
 | pure (len : l.length + m.length <= maxL) (room : (l.length + m.length) * bytes <= 140737488355328) (next : k (.sl sz (l ++ m) .no) H)

inductive YV (sz bytes : Nat) (l m : List AV) (H : Heap) (k : AV -> Heap -> Prop) : Prop where
 | tok (len : l.length + m.length <= maxL) (room : (l.length + m.length) * bytes <= 140737488355328) (next : oW H (.tok sz (l.length + m.length)) fun j H'=>k (.sl sz (l ++ m) (.own j)) H')
 | pure (len : l.length + m.length <= maxL) (room : (l.length + m.length) * bytes <= 140737488355328) (next : k (.sl sz (l ++ m) .no) H)
 | wr (ne : m ≠ []) (len : l.length + m.length <= maxL) (room : (l.length + m.length) * bytes <= 140737488355328)
   (next : ∀ cp,l.length + m.length <= cp -> cp <= maxL -> k (.ms (nextId H) 0 (l.length + m.length) cp sz) ((nextId H,.arr sz cp (l ++ m)) :: H))

mutual
def rE : AV -> AV -> Prop
 | .tt,.bool b=>b = true
 | .tt,.dec p=>p
 | .ff,.bool b=>b = false
 | .ff,.dec p=>¬ p
 | .bool a,.bool b=>a = b
 | .bool a,.dec p=>(a = true ↔ p)
 | .bool a,.tt=>a = true
 | .bool a,.ff=>a = false
 | .dec p,.bool b=>(p ↔ b = true)
 | .dec p,.dec q=>(p ↔ q)
 | .dec p,.tt=>p
 | .dec p,.ff=>¬ p
 | .int k a,.int k' b=>k = k' /\ a = b
 | .str a,.str b=>a = b
 | .aG,.sl _ l .no=>l = []
 | .sl s l .no,.sl s' l' .no=>s = s' /\ dH l l'
 | .ag l,.ag m=>dH l m
 | .jm t x,.jm t' y=>t = t' /\ rE x y
 | A,B=>A = B
def dH : List AV -> List AV -> Prop
 | [],[]=>True
 | x :: l,y :: m=>rE x y /\ dH l m
 | _,_=>False
end

mutual
def le0 : AV -> AV -> Prop
 | .tt,.bool b=>b = true
 | .tt,.dec p=>p
 | .ff,.bool b=>b = false
 | .ff,.dec p=>¬ p
 | .bool a,.bool b=>a = b
 | .bool a,.dec p=>(a = true ↔ p)
 | .bool a,.tt=>a = true
 | .bool a,.ff=>a = false
 | .dec p,.bool b=>(p ↔ b = true)
 | .dec p,.dec q=>(p ↔ q)
 | .dec p,.tt=>p
 | .dec p,.ff=>¬ p
 | .int k a,.int k' b=>k = k' /\ a = b
 | .str a,.str b=>a = b
 | .aG,.sl _ l .no=>l = []
 | .aG,.sl _ l .full=>l = []
 | .sl s l _,.sl s' l' .no=>s = s' /\ dH l l'
 | .sl s l .full,.sl s' l' .full=>s = s' /\ dH l l'
 | .sl s l (.own k),.sl s' l' (.own k')=>s = s' /\ dH l l' /\ k = k'
 | .jm t x,.jm t' y=>t = t' /\ le0 x y
 | .ag l,.ag m=>Iq l m
 | A,B=>A = B
def Iq : List AV -> List AV -> Prop
 | [],[]=>True
 | x :: l,y :: m=>le0 x y /\ Iq l m
 | _,_=>False
end

def le (A B : AV) : Prop:=match A,B with | _,.und=>True | .eU l,.eU m=>Iq l m | A,B=>le0 A B

mutual
def dP (n : Nat) : AV -> Bool
 | .ptr k _ _=>Nat.blt k n
 | .ms k _ _ _ _=>Nat.blt k n
 | .mp k=>Nat.blt k n
 | .gs k _=>Nat.blt k n
 | .bm _ k=>Nat.blt k n
 | .sl _ _ (.own k)=>Nat.blt k n
 | .fn _ cap=>iK n cap
 | .ag l=>iK n l
 | .eU l=>iK n l
 | .jm _ x=>dP n x
 | _=>true
def iK (n : Nat) : List AV -> Bool
 | []=>true
 | x :: l=>match dP n x with | true=>iK n l | false=>false
end

inductive JO (F : Nat -> List AV -> Heap -> AV -> Heap -> Prop) (kD : AV -> Prop) (f : Nat) (args : List AV) (H : Heap) (k : AV -> Heap -> Prop) : Prop where
 | gen (R : AV) (H' : Heap) (h : F f args H R H') (h' : kD R -> k R H')
 | pure (Bs : List AV) (R : AV) (hle : Iq args Bs) (hb : iK 0 Bs = true /\ dP 0 R = true) (h : F f Bs [] R []) (h' : kD R -> k R H)

def jA : Operand -> Bool
 | .const _=>true
 | _=>false

mutual
def Ii : AV -> List Value
 | .int k n=>[.int k n]
 | .str s=>[.string ⟨s.toArray⟩]
 | .ag l=>ZF l
 | _=>[]
def ZF : List AV -> List Value
 | []=>[]
 | x :: l=>Ii x ++ ZF l
end

def LookR (es : List (AV × AV)) (K : AV) : Option AV -> Prop
 | none=>∀ x ∈ es,Ii x.1 ≠ Ii K
 | some v=>∃ x ∈ es,Ii x.1 = Ii K /\ x.2 = v

structure wC (es : List (AV × AV)) (K : AV) (k : Option AV -> Prop) : Prop where
 ex : ∃ r,LookR es K r /\ k r

def UpdR (es : List (AV × AV)) (K V : AV) (es' : List (AV × AV)) : Prop :=
 ((∀ x ∈ es,Ii x.1 ≠ Ii K) /\ es' = es ++ [(K,V)]) \/ ∃ j x,es[j]? = some x /\ Ii x.1 = Ii K /\ es' = es.set j (K,V)

structure Vk (es : List (AV × AV)) (K V : AV) (k : List (AV × AV) -> Prop) : Prop where
 ex : ∃ es',UpdR es K V es' /\ k es'

def Nc (b : Bool) (k : Prop) : Prop:=match b with | true=>k | false=>False

def uJ (ok : Bool) (z : AV) (r : Option AV) (k : AV -> Prop) : Prop :=
 match ok,r with
 | true,some v=>k (.eU [v,.tt])
 | true,none=>k (.eU [z,.ff])
 | false,some v=>k v
 | false,none=>k z

def Lm (z : AV) (s : Nat) (A : AV) (ok : Bool) (k : AV -> Prop) : Prop :=
 match A,ok with
 | .eX,true=>k (.eU [z,.ff])
 | .jm t y,true=>(match Nat.beq t s with | true=>k (.eU [y,.tt]) | false=>k (.eU [z,.ff]))
 | .jm t y,false=>(match Nat.beq t s with | true=>k y | false=>False)
 | _,_=>False

def U9 (op : BinOp) (A : AV) (k : AV -> Prop) : Prop :=
 match op,A with
 | .eql,.aG=>k .tt
 | .neq,.aG=>k .ff
 | .eql,.ms _ _ _ _ _=>k .ff
 | .neq,.ms _ _ _ _ _=>k .tt
 | .eql,.sl _ l _=>∀ b : Bool,(b = true -> l = []) -> k (.bool b)
 | .neq,.sl _ l _=>∀ b : Bool,(b = false -> l = []) -> k (.bool b)
 | _,_=>False

def oh : Op -> Bool
 | .binOp _ _ _ (.const (.slice none 0 0)) _=>true
 | _=>false

def noNil (op : Op) (k : Prop) : Prop:=match oh op with | true=>False | false=>k

def iU (e : Env) : List (Nat × Operand) -> List AV -> (List AV -> Prop) -> Prop
 | [],zs,k=>k zs
 | (i,x) :: ps,zs,k=>bW e x fun A=>Ew A <| qw zs i fun z=>kL (flat A) (flat z) (match dK A,dK z with
   | true,true=>jr zs i A fun zs'=>iU e ps zs' k
   | false,false=>jr zs i A fun zs'=>iU e ps zs' k
   | _,_=>False)

def Ac : List AV -> Bool
 | []=>true
 | x :: l=>match Nat.beq (flat x) 1 with | true=>Ac l | false=>false

def jh (e : Env) : List (Nat × Operand) -> List AV -> (List AV -> Prop) -> Prop
 | [],zs,k=>k zs
 | (i,x) :: ps,zs,k=>bW e x fun A=>qw zs i fun z=>kL (flat A) (flat z) (match dK A,dK z with
   | true,true=>xQ A fun B=>jr zs i B fun zs'=>jh e ps zs' k
   | false,false=>xQ A fun B=>jr zs i B fun zs'=>jh e ps zs' k
   | _,_=>False)

def J3 (z : AV) : Nat -> (List AV -> Prop) -> Prop
 | 0,k=>k []
 | n + 1,k=>J3 z n fun l=>k (z :: l)

section
variable (F : Nat -> List AV -> Heap -> AV -> Heap -> Prop) (kD : AV -> Prop) (L : Lay)

def jE (t : Nat) (A : AV) (H : Heap) (k : AV -> Prop) : Prop :=
 match A with
 | .cp x=>yJ L t x (k x)
 | .ptr i p off=>iI H i fun o=>match o with
   | .box A=>vF A p fun x=>kL (EX A p) off (yJ L t x (k x))
   | .arr sz _ l=>(match p with
     | [j]=>dM l (j : Int) fun x=>off = j * sz /\ yJ L t x (k x)
     | j :: q=>dM l (j : Int) fun x=>vF x q fun y=>off = j * sz + EX x q /\ yJ L t y (k y)
     | _=>False)
   | _=>False
 | _=>False

def G5 (t : Nat) (A B : AV) (H : Heap) (k : Heap -> Prop) : Prop :=
 match A with
 | .ptr i p off=>iI H i fun o=>match o with
   | .box A=>vF A p fun x=>kL (EX A p) off (yJ L t B (kL (flat x) (flat B) (zi A p B fun A'=>uK H i (.box A') k)))
   | .arr sz cap l=>(match p with
     | [j]=>xQ B fun B'=>kL (flat B) sz (yJ L t B (j < l.length /\ off = j * sz /\ uK H i (.arr sz cap (l.set j B')) k))
     | j :: q=>dM l (j : Int) fun x=>vF x q fun y=>off = j * sz + EX x q /\ yJ L t B (kL (flat y) (flat B) (zi x q B fun A'=>xQ A' fun A''=>uK H i (.arr sz cap (l.set j A'')) k))
     | _=>False)
   | _=>False
 | _=>False

def AO (t : Nat) (A K V : AV) (H : Heap) (ks : Heap -> Prop) : Prop :=
 L.bM t fun i=>(match i.desc,i.key with
  | .map _ et,some sh=>Nc (ay sh K) <| yJ L et V <| (match A with
    | .mp j=>iI H j fun o=>(match o with
      | .dV sh' es=>Nc (ay sh' sh) <| Vk es K V fun es'=>uK H j (.dV sh' es') ks
      | _=>False)
    | _=>False)
  | _,_=>False)

def Cb (t : Nat) (A : AV) (f : Nat) (k : AV -> Prop) : Prop :=
 L.bM t fun i=>match i.desc,i.zero with
  | .struct _,.ag zs=>(match A with
    | .cp (.ag l)=>kL (iJ (l.take f)) (iJ (zs.take f)) (qw zs f fun z=>(match flat z with
      | 0=>False
      | _ + 1=>qw l f fun x=>k (.cp x)))
    | .ptr j p off=>qw zs f fun z=>(match flat z with
      | 0=>False
      | _ + 1=>IV p f fun p'=>k (.ptr j p' (off + iJ (zs.take f))))
    | _=>False)
  | _,_=>False

def Ls (t : Nat) (A : AV) (f : Nat) (k : AV -> Prop) : Prop :=
 L.bM t fun i=>match i.desc,i.zero,A with
  | .struct fs,.ag zs,.ag l=>qw zs f fun _=>qw fs f fun fd=>L.bM fd.2.2 fun j=>(match dK j.zero with
    | false=>kL (iJ (l.take f)) (iJ (zs.take f)) (qw l f fun y=>(match dK y with | false=>k y | true=>False))
    | true=>False)
  | _,_,_=>False

def mF (t : Nat) (A I : AV) (k : AV -> Prop) : Prop :=
 match I with
 | .int _ n=>L.bM t fun i=>(match i.desc,A with
   | .slice e,.sl sz l _=>L.bM e fun ei=>kL sz (flat ei.zero) (dM l n fun x=>k (.cp x))
   | .slice e,.ms j off len _ sz=>L.bM e fun ei=>kL sz (flat ei.zero) ((0 <= n /\ n < (len : Int)) /\ k (.ptr j [off + n.toNat] ((off + n.toNat) * sz)))
   | .arr m e,.ptr j p off=>L.bM e fun ei=>(0 <= n /\ n < (m : Int)) /\ IV p n.toNat fun p'=>k (.ptr j p' (off + n.toNat * flat ei.zero))
   | _,_=>False)
 | _=>False

def BZ (t : Nat) (A I : AV) (k : AV -> Prop) : Prop :=
 match A,I with
 | .str s,.int _ n=>L.bM t fun i=>(match i.desc with
   | .str=>dM s n fun b=>k (.int .u8 b.toNat)
   | _=>False)
 | _,_=>False

def yL (e : Env) (x : Option Operand) (d : Int) (k : Int -> Prop) : Prop :=
 match x with
 | none=>k d
 | some x=>bW e x fun A=>match A with | .int _ n=>k n | _=>False

def aslice (t : Nat) (e : Env) (A : AV) (lo hi : Option Operand) (k : AV -> Prop) : Prop :=
 L.bM t fun i=>match i.desc,A with
  | .str,.str s=>yL e lo 0 fun l=>yL e hi s.length fun h=>OZ s l h fun s'=>k (.str s')
  | .slice el,.sl sz l _=>L.bM el fun ei=>kL sz (flat ei.zero) (yL e lo 0 fun a=>yL e hi l.length fun b=>OZ l a b fun l'=>k (.sl sz l' .no))
  | .slice el,.ms j off len cap sz=>L.bM el fun ei=>kL sz (flat ei.zero) (yL e lo 0 fun a=>yL e hi len fun b =>
    (0 <= a /\ a <= b /\ b <= (len : Int)) /\ a < (cap : Int) /\ k (.ms j (off + a.toNat) (b.toNat - a.toNat) (cap - a.toNat) sz))
  | _,_=>False

def jI (t : Nat) (A B : AV) (H : Heap) (k : AV -> Heap -> Prop) : Prop :=
 L.bM t fun i=>match i.desc with
  | .slice e=>L.bM e fun ei=>(match A with
    | .aG=>y9 H (flat ei.zero) B fun m=>yj (flat ei.zero) ei.bytes [] m H k
    | .sl sz l .full=>kL sz (flat ei.zero) (y9 H sz B fun m=>yj sz ei.bytes l m H k)
    | .sl sz l (.own j)=>kL sz (flat ei.zero) (y9 H sz B fun m=>iI H j fun o=>match o with
      | .tok sz' top=>kL sz' sz (top = l.length /\ fE sz ei.bytes l m (uK H j (.tok sz (l.length + m.length)) fun H'=>k (.sl sz (l ++ m) (.own j)) H'))
      | _=>False)
    | _=>False)
  | _=>False

def vW (t : Nat) (A B : AV) (H : Heap) (k : AV -> Heap -> Prop) : Prop :=
 L.bM t fun i=>match i.desc with
  | .slice e=>L.bM e fun ei=>(match A with
    | .aG=>y9 H (flat ei.zero) B fun m=>YV (flat ei.zero) ei.bytes [] m H k
    | .sl sz l .full=>kL sz (flat ei.zero) (y9 H sz B fun m=>YV sz ei.bytes l m H k)
    | .sl sz l (.own j)=>kL sz (flat ei.zero) (y9 H sz B fun m=>iI H j fun o=>match o with
      | .tok sz' top=>kL sz' sz (top = l.length /\ fE sz ei.bytes l m (uK H j (.tok sz (l.length + m.length)) fun H'=>k (.sl sz (l ++ m) (.own j)) H'))
      | _=>False)
    | .gs j len=>y9 H (flat ei.zero) B fun m=>iI H j fun o=>match o with
      | .iT sz l=>kL sz (flat ei.zero) (l.length = len /\ m ≠ [] /\ fE sz ei.bytes l m (uK H j (.iT sz (l ++ m)) fun H'=>k (.gs j (len + m.length)) H'))
      | _=>False
    | _=>False)
  | _=>False

def Lr (d : TD) (A : AV) (_ : Heap) (k : AV -> Prop) : Prop :=
 match d,A with
 | .slice _,.aG=>k (.int .i64 0)
 | .slice _,.sl _ l _=>k (.int .i64 l.length)
 | .slice _,.ms _ _ len _ _=>k (.int .i64 len)
 | .str,.str s=>k (.int .i64 s.length)
 | .map _ _,.iQ=>k (.int .i64 0)
 | _,_=>False

def PO (A B : AV) (k : AV -> Prop) : Prop :=
 match A,B with
 | .int ka a,.int kb b=>(match qA ka kb with | true=>k (.int ka (max a b)) | false=>False)
 | _,_=>False
def DC (A B : AV) (k : AV -> Prop) : Prop :=
 match A,B with
 | .int ka a,.int kb b=>(match qA ka kb with | true=>k (.int ka (min a b)) | false=>False)
 | _,_=>False

def fZ (b : Builtin) (argTypes : List Nat) (args : List AV) (H : Heap) (k : AV -> Heap -> Prop) : Prop :=
 match b,argTypes,args with
 | .len,t :: _,[A]=>L.bM t fun i=>Lr i.desc A H fun R=>k R H
 | .append,t :: u :: _,[A,B]=>L.bM u fun i=>(match i.desc with
   | .slice _=>jI L t A B H k
   | .str=>jI L t A B H k
   | _=>False)
 | .max,_,[A,B]=>PO A B fun R=>k R H
 | .min,_,[A,B]=>DC A B fun R=>k R H
 | _,_,_=>False

def Cc (b : Builtin) (argTypes : List Nat) (args : List AV) (H : Heap) (k : AV -> Heap -> Prop) : Prop :=
 match b,argTypes,args with
 | .len,t :: _,[A]=>L.bM t fun i=>(match i.desc,A with
   | .map _ _,.mp j=>iI H j fun o=>(match o with
     | .dV _ es=>es.length <= 9223372036854775807 /\ k (.int .i64 es.length) H
     | _=>False)
   | d,A=>Lr d A H fun R=>k R H)
 | .append,t :: u :: _,[A,B]=>L.bM u fun i=>(match i.desc with
   | .slice _=>vW L t A B H k
   | .str=>vW L t A B H k
   | _=>False)
 | .max,_,[A,B]=>PO A B fun R=>k R H
 | .min,_,[A,B]=>DC A B fun R=>k R H
 | .min,_,[A,B,C]=>DC A B fun R=>DC R C fun R=>k R H
 | _,_,_=>False

def fV (op : Op) (e : Env) (H : Heap) (k : AV -> Heap -> Prop) (ks : Heap -> Prop) : Prop :=
 match op with
 | .move x=>bW e x fun A=>k A H
 | .assign x=>bW e x fun A=>k A H
 | .pick c a b=>bW e c fun C=>(match C with
   | .tt=>bW e a fun A=>k A H
   | .ff=>bW e b fun A=>k A H
   | .bool x=>(x = true -> bW e a fun A=>k A H) /\ (x = false -> bW e b fun A=>k A H)
   | .dec p=>(p -> bW e a fun A=>k A H) /\ (¬ p -> bW e b fun A=>k A H)
   | _=>False)
 | .alloc t=>L.bM t fun i=>oW H (.box i.zero) fun j H'=>k (.ptr j [] 0) H'
 | .box t x=>bW e x fun A=>yJ L t A (oW H (.box A) fun j H'=>k (.ptr j [] 0) H')
 | .build t ps=>L.bM t fun i=>(match i.desc,i.zero with
   | .struct _,.ag zs=>iU e ps.toList zs fun l=>k (.ag l) H
   | .arr _ el,.ag zs=>L.bM el fun ei=>kL (flat ei.zero) 1 (Nc (Ac zs) (iU e ps.toList zs fun l=>k (.ag l) H))
   | _,_=>False)
 | .buildSlice t n ps=>L.bM t fun i=>(match i.desc with
   | .slice el=>L.bM el fun ei=>BU (n * flat ei.zero) 16777216 <| BU n 16777216 <| J3 ei.zero n fun zs=>jh e ps.toList zs fun l=>k (.sl (flat ei.zero) l .full) H
   | _=>False)
 | .load t x=>bW e x fun A=>jE L t A H fun R=>k R H
 | .store t a x=>bW e a fun A=>bW e x fun B=>G5 L t A B H ks
 | .nilCheck x=>bW e x fun A=>(match A with
   | .ptr _ _ _=>k A H
   | .cp _=>k A H
   | .fn _ _=>k A H
   | _=>False)
 | .binOp op t x y ty=>(match oh (.binOp op t x y ty) with
   | true=>bW e x fun A=>L.bM t fun i=>(match i.desc with | .slice _=>U9 op A fun R=>k R H | _=>False)
   | false=>bW e x fun A=>bW e y fun B=>L.bM t fun i=>match dK A with
     | true=>OI i op A B fun R=>k R H
     | false=>Ce i.desc op (jA x || jA y) A B fun R=>k R H)
 | .typeAssert x _ s ok=>bW e x fun A=>L.bM s fun i=>(match i.desc with
   | .iface=>False
   | _=>Lm i.zero s A ok fun R=>k R H)
 | .makeMap t r=>(match r with
   | none=>L.bM t fun i=>(match i.key with | some sh=>oW H (.dV sh []) fun j H'=>k (.mp j) H' | none=>False)
   | some _=>False)
 | .lookup t x ix ok=>bW e x fun A=>bW e ix fun K=>L.bM t fun i=>(match i.desc,i.key with
   | .map _ et,some sh=>Nc (ay sh K) <| L.bM et fun ei=>(match A with
     | .mp j=>iI H j fun o=>(match o with
       | .dV sh' es=>Nc (ay sh' sh) <| wC es K fun r=>uJ ok ei.zero r fun R=>k R H
       | _=>False)
     | _=>False)
   | _,_=>False)
 | .mapUpdate t x ix y=>bW e x fun A=>bW e ix fun K=>bW e y fun V=>AO L t A K V H ks
 | .unOp op _ x=>bW e x fun A=>(match op,A with
   | .not,A=>uP A fun R=>k R H
   | .neg,.int ka a=>arith ka (0 - a) fun R=>k R H
   | _,_=>False)
 | .convert s d x=>bW e x fun A=>L.bM s fun _=>L.bM d fun i=>(match i.desc,A with
   | .int kd,.int _ n=>k (.int kd (kd.wrap n)) H
   | .str,.str s=>k (.str s) H
   | _,_=>False)
 | .makeInterface t x=>bW e x fun A=>L.bM t fun i=>(match i.desc with
   | .iface=>False
   | _=>Ew A (k (.jm t A) H))
 | .makeFunc f first cap=>(match f,first.toList with
   | .func g,[]=>pK e cap.toList fun As=>CB As (k (.fn g As) H)
   | _,_=>False)
 | .makeSlice t l c=>bW e l fun A=>bW e c fun B=>L.bM t fun i=>(match i.desc,A,B with
   | .slice el,.int _ n,.int _ m=>L.bM el fun ei=>(0 <= n /\ n <= m /\ m * (ei.bytes : Int) <= 281474976710656 /\ m <= 9223372036854775807) /\
     bV m.toNat n.toNat (flat ei.zero) ei.zero H k
   | _,_,_=>False)
 | .slice t x lo hi mx=>(match mx with
   | none=>bW e x fun A=>aslice L t e A lo hi fun R=>k R H
   | some _=>False)
 | .fieldAddr t x f=>bW e x fun A=>Cb L t A f fun R=>k R H
 | .indexAddr t x i=>bW e x fun A=>bW e i fun I=>mF L t A I fun R=>k R H
 | .index t x i=>bW e x fun A=>bW e i fun I=>BZ L t A I fun R=>k R H
 | .extract x i=>bW e x fun A=>(match A with
   | .eU l=>qw l i fun R=>k R H
   | _=>False)
 | .call c=>(match c.callee with
   | .value f=>bW e f fun A=>(match A with
     | .fn g cap=>pK e c.args.toList fun As=>OG As cap fun Bs=>JO F kD g Bs H k
     | _=>False)
   | .builtin b=>pK e c.args.toList fun As=>fZ L b c.argTypes.toList As H k
   | .invoke _ _=>False)
 | _=>False

def yN (op : Op) (e : Env) (H : Heap) (k : AV -> Heap -> Prop) (ks : Heap -> Prop) : Prop :=
 match op with
 | .call c=>(match c.callee with
   | .builtin b=>pK e c.args.toList fun As=>Cc L b c.argTypes.toList As H k
   | .value f=>bW e f fun A=>(match A with
     | .bm g j=>pK e c.args.toList fun As=>JO F kD g (.ptr j [] 0 :: As) H k
     | _=>fV F kD L (.call c) e H k ks)
   | _=>fV F kD L (.call c) e H k ks)
 | .makeFunc f first cap=>(match first.toList with
   | [x]=>(match f,cap.toList with
     | .func g,[]=>bW e x fun A=>(match A with
       | .ptr j [] 0=>k (.bm g j) H
       | _=>False)
     | _,_=>False)
   | _=>fV F kD L (.makeFunc f first cap) e H k ks)
 | .insert t x ix y=>bW e x fun A=>bW e ix fun K=>bW e y fun V=>AO L t A K V H ks
 | .field t x f=>bW e x fun A=>Ls L t A f fun R=>k R H
 | op=>fV F kD L op e H k ks

end

inductive AX where
 | normal
 | exit (id : Nat)
 | ret

def eY : List Oper -> List Nat
 | []=>[]
 | o :: l=>match o.dst with | some d=>d :: eY l | none=>eY l

def writes : Code -> List Nat
 | .region _ ops _=>eY ops.toList
 | .seq a b=>writes a ++ writes b
 | .cond _ a b=>writes a ++ writes b
 | .block _ b=>writes b
 | .loop b=>writes b
 | .scope b=>writes b
 | .rangeFunc _ _ a b=>writes a ++ writes b
 | _=>[]

def Vo : List (AV × AV) -> List (AV × AV) -> Prop
 | [],[]=>True
 | (x,v) :: l,(y,u) :: m=>x = y /\ le0 v u /\ Vo l m
 | _,_=>False

def O4 : HO -> HO -> Prop
 | .box A,.box B=>le0 A B
 | .arr s c l,.arr s' c' l'=>s = s' /\ c = c' /\ dH l l'
 | .tok s n,.tok s' n'=>s = s' /\ n = n'
 | .dV s a,.dV s' b=>s = s' /\ Vo a b
 | .iT s l,.iT s' l'=>s = s' /\ dH l l'
 | _,.gone=>True
 | _,_=>False

def GN (n : Nat) : HO -> Bool
 | .box A=>dP n A
 | _=>true

def oC (n : Nat) : List (AV × AV) -> Bool
 | []=>true
 | (x,y) :: l=>match dP n x,dP n y with | true,true=>oC n l | _,_=>false

def SN (e : Env) (n : Nat) : Env -> Prop
 | []=>True
 | (t,A) :: E=>xX e t (fun A'=>le A' A /\ dP n A = true) /\ SN e n E

def WkH (H : Heap) (n : Nat) : Heap -> Prop
 | []=>True
 | (k,o) :: G=>iI H k (fun o'=>O4 o' o /\ (match o with | .dV _ es=>oC n es = true | o=>GN n o = true)) /\ WkH H n G

structure QO (H : Heap) (G : Heap) : Prop where
 get : WkH H (nextId G) G
 ids : au G

inductive HWk (H : Heap) (G : Heap) : Prop where
 | refl (h : H = G)
 | mk (get : WkH H (nextId G) G) (ids : au G)

inductive Cv : Env -> Heap -> Env -> Heap -> Prop where
 | refl (e : Env) (H : Heap) : Cv e H e H
 | grow {e : Env} {H : Heap} {e' : Env} {H' : Heap} (t sz : Nat) (l : List AV) (A : AV) (h : dR e t = some A) (hA : (A = .aG /\ l = []) \/ A = .sl sz l .full)
   (h' : Cv ((t,.sl sz l (.own (nextId H))) :: e) ((nextId H,.tok sz l.length) :: H) e' H') : Cv e H e' H'
 | freeze {e : Env} {H : Heap} {e' : Env} {H' : Heap} (t j off len cap cp sz : Nat) (l : List AV) (h : dR e t = some (.ms j off len cap sz)) (ho : hget H j = some (.arr sz cp l)) (hl : off + len <= l.length)
   (h' : Cv ((t,.sl sz ((l.drop off).take len) .no) :: e) (hset H j .gone) e' H') : Cv e H e' H'
 | keep {e : Env} {H : Heap} {e' : Env} {H' : Heap} (t j len cp sz : Nat) (l : List AV) (h : dR e t = some (.ms j 0 len cp sz)) (ho : hget H j = some (.arr sz cp l)) (hl : len <= l.length)
   (h' : Cv ((t,.sl sz (l.take len) (.own (nextId H))) :: e) ((nextId H,.tok sz len) :: hset H j .gone) e' H') : Cv e H e' H'
 | Jl {e : Env} {H : Heap} {e' : Env} {H' : Heap} (j : Nat) (p : List Nat) (sz : Nat) (l : List AV) (A B A' : AV) (ho : hget H j = some (.box A)) (hp : vF A p (fun x=>x = B)) (hB : (B = .aG /\ l = []) \/ B = .sl sz l .full)
   (hs : zi A p (.sl sz l (.own (nextId H))) (fun x=>x = A')) (h' : Cv e (hset ((nextId H,.tok sz l.length) :: H) j (.box A')) e' H') : Cv e H e' H'
 | growW {e : Env} {H : Heap} {e' : Env} {H' : Heap} (t sz : Nat) (h : dR e t = some .aG)
   (h' : Cv ((t,.gs (nextId H) 0) :: e) ((nextId H,.iT sz []) :: H) e' H') : Cv e H e' H'
 | KO {e : Env} {H : Heap} {e' : Env} {H' : Heap} (t j sz : Nat) (l : List AV) (h : dR e t = some (.gs j l.length)) (ho : hget H j = some (.iT sz l)) (hl : l.length <= maxL)
   (h' : Cv ((t,.sl sz l .no) :: e) (hset H j .gone) e' H') : Cv e H e' H'

structure aB (kD : AV -> Prop) (ws : List Nat) (body : (AX -> Env -> Heap -> Prop) -> Env -> Heap -> Prop) (Q : AX -> Env -> Heap -> Prop) (e : Env) (H : Heap) : Prop where
 ex : ∃ (e₁ : Env) (H₁ : Heap) (ι : Type) (E : ι -> Env) (kept : Env) (HS : ι -> Heap) (μ : ι -> Nat) (i₀ : ι) (R : ι -> Env -> Heap -> Prop),
  (∀ i e' H',R i e' H' -> ∃ i' e₂ H₂,Cv e' H' e₂ H₂ /\ (SN e₂ (nextId (HS i')) (E i') /\ HWk H₂ (HS i')) /\ μ i' < μ i) /\
  Cv e H e₁ H₁ /\
  (∀ t A,(t,A) ∈ kept -> dR e₁ t = some A /\ ws.contains t = false) /\
  (∀ i,nextId (HS i) = nextId H₁) /\
  (SN e₁ (nextId H₁) (E i₀) /\ HWk H₁ (HS i₀)) /\
  ∀ i,(∀ t A,(t,A) ∈ E i -> kD A) ->
    body (fun x e' H'=>match x with
     | .normal=>R i e' H'
     | x=>Q x e' H') (E i ++ kept) (HS i)

def LoopN (kD : AV -> Prop) (ws : List Nat) (body : (AX -> Env -> Heap -> Prop) -> Env -> Heap -> Prop) (Q : AX -> Env -> Heap -> Prop) : Nat -> Env -> Heap -> Prop
 | 0,e,H=>aB kD ws body Q e H
 | n + 1,e,H=>body (fun x e' H'=>match x with | .normal=>LoopN kD ws body Q n e' H' | x=>Q x e' H') e H

inductive aK (kD : AV -> Prop) (ws : List Nat) (body : (AX -> Env -> Heap -> Prop) -> Env -> Heap -> Prop) (Q : AX -> Env -> Heap -> Prop) (e : Env) (H : Heap) : Prop where
 | ex (h : ∃ n,LoopN kD ws body Q n e H)
 /-- What has grown by appends is written from now on. -/
 | thaw (t j sz : Nat) (l : List AV) (h : dR e t = some (.gs j l.length)) (ho : hget H j = some (.iT sz l)) (ne : l ≠ [])
   (next : ∀ cp,l.length <= cp -> cp <= maxL -> ∃ n,LoopN kD ws body Q n ((t,.ms (nextId H) 0 l.length cp sz) :: e) ((nextId H,.arr sz cp l) :: hset H j .gone))

section
variable (F : Nat -> List AV -> Heap -> AV -> Heap -> Prop) (kD : AV -> Prop) (L : Lay)

def kT (dst : Option Nat) (A : AV) (e : Env) (k : Env -> Prop) : Prop :=
 match dst with
 | some d=>k ((d,A) :: e)
 | none=>k e

def ZW : List Oper -> Nat -> (Nat -> Prop) -> Prop
 | [],_,_=>False
 | o :: _,0,k=>match o.dst with | some d=>k d | none=>False
 | _ :: l,n + 1,k=>ZW l n k

def jo (ops : List Oper) (g : Option (Nat × Bool)) (e : Env) (yes no : Env -> Prop) : Prop :=
 match g with
 | none=>yes e
 | some (j,b)=>ZW ops j fun d=>xX e d fun A=>match A,b with
   | .tt,true=>yes e
   | .tt,false=>no e
   | .ff,true=>no e
   | .ff,false=>yes e
   | .bool x,true=>(x = true -> yes ((d,.tt) :: e)) /\ (x = false -> no ((d,.ff) :: e))
   | .bool x,false=>(x = true -> no ((d,.tt) :: e)) /\ (x = false -> yes ((d,.ff) :: e))
   | .dec p,true=>(p -> yes ((d,.tt) :: e)) /\ (¬ p -> no ((d,.ff) :: e))
   | .dec p,false=>(p -> no ((d,.tt) :: e)) /\ (¬ p -> yes ((d,.ff) :: e))
   | .eU [],_=>no e
   | _,_=>False

def uf (ops : List Oper) : List Oper -> Env -> Heap -> (Env -> Heap -> Prop) -> Prop
 | [],e,H,k=>k e H
 | o :: l,e,H,k=>jo ops o.guard e
     (fun e=>yN F kD L o.op e H (fun A H'=>kT o.dst A e fun e'=>uf ops l e' H' k) (fun H'=>match o.dst with | none=>uf ops l e H' k | some _=>False))
     (fun e=>kT o.dst (.eU []) e fun e'=>uf ops l e' H k)

end

def EW : List Operand -> List Nat
 | []=>[]
 | .tmp t :: l=>t :: EW l
 | _ :: l=>EW l

def bK : Op -> List Operand
 | .move x | .assign x | .load _ x | .nilCheck x | .unOp _ _ x | .convert _ _ x | .makeInterface _ x | .box _ x | .extract x _ | .fieldAddr _ x _=>[x]
 | .pick a b d=>[a,b,d]
 | .store _ x y | .binOp _ _ x y _ | .makeSlice _ x y | .indexAddr _ x y | .index _ x y | .lookup _ x y _=>[x,y]
 | .typeAssert x _ _ _=>[x]
 | .mapUpdate _ x y z=>[x,y,z]
 | .build _ ps | .buildSlice _ _ ps=>ps.toList.map (·.2)
 | .makeFunc _ _ cap=>cap.toList
 | .slice _ x lo hi _=>x :: (lo.toList ++ hi.toList)
 | .call cl=>(match cl.callee with | .value f=>[f] | _=>[]) ++ cl.args.toList
 | _=>[]

def rG (acc : List Nat) : List Edge -> Nat -> Nat
 | [],s=>s
 | e :: l,s=>rG acc l (match Region.binds .any e with | true=>s ||| 2 ^ e.on ||| acc.getD e.on 0 | false=>s)

def vT : List Oper -> List Nat -> List Nat
 | [],acc=>acc
 | o :: l,acc=>vT l (acc ++ [rG acc o.after.toList 0])

def zK : Op -> Bool
 | .move _ | .assign _ | .pick .. | .build .. | .buildSlice .. | .nilCheck _ | .binOp .. | .unOp .. | .convert .. | .makeInterface .. | .makeFunc .. | .makeSlice .. | .slice .. | .fieldAddr .. | .indexAddr .. | .index .. | .extract .. | .typeAssert ..=>true
 | .call c=>(match c.callee with | .builtin .len=>true | .builtin .max=>true | .builtin .min=>true | .builtin .append=>true | .value _=>true | _=>false)
 | _=>false

def bG : Op -> Bool
 | .load _ _=>true
 | _=>false

def Jb (op : Op) : Bool:=zK op || bG op

def defB (op : Op) : Bool:=match op with
 | .call c=>(match c.callee with | .builtin .append=>false | _=>zK op)
 | op=>zK op

def yR : Op -> Bool
 | .alloc _=>true
 | .makeMap _ _=>true
 | .call c=>(match c.callee with | .builtin .append=>true | _=>false)
 | _=>false

def jY : Op -> Bool
 | .alloc _=>true
 | .makeMap _ none=>true
 | _=>false

def DJ : Op -> Bool
 | .call c=>(match c.callee with | .builtin .append=>true | _=>false)
 | _=>false

def dw (ops : List Oper) (o : Oper) : List Nat :=
 o.dst.toList ++ EW (bK o.op) ++ (match o.guard with | some (g,_)=>(match ops[g]? with | some og=>og.dst.toList | none=>[]) | none=>[])

def l7 (ops : List Oper) (x y : Oper × Bool) : Bool :=
 (!x.2 && !y.2 && !jY y.1.op && !(bG x.1.op && (bG y.1.op || yR y.1.op)) && !(DJ x.1.op && bG y.1.op && ops.all fun o=>!jY o.op)) ||
 (match x.1.dst with | some d=>(dw ops y.1).contains d | none=>false) ||
 (match y.1.dst with | some d=>(dw ops x.1).contains d | none=>false)

def Xb (ops : List Oper) (zm : List (Oper × Bool)) : Bool :=
 zm.zipIdx.all fun y=>!(jY y.1.1.op && !y.1.2) || ((match y.1.1.guard with | none=>true | some _=>false) && (match y.1.1.dst with
  | none=>false
  | some d=>zm.zipIdx.all fun x=>!Nat.blt x.2 y.2 || x.1.2 || bG x.1.1.op || ((vT ops []).getD y.2 0).testBit x.2 ||
    zm.zipIdx.all fun z=>!Nat.blt y.2 z.2 || !(dw ops z.1.1).contains d || ((vT ops []).getD z.2 0).testBit x.2))

def F5 (ops : List Oper) (mask : List Bool) : Bool :=
 Nat.beq mask.length ops.length && ((ops.zip mask).all fun x=>!x.2 || Jb x.1.op) &&
 (ops.zipIdx.all fun y=>y.1.after.toList.all fun e=>!Region.binds .any e || Nat.blt e.on y.2) && Xb ops (ops.zip mask) &&
 (let b:=vT ops []
 (ops.zip mask).zipIdx.all fun y=>(ops.zip mask).zipIdx.all fun x=>!Nat.blt x.2 y.2 || !l7 ops x.1 y.1 || (b.getD y.2 0).testBit x.2)

def vcallB : Op -> Bool
 | .call c=>(match c.callee with | .value _=>true | _=>false)
 | _=>false

def qU : List Nat -> Nat -> Bool
 | [],_=>false
 | x :: l,n=>match Nat.beq x n with | true=>true | false=>qU l n

def tV (fl : List Nat) (op : Op) : Bool:=vcallB op || (match qU fl 999,op with | false,.store _ _ _=>true | _,_=>false)

def NS (ops : List Oper) (fl : List Nat) (x y : (Oper × Bool) × Nat) : Bool :=
 qU fl x.2 && bG x.1.1.op && !x.1.2 && tV fl y.1.1.op && !y.1.2 && (match x.1.1.dst with | some d=>!(dw ops y.1.1).contains d | none=>true) && (match y.1.1.dst with | some d=>!(dw ops x.1.1).contains d | none=>true)

def Qc (ops : List Oper) (mask : List Bool) (fl : List Nat) : Bool :=
 Nat.beq mask.length ops.length && ((ops.zip mask).all fun x=>!x.2 || Jb x.1.op) &&
 (ops.zipIdx.all fun y=>y.1.after.toList.all fun e=>!Region.binds .any e || Nat.blt e.on y.2) && Xb ops (ops.zip mask) &&
 (let b:=vT ops []
 (ops.zip mask).zipIdx.all fun y=>(ops.zip mask).zipIdx.all fun x=>!Nat.blt x.2 y.2 || !l7 ops x.1 y.1 || (b.getD y.2 0).testBit x.2 || NS ops fl x y)

def ZO (ops : List Oper) (gl : List Nat) (x y : (Oper × Bool) × Nat) : Bool :=
 qU gl y.2 && bG y.1.1.op && !y.1.2 && !x.1.2 && !bG x.1.1.op && (ops.all fun o=>!jY o.op) && (match x.1.1.dst with | some d=>!(dw ops y.1.1).contains d | none=>true) && (match y.1.1.dst with | some d=>!(dw ops x.1.1).contains d | none=>true)

def Qd (ops : List Oper) (mask : List Bool) (fl gl : List Nat) : Bool :=
 Nat.beq mask.length ops.length && ((ops.zip mask).all fun x=>!x.2 || Jb x.1.op) &&
 (ops.zipIdx.all fun y=>y.1.after.toList.all fun e=>!Region.binds .any e || Nat.blt e.on y.2) && Xb ops (ops.zip mask) &&
 (let b:=vT ops []
 (ops.zip mask).zipIdx.all fun y=>(ops.zip mask).zipIdx.all fun x=>!Nat.blt x.2 y.2 || !l7 ops x.1 y.1 || (b.getD y.2 0).testBit x.2 || NS ops fl x y || ZO ops gl x y)

def rdyB (ops : List Oper) (ls : List Nat) (i : Nat) : Bool :=
 !ls.any (Nat.beq i) && (match ops[i]? with | some o=>o.after.toList.all fun e=>!Region.binds .any e || ls.any (Nat.beq e.on) | none=>false)

def Yu (ops : List Oper) : Bool:=ops.zipIdx.all fun y=>y.1.after.toList.all fun e=>!Region.binds .any e || Nat.blt e.on y.2

def QE : List Nat -> (Nat -> Prop) -> Prop
 | [],_=>True
 | i :: l,f=>f i /\ QE l f

inductive bP (F : Nat -> List AV -> Heap -> AV -> Heap -> Prop) (f : Nat) (args : List AV) (k : AV -> Prop) : Prop where
 | pure (Bs : List AV) (R : AV) (hle : Iq args Bs) (hb : iK 0 Bs = true /\ dP 0 R = true) (h : F f Bs [] R []) (h' : k R)

section
variable (F : Nat -> List AV -> Heap -> AV -> Heap -> Prop) (kD : AV -> Prop) (L : Lay)

def yO (op : Op) (e : Env) (k : AV -> Prop) : Prop :=
 match op with
 | .call c=>(match c.callee with
   | .value f=>bW e f fun A=>(match A with
     | .fn g cap=>pK e c.args.toList fun As=>OG As cap fun Bs=>bP F g Bs k
     | _=>False)
   | .builtin .append=>pK e c.args.toList fun As=>fZ L .append c.argTypes.toList As [] fun A H'=>H' = [] /\ k A
   | .builtin b=>pK e c.args.toList fun As=>fZ L b c.argTypes.toList As [] fun A _=>k A
   | _=>False)
 | .makeSlice t l c=>bW e l fun A=>bW e c fun B=>L.bM t fun i=>(match i.desc,A,B with
   | .slice el,.int _ n,.int _ m=>L.bM el fun ei=>(0 <= n /\ n <= m /\ m * (ei.bytes : Int) <= 281474976710656 /\ m <= 9223372036854775807) /\
     (n.toNat = m.toNat /\ k (.sl (flat ei.zero) (List.replicate n.toNat ei.zero) .full))
   | _,_,_=>False)
 | op=>noNil op <| fV F (fun _=>True) L op e [] (fun A _=>k A) (fun _=>False)

def pR (ops : List Oper) : List (Oper × Bool) -> Env -> Heap -> (Env -> Heap -> Prop) -> Prop
 | [],e,H,k=>k e H
 | (o,nb) :: l,e,H,k=>jo ops o.guard e
   (fun e=>match nb with
    | true=>yO F L o.op e fun A=>kT o.dst A e fun e'=>pR ops l e' H k
    | false=>noNil o.op <| fV F (fun _=>True) L o.op e H (fun A H'=>kT o.dst A e fun e'=>pR ops l e' H' k) (fun H'=>match o.dst with | none=>pR ops l e H' k | some _=>False))
   (fun e=>kT o.dst (.eU []) e fun e'=>pR ops l e' H k)

def Oi (H : Heap) : List (Nat × AV × AV) -> Prop -> Prop
 | [],k=>k
 | (t,A,R) :: pl,k=>(jE L t A H fun R'=>R' = R) /\ Oi H pl k

def Yy (fl : List Nat) (i : Nat) (op : Op) (e : Env) (A : AV) (pl : List (Nat × AV × AV)) (k : List (Nat × AV × AV) -> Prop) : Prop :=
 match qU fl i,op with
 | true,.load t x=>bW e x fun B=>k ((t,B,A) :: pl)
 | _,_=>k pl

def qN (ops : List Oper) (fl : List Nat) : Nat -> List (Oper × Bool) -> List (Nat × AV × AV) -> Env -> Heap -> (Env -> Heap -> Prop) -> Prop
 | _,[],_,e,H,k=>k e H
 | i,(o,nb) :: l,pl,e,H,k=>jo ops o.guard e
   (fun e=>match nb with
    | true=>yO F L o.op e fun A=>kT o.dst A e fun e'=>qN ops fl (i + 1) l pl e' H k
    | false=>noNil o.op <| fV F (fun _=>True) L o.op e H
      (fun A H'=>Oi L H' (match tV fl o.op with | true=>pl | false=>[]) <| Yy fl i o.op e A pl fun Dz=>kT o.dst A e fun e'=>qN ops fl (i + 1) l Dz e' H' k)
      (fun H'=>match o.dst with | none=>Oi L H' (match tV fl o.op with | true=>pl | false=>[]) <| qN ops fl (i + 1) l pl e H' k | some _=>False))
   (fun e=>kT o.dst (.eU []) e fun e'=>qN ops fl (i + 1) l pl e' H k)

def XV (t : Nat) (A R : AV) : List Heap -> Prop -> Prop
 | [],k=>k
 | G :: hs,k=>(jE L t A G fun R'=>R' = R) /\ XV t A R hs k

def addG (gl : List Nat) (i : Nat) (op : Op) (e : Env) (A : AV) (hs : List Heap) (k : Prop) : Prop :=
 match qU gl i,op with
 | true,.load t x=>bW e x fun B=>XV L t B A hs k
 | _,_=>k

def oD (ops : List Oper) (fl gl : List Nat) : Nat -> List (Oper × Bool) -> List (Nat × AV × AV) -> List Heap -> Env -> Heap -> (Env -> Heap -> Prop) -> Prop
 | _,[],_,_,e,H,k=>k e H
 | i,(o,nb) :: l,pl,hs,e,H,k=>jo ops o.guard e
   (fun e=>match nb with
    | true=>yO F L o.op e fun A=>kT o.dst A e fun e'=>oD ops fl gl (i + 1) l pl hs e' H k
    | false=>noNil o.op <| fV F (fun _=>True) L o.op e H
      (fun A H'=>Oi L H' (match tV fl o.op with | true=>pl | false=>[]) <| addG L gl i o.op e A hs <| Yy fl i o.op e A pl fun Dz=>kT o.dst A e fun e'=>oD ops fl gl (i + 1) l Dz (match bG o.op with | true=>hs | false=>H :: hs) e' H' k)
      (fun H'=>match o.dst with | none=>Oi L H' (match tV fl o.op with | true=>pl | false=>[]) <| oD ops fl gl (i + 1) l pl (H :: hs) e H' k | some _=>False))
   (fun e=>kT o.dst (.eU []) e fun e'=>oD ops fl gl (i + 1) l pl hs e' H k)

def Hg (ops : List Oper) : Nat -> List Nat -> Env -> Heap -> (Env -> Heap -> Prop) -> Prop
 | 0,_,e,H,k=>k e H
 | n + 1,ls,e,H,k=>QE ((List.range ops.length).filter (rdyB ops ls)) fun i=>(match ops[i]? with
   | some o=>jo ops o.guard e
     (fun e=>fV F (fun _=>True) L o.op e H (fun A H'=>kT o.dst A e fun e'=>Hg ops n (i :: ls) e' H' k) (fun H'=>match o.dst with | none=>Hg ops n (i :: ls) e H' k | some _=>False))
     (fun e=>kT o.dst (.eU []) e fun e'=>Hg ops n (i :: ls) e' H k)
   | none=>False)

mutual
def Nw (j : Nat) : AV -> Bool
 | .ptr k _ _=>Nat.beq k j
 | .fn _ cap=>RN j cap
 | .ag l=>RN j l
 | .eU l=>RN j l
 | .jm _ x=>Nw j x
 | _=>false
def RN (j : Nat) : List AV -> Bool
 | []=>false
 | x :: l=>match Nw j x with | true=>true | false=>RN j l
end

mutual
def nN (j : Nat) (B : AV) : AV -> AV
 | .ptr k p off=>match Nat.beq k j,p,off with | true,[],0=>.cp B | _,p,off=>.ptr k p off
 | .fn f cap=>.fn f (xR j B cap)
 | .ag l=>.ag (xR j B l)
 | .eU l=>.eU (xR j B l)
 | .jm t x=>.jm t (nN j B x)
 | A=>A
def xR (j : Nat) (B : AV) : List AV -> List AV
 | []=>[]
 | x :: l=>nN j B x :: xR j B l
end

mutual
def FX (j : Nat) (B : AV) : AV -> (AV -> Prop) -> Prop
 | .ptr k p off,c=>(match Nat.beq k j,p,off with | true,[],0=>c (.cp B) | _,p,off=>c (.ptr k p off))
 | .fn f cap,c=>Jo j B cap fun l=>c (.fn f l)
 | .ag l,c=>Jo j B l fun l=>c (.ag l)
 | .eU l,c=>Jo j B l fun l=>c (.eU l)
 | .jm t x,c=>FX j B x fun y=>c (.jm t y)
 | A,c=>c A
def Jo (j : Nat) (B : AV) : List AV -> (List AV -> Prop) -> Prop
 | [],c=>c []
 | x :: l,c=>FX j B x fun y=>Jo j B l fun m=>c (y :: m)
end

def KN (j : Nat) (B : AV) : Env -> (Env -> Prop) -> Prop
 | [],k=>k []
 | (t,A) :: e,k=>match Nw j A with
   | false=>KN j B e fun m=>k ((t,A) :: m)
   | true=>FX j B A fun A'=>KN j B e fun m=>k ((t,A') :: m)

def Iu (j : Nat) (B : AV) : Heap -> (Heap -> Prop) -> Prop
 | [],k=>k []
 | (i,o) :: H,k=>match Nat.beq i j with
   | true=>Iu j B H fun G=>k ((i,.gone) :: G)
   | false=>match o with
     | .box A=>(match Nw j A with
       | false=>Iu j B H fun G=>k ((i,.box A) :: G)
       | true=>FX j B A fun A'=>Iu j B H fun G=>k ((i,.box A') :: G))
     | o=>Iu j B H fun G=>k ((i,o) :: G)

def NK : List Nat -> Env -> Heap -> (Env -> Heap -> Prop) -> Prop
 | [],e,H,k=>k e H
 | j :: js,e,H,k=>iI H j fun o=>match o with
   | .box A=>(nU A = true /\ strip A = A) /\ KN j A e fun e'=>Iu j A H fun H'=>NK js e' H' k
   | _=>False

inductive aN (ops : List Oper) (e : Env) (H : Heap) (k : Env -> Heap -> Prop) : Prop where
 | mk (ex : ∃ mask : List Bool,F5 ops mask = true /\ pR F L ops (ops.zip mask) e H k)
 | all (hb : Yu ops = true) (h : Hg F L ops ops.length [] e H k)
 | late (fl : List Nat) (ex : ∃ mask : List Bool,Qc ops mask fl = true /\ qN F L ops fl 0 (ops.zip mask) [] e H k)
 | both (fl gl : List Nat) (ex : ∃ mask : List Bool,Qd ops mask fl gl = true /\ oD F L ops fl gl 0 (ops.zip mask) [] [] e H k)
 | P9 (js : List Nat) (h : NK js e H fun e' H'=>∃ mask : List Bool,F5 ops mask = true /\ pR F L ops (ops.zip mask) e' H' k)
end

section
variable (F : Nat -> List AV -> Heap -> AV -> Heap -> Prop) (kD : AV -> Prop) (L : Lay)

def aj : Code -> (AX -> Env -> Heap -> Prop) -> Env -> Heap -> Prop
 | .skip,Q,e,H=>Q .normal e H
 | .region _ ops d,Q,e,H=>(match d with
   | false=>uf F kD L ops.toList ops.toList e H fun e' H'=>Q .normal e' H'
   | true=>aN F L ops.toList e H fun e' H'=>Q .normal e' H')
 | .seq a b,Q,e,H=>aj a (fun x e' H'=>match x with | .normal=>aj b Q e' H' | x=>Q x e' H') e H
 | .cond c a b,Q,e,H=>bW e c fun A=>br A (aj a Q e H) (aj b Q e H)
 | .block i b,Q,e,H=>aj b (fun x e' H'=>match x with
   | .exit j=>(match Nat.beq j i with | true=>Q .normal e' H' | false=>Q (.exit j) e' H')
   | x=>Q x e' H') e H
 | .loop b,Q,e,H=>aK kD (writes b) (aj b) Q e H
 | .exit i,Q,e,H=>Q (.exit i) e H
 | .ret,Q,e,H=>Q .ret e H
 | .label _,Q,e,H=>Q .normal e H
 | _,_,_,_=>False

end
end Go.AL

namespace Go.AL

mutual
def Ok : AV -> Prop
 | .int k n=>uQ k n
 | .str s=>s.length <= maxL
 | .sl _ l _=>l.length <= maxL /\ yV l
 | .ag l=>yV l
 | .eU l=>yV l
 | .cp x=>Ok x
 | .jm _ x=>Ok x
 | _=>True
def yV : List AV -> Prop
 | []=>True
 | x :: l=>Ok x /\ yV l
end

mutual
theorem yh {w : World} {Im : Nat -> Nat -> Prop} : ∀ (A : AV) (cs : List Value),Rd w Im A cs -> Ok A
 | .bool _,_,_=>by simp only [Ok]
 | .tt,_,_=>by simp only [Ok]
 | .ff,_,_=>by simp only [Ok]
 | .dec _,_,_=>by simp only [Ok]
 | .int _ _,_,hr=>by simp only [Rd] at hr; simp only [Ok]; exact hr.2
 | .str _,_,hr=>by simp only [Rd] at hr; simp only [Ok]; exact hr.2
 | .eX,_,_=>by simp only [Ok]
 | .jm t x,cs,hr=>by simp only [Rd] at hr; obtain ⟨v,rfl,h2,h3⟩:=hr; simp only [Ok]; exact yh x _ h3
 | .aG,_,_=>by simp only [Ok]
 | .sl sz l .no,cs,hr=>by
   simp only [Rd] at hr
   simp only [Ok]
   obtain ⟨h0,⟨rfl,rfl⟩ | ⟨a,cap,rfl,_,_,_,h⟩⟩:=hr
   ·exact ⟨h0,by simp only [yV]⟩
   ·exact ⟨h0,YK l _ h⟩
 | .sl sz l .full,cs,hr=>by simp only [Rd] at hr
 | .sl sz l (.own _),cs,hr=>by simp only [Rd] at hr
 | .ms _ _ _ _ _,_,_=>by simp only [Ok]
 | .ag l,cs,hr=>by simp only [Rd] at hr; simp only [Ok]; exact YJ l cs hr
 | .eU _,_,hr=>by simp only [Rd] at hr
 | .ptr _ _ _,_,_=>by simp only [Ok]
 | .cp x,cs,hr=>by simp only [Rd] at hr; obtain ⟨a,ds,rfl,_,_,h⟩:=hr; simp only [Ok]; exact yh x _ h
 | .gI,_,_=>by simp only [Ok]
 | .fn _ _,_,_=>by simp only [Ok]
 | .aH,_,_=>by simp only [Ok]
 | .mp _,_,_=>by simp only [Ok]
 | .gs _ _,_,_=>by simp only [Ok]
 | .bm _ _,_,_=>by simp only [Ok]
 | .iQ,_,_=>by simp only [Ok]
 | .und,_,_=>by simp only [Ok]
theorem YJ {w : World} {Im : Nat -> Nat -> Prop} : ∀ (l : List AV) (cs : List Value),lN w Im l cs -> yV l
 | [],_,_=>by simp only [yV]
 | x :: l,cs,hr=>by
   simp only [lN] at hr
   obtain ⟨c,d,rfl,h2,h3⟩:=hr
   simp only [yV]
   exact ⟨yh x _ h2,YJ l _ h3⟩
theorem YK {w : World} {Im : Nat -> Nat -> Prop} {sz b : Nat} : ∀ (l : List AV) (off : Nat),sD w Im sz b l off -> yV l
 | [],_,_=>by simp only [yV]
 | x :: l,off,hr=>by
   simp only [sD] at hr
   obtain ⟨⟨cs,h1,h2,h3⟩,h4⟩:=hr
   simp only [yV]
   exact ⟨yh x _ h3,YK l _ h4⟩
end

mutual
theorem SS {c : Cx} : ∀ (A : AV) (cs : List Value),VR c A cs -> Ok A
 | .bool _,_,_=>by simp only [Ok]
 | .tt,_,_=>by simp only [Ok]
 | .ff,_,_=>by simp only [Ok]
 | .dec _,_,_=>by simp only [Ok]
 | .int _ _,_,hr=>by simp only [VR] at hr; exact yh _ _ hr
 | .str _,_,hr=>by simp only [VR] at hr; exact yh _ _ hr
 | .eX,_,_=>by simp only [Ok]
 | .jm t x,cs,hr=>by simp only [VR] at hr; obtain ⟨v,rfl,h2,h3⟩:=hr; simp only [Ok]; exact SS x _ h3
 | .aG,_,_=>by simp only [Ok]
 | .sl sz l .no,cs,hr=>by simp only [VR] at hr; exact yh _ _ hr
 | .sl sz l .full,cs,hr=>by simp only [VR] at hr; exact yh (.sl sz l .no) _ hr.1
 | .sl sz l (.own _),cs,hr=>by simp only [VR] at hr; exact yh (.sl sz l .no) _ hr.2.1
 | .ms _ _ _ _ _,_,_=>by simp only [Ok]
 | .ag l,cs,hr=>by simp only [VR] at hr; simp only [Ok]; exact YE l cs hr
 | .eU _,_,hr=>by simp only [VR,Rd] at hr
 | .ptr _ _ _,_,_=>by simp only [Ok]
 | .cp x,cs,hr=>by simp only [VR] at hr; exact yh _ _ hr
 | .gI,_,_=>by simp only [Ok]
 | .fn _ _,_,_=>by simp only [Ok]
 | .aH,_,_=>by simp only [Ok]
 | .mp _,_,_=>by simp only [Ok]
 | .gs _ _,_,_=>by simp only [Ok]
 | .bm _ _,_,_=>by simp only [Ok]
 | .iQ,_,_=>by simp only [Ok]
 | .und,_,_=>by simp only [Ok]
theorem YE {c : Cx} : ∀ (l : List AV) (cs : List Value),lU c l cs -> yV l
 | [],_,_=>by simp only [yV]
 | x :: l,cs,hr=>by
   simp only [lU] at hr
   obtain ⟨a,d,rfl,h2,h3⟩:=hr
   simp only [yV]
   exact ⟨SS x _ h2,YE l _ h3⟩
end

theorem VA_ok {c : Cx} : ∀ (l : List AV) (vs : List Value),VA c l vs -> yV l
 | [],_,_=>by simp only [yV]
 | x :: l,vs,hr=>by
   simp only [VA] at hr
   obtain ⟨v,r,rfl,h2,h3,h4⟩:=hr
   simp only [yV]
   exact ⟨SS x _ h3,VA_ok l _ h4⟩

theorem Tq {c : Cx} {A : AV} {v : Value} (h : EV c A v) : Ok A:=by
 cases A <;> first
  | exact SS _ _ h.2
  | (simp only [Ok]; done)
  | (obtain ⟨vs,rfl,h2⟩:=h; simp only [Ok]; exact VA_ok _ _ h2)

theorem cells_one {v x : Value} (hs : v.cells = #[v]) (h : v.cells.toList = [x]) : v = x:=by
 rw [hs] at h; injection h

section
variable {c : Cx} {v : Value}

theorem gV {b : Bool} (h : VV c (.bool b) v) : v = .bool b:=by
 have:=h.2; simp only [VR,Rd] at this; exact cells_one (h.1.2 rfl) this
theorem vX (h : VV c .tt v) : v = .bool true:=by
 have:=h.2; simp only [VR,Rd] at this; exact cells_one (h.1.2 rfl) this
theorem vY (h : VV c .ff v) : v = .bool false:=by
 have:=h.2; simp only [VR,Rd] at this; exact cells_one (h.1.2 rfl) this
theorem kY {p : Prop} (h : VV c (.dec p) v) : ∃ b,v = .bool b /\ (b = true ↔ p):=by
 have:=h.2; simp only [VR,Rd] at this
 obtain ⟨b,h1,h2⟩:=this
 exact ⟨b,cells_one (h.1.2 rfl) h1,h2⟩
theorem VV_int {k : IntKind} {n : Int} (h : VV c (.int k n) v) : v = .int k n /\ uQ k n:=by
 have:=h.2; simp only [VR,Rd] at this; exact ⟨cells_one (h.1.2 rfl) this.1,this.2⟩
theorem QF {s : List UInt8} (h : VV c (.str s) v) : v = .string ⟨s.toArray⟩ /\ s.length <= maxL:=by
 have:=h.2; simp only [VR,Rd] at this; exact ⟨cells_one (h.1.2 rfl) this.1,this.2⟩
theorem AQ (h : VV c .eX v) : v = .nilIface:=by
 have:=h.2; simp only [VR,Rd] at this; exact cells_one (h.1.2 rfl) this
theorem xH (h : VV c .aG v) : v = .slice none 0 0:=by
 have:=h.2; simp only [VR,Rd] at this; exact cells_one (h.1.2 rfl) this
theorem Ec (h : VV c .gI v) : v = .pointer none:=by
 have:=h.2; simp only [VR,Rd] at this; exact cells_one (h.1.2 rfl) this
theorem VV_nilm (h : VV c .iQ v) : v = .map none:=by
 have:=h.2; simp only [VR,Rd] at this; exact cells_one (h.1.2 rfl) this
theorem QG {t : Nat} {x : AV} (h : VV c (.jm t x) v) : ∃ u,v = .iface t u /\ VV c x u:=by
 have:=h.2; simp only [VR] at this
 obtain ⟨u,h1,h2,h3⟩:=this
 exact ⟨u,cells_one (h.1.2 rfl) h1,h2,h3⟩
theorem yT {k off : Nat} {p : List Nat} (h : VV c (.ptr k p off) v) : k < c.nx /\ v = .pointer (some ⟨c.ρ k,off,none⟩):=by
 have:=h.2; simp only [VR] at this; exact ⟨this.1,cells_one (h.1.2 rfl) this.2⟩
theorem Dn {k off len cap sz : Nat} (h : VV c (.ms k off len cap sz) v) : k < c.nx /\ v = .slice (some ⟨c.ρ k,off * sz,none⟩) len cap /\ len <= cap /\ cap <= maxL:=by
 have:=h.2; simp only [VR] at this; exact ⟨this.1,cells_one (h.1.2 rfl) this.2.1,this.2.2⟩
theorem VV_mp {k : Nat} (h : VV c (.mp k) v) : k < c.nx /\ v = .map (some (c.ρ k)):=by
 have:=h.2; simp only [VR] at this; exact ⟨this.1,cells_one (h.1.2 rfl) this.2⟩
theorem VV_bm {f k : Nat} (h : VV c (.bm f k) v) : k < c.nx /\ v = .func (.func f) #[.pointer (some ⟨c.ρ k,0,none⟩)] #[]:=by
 have:=h.2; simp only [VR] at this; exact ⟨this.1,cells_one (h.1.2 rfl) this.2⟩
theorem VV_gs {k len : Nat} (h : VV c (.gs k len) v) : k < c.nx /\ (∃ a n m,v = .slice a n m) /\ ∀ n,c.tp k = some n -> len <= n /\ (len = n -> v = .slice (c.tk k).1 n (c.tk k).2):=by
 have:=h.2; simp only [VR] at this
 obtain ⟨h1,⟨a,n,m,h2⟩,h3⟩:=this
 exact ⟨h1,⟨a,n,m,cells_one (h.1.2 rfl) h2⟩,fun n hn=>⟨(h3 n hn).1,fun e=>cells_one (h.1.2 rfl) ((h3 n hn).2 e)⟩⟩
theorem SQ {x : AV} (h : VV c (.cp x) v) : ∃ a ds,v = .pointer (some a) /\ a.spot = none /\ jH c.w c.Im a.block a.off ds /\ Rd c.w c.Im x ds:=by
 have:=h.2; simp only [VR,Rd] at this
 obtain ⟨a,ds,h1,h2⟩:=this
 exact ⟨a,ds,cells_one (h.1.2 rfl) h1,h2⟩
theorem VV_fn {f : Nat} {cap : List AV} (h : VV c (.fn f cap) v) : ∃ vs : List Value,v = .func (.func f) #[] vs.toArray /\ VA c cap vs:=by
 have:=h.2; simp only [VR] at this
 obtain ⟨vs,h1,h2⟩:=this
 exact ⟨vs,cells_one (h.1.2 rfl) h1,h2⟩
theorem Hl {sz : Nat} {l : List AV} {tok : Tk} (h : VV c (.sl sz l tok) v) : l.length <= maxL /\ ((l = [] /\ v = .slice none 0 0) \/
  ∃ a cap,v = .slice (some a) l.length cap /\ l.length <= cap /\ cap <= maxL /\ (l ≠ [] -> a.spot = none) /\ sD c.w c.Im sz a.block l a.off):=by
 have hv:=h.1.2 rfl
 have key : Rd c.w c.Im (.sl sz l .no) v.cells.toList:=by
  have:=h.2
  cases tok with
  | no=>simpa only [VR] using this
  | full=>simp only [VR] at this; exact this.1
  | own k=>simp only [VR] at this; exact this.2.1
 simp only [Rd] at key
 refine ⟨key.1,?_⟩
 rcases key.2 with (⟨h1,h2⟩ | ⟨a,cap,h1,h2⟩)
 ·exact .inl ⟨h1,cells_one hv h2⟩
 ·exact .inr ⟨a,cap,cells_one hv h1,h2⟩
end

theorem eu {c : Cx} {A : AV} {v : Value} (hA : dK A = false) (hv : v.cells = #[v]) (h : VR c A [v]) : VV c A v :=
 ⟨⟨(fun h=>by rw [hA] at h; cases h),fun _=>hv⟩,by rw [hv]; exact h⟩

theorem bn {c : Cx} {A : AV} {v : Value} (h : VV c A v) : EV c A v:=by
 cases A <;> first
  | exact h
  | trivial
  | (have:=h.2; simp only [VR,Rd] at this)

def bF : Operand -> Bool
 | .const (.int k n)=>decide (k.min <= n) && decide (n <= k.max)
 | .const (.string s)=>decide (s.data.size <= 1000000)
 | _=>true

def gG (c : Cx) (e : Env) (a : Act) : Prop:=∀ t A,dR e t = some A -> EV c A (a.tmps.getD t undef)

theorem KT {c : Cx} {v : Value} {k : AV -> Prop} (hv : bF (.const v) = true) (h : Gn v k) : ∃ A,VV c A v /\ k A:=by
 unfold Gn at h
 split at h
 ·exact ⟨_,eu rfl rfl (by simp only [VR,Rd]),h⟩
 ·exact ⟨_,eu rfl rfl (by simp only [VR,Rd]),h⟩
 ·refine ⟨_,eu rfl rfl ?_,h⟩
  simp only [VR,Rd]
  simp only [bF,Bool.and_eq_true,decide_eq_true_eq] at hv
  exact ⟨trivial,hv⟩
 ·refine ⟨_,eu rfl rfl ?_,h⟩
  simp only [VR,Rd]
  simp only [bF,decide_eq_true_eq] at hv
  refine ⟨by simp,?_⟩
  rw [Array.length_toList]; unfold maxL; omega
 ·exact ⟨_,eu rfl rfl (by simp only [VR,Rd]),h⟩
 ·exact ⟨_,eu rfl rfl (by simp only [VR,Rd]),h⟩
 ·exact ⟨_,eu rfl rfl (by simp only [VR,Rd]),h⟩
 ·exact ⟨_,eu rfl rfl (by simp only [VR,Rd]),h⟩
 ·exact ⟨_,eu rfl rfl (by simp only [VR,Rd]),h⟩
 ·exact h.elim

theorem aW {c : Cx} {e : Env} {a : Act} {x : Operand} {k : AV -> Prop} (he : gG c e a) (hx : bF x = true) (h : bW e x k) : ∃ A,EV c A (a.eval x) /\ k A:=by
 unfold bW at h
 split at h
 ·obtain ⟨A,h1,h2⟩:=gU.1 h
  exact ⟨A,he _ _ h1,h2⟩
 ·obtain ⟨A,h1,h2⟩:=KT (c:=c) hx h
  exact ⟨A,bn h1,h2⟩
 ·refine ⟨_,bn (eu (v:=.func (.func _) #[] #[]) rfl rfl ?_),h⟩
  simp only [VR,VA]
  exact ⟨[],rfl,rfl⟩
 ·exact h.elim

def A8 (c : Cx) : List AV -> List Value -> Prop
 | [],vs=>vs = []
 | x :: l,vs=>∃ v r,vs = v :: r /\ EV c x v /\ A8 c l r

theorem mG {c : Cx} {e : Env} {a : Act} (he : gG c e a) : ∀ {l : List Operand} {k : List AV -> Prop},l.all bF = true -> pK e l k ->
  ∃ As,A8 c As (l.map a.eval) /\ k As
 | [],k,_,h=>⟨[],rfl,h⟩
 | x :: l,k,hl,h=>by
   simp only [List.all_cons,Bool.and_eq_true] at hl
   obtain ⟨A,h1,h2⟩:=aW he hl.1 h
   obtain ⟨As,h3,h4⟩:=mG he hl.2 h2
   exact ⟨A :: As,⟨_,_,rfl,h1,h3⟩,h4⟩

end Go.AL

namespace Go.AL

theorem oO (k : IntKind) (n : Int) : uQ k (k.wrap n):=by
 unfold uQ IntKind.wrap IntKind.min IntKind.max
 have h0:=Int.emod_nonneg n (b:=(2 ^ k.bits : Int)) (by cases k <;> simp [IntKind.bits])
 have h1:=Int.emod_lt_of_pos n (b:=(2 ^ k.bits : Int)) (by cases k <;> simp [IntKind.bits])
 cases k <;> simp [IntKind.bits,IntKind.signed] at * <;> first | omega | (split <;> omega)

theorem LX {k : IntKind} {n : Int} (h : uQ k n) : k.wrap n = n:=by
 unfold uQ IntKind.min IntKind.max at h
 unfold IntKind.wrap
 cases k <;> simp [IntKind.bits,IntKind.signed] at * <;> first | omega | (split <;> omega)

theorem LJ {k : IntKind} {a : Int} (h : uQ k a) (n : Nat) : uQ k (a.fdiv (2 ^ n)):=by
 have hp : (0 : Int) < 2 ^ n:=Int.pow_pos (by omega)
 have h1 : a.fdiv (2 ^ n) = a / (2 ^ n):=Int.fdiv_eq_ediv_of_nonneg a (Int.le_of_lt hp)
 rw [h1]
 unfold uQ at *
 have hmin : k.min <= 0:=by cases k <;> simp [IntKind.min,IntKind.signed,IntKind.bits]
 have hmax : 0 <= k.max:=by cases k <;> simp [IntKind.max,IntKind.signed,IntKind.bits]
 by_cases ha : 0 <= a
 ·have h2 : 0 <= a / 2 ^ n:=Int.ediv_nonneg ha (Int.le_of_lt hp)
  have h3 : a / 2 ^ n <= a:=Int.ediv_le_self _ ha
  omega
 ·have h2 : a / 2 ^ n < 0:=Int.ediv_neg_of_neg_of_pos (by omega) hp
  have h3 : a <= a / 2 ^ n:=by
   have:=Int.le_ediv_of_mul_le hp (a:=a) (b:=a) (by
    have h5 : (1 : Int) <= 2 ^ n:=hp
    have : a * 2 ^ n <= a * 1:=Int.mul_le_mul_of_nonpos_left (by omega) h5
    omega)
   exact this
  omega

theorem YP {k : IntKind} {a b : Int} (h : uQ k a) : uQ k (a.tmod b):=by
 unfold uQ at *
 have hmin : k.min <= 0:=by cases k <;> simp [IntKind.min,IntKind.signed,IntKind.bits]
 have hmax : 0 <= k.max:=by cases k <;> simp [IntKind.max,IntKind.signed,IntKind.bits]
 have h1 : (a.tmod b).natAbs <= a.natAbs:=by
  rw [Int.natAbs_tmod]; exact Nat.mod_le _ _
 rcases Int.le_total 0 a with ha | ha
 ·have : 0 <= a.tmod b:=Int.tmod_nonneg _ ha
  omega
 ·have : a.tmod b <= 0:=by
   have h2:=Int.tmod_nonneg b (a:=-a) (by omega)
   rw [Int.neg_tmod] at h2; omega
  omega

section
variable {c : Cx} {P : Program}

theorem dO {kd : IntKind} {n : Int} (h : uQ kd n) : VV c (.int kd n) (.int kd n):=eu rfl rfl (by simp only [VR,Rd]; exact ⟨trivial,h⟩)
theorem JF {s : List UInt8} (h : s.length <= maxL) : VV c (.str s) (.string ⟨s.toArray⟩):=eu rfl rfl (by simp only [VR,Rd]; exact ⟨trivial,h⟩)
theorem iF {p : Prop} {b : Bool} (h : b = true ↔ p) : VV c (.dec p) (.bool b):=eu rfl rfl (by simp only [VR,Rd]; exact ⟨b,rfl,h⟩)
theorem mJ (b : Bool) : VV c (.bool b) (.bool b):=eu rfl rfl (by simp only [VR,Rd])
theorem pU : VV c .tt (.bool true):=eu rfl rfl (by simp only [VR,Rd])
theorem kM : VV c .ff (.bool false):=eu rfl rfl (by simp only [VR,Rd])

theorem nD {kd : IntKind} {z : Int} {k : AV -> Prop} (h : arith kd z k) : ∃ R,VV c R (.int kd (kd.wrap z)) /\ k R:=by
 unfold arith at h
 split at h
 ·exact ⟨_,by rw [LX h.1]; exact dO h.1,h.2⟩
 ·exact ⟨_,dO (oO _ _),h⟩

theorem lW {A : AV} {k : AV -> Prop} {b : Bool} (hA : VV c A (.bool b)) (h : uP A k) : ∃ R,VV c R (.bool !b) /\ k R:=by
 unfold uP at h
 split at h
 ·have:=vX hA; simp at this; subst this; exact ⟨_,kM,h⟩
 ·have:=vY hA; simp at this; subst this; exact ⟨_,pU,h⟩
 ·have:=gV hA; simp at this; subst this; exact ⟨_,mJ _,h⟩
 ·obtain ⟨b',h1,h2⟩:=kY hA; simp at h1; subst h1
  refine ⟨_,iF ?_,h⟩
  rw [<- h2]; simp
 ·exact h.elim

theorem Dh {x : AV} {k : AV -> Prop} {v : Value} (hx : VV c x v) (h : GL x k) : ∃ b,v = .bool b /\ VV c x (.bool b) /\ k x:=by
 unfold GL at h
 split at h
 ·have:=vX hx; subst this; exact ⟨_,rfl,hx,h⟩
 ·have:=vY hx; subst this; exact ⟨_,rfl,hx,h⟩
 ·have:=gV hx; subst this; exact ⟨_,rfl,hx,h⟩
 ·obtain ⟨b',h1,h2⟩:=kY hx; subst h1; exact ⟨_,rfl,hx,h⟩
 ·exact h.elim

theorem BA {A : AV} {k : AV -> Prop} {v : Value} (hA : VV c A v) (h : uP A k) : ∃ b,v = .bool b:=by
 unfold uP at h
 split at h
 ·exact ⟨_,vX hA⟩
 ·exact ⟨_,vY hA⟩
 ·exact ⟨_,gV hA⟩
 ·obtain ⟨b',h1,_⟩:=kY hA; exact ⟨_,h1⟩
 ·exact h.elim

theorem Jr {A B : AV} {k : AV -> Prop} {v u : Value} (hA : VV c A v) (hB : VV c B u) (h : ZR A B k) :
  ∃ a b R,v = .bool a /\ u = .bool b /\ VV c R (.bool (a == b)) /\ k R:=by
 unfold ZR at h
 split at h
 ·obtain rfl:=vX hA
  obtain ⟨b,rfl,h2,h3⟩:=Dh hB h
  exact ⟨true,b,_,rfl,rfl,by simpa using h2,h3⟩
 ·obtain rfl:=vX hB
  obtain ⟨b,rfl,h2,h3⟩:=Dh hA h
  exact ⟨b,true,_,rfl,rfl,by simpa using h2,h3⟩
 ·obtain rfl:=vY hA
  obtain ⟨b,rfl⟩:=BA hB h
  obtain ⟨R,h2,h3⟩:=lW hB h
  exact ⟨false,b,_,rfl,rfl,by simpa using h2,h3⟩
 ·obtain rfl:=vY hB
  obtain ⟨b,rfl⟩:=BA hA h
  obtain ⟨R,h2,h3⟩:=lW hA h
  exact ⟨b,false,_,rfl,rfl,by simpa using h2,h3⟩
 ·obtain rfl:=gV hA
  obtain rfl:=gV hB
  exact ⟨_,_,_,rfl,rfl,iF (by simp),h⟩
 ·obtain ⟨a,rfl,ha⟩:=kY hA
  obtain ⟨b,rfl,hb⟩:=kY hB
  refine ⟨_,_,_,rfl,rfl,iF ?_,h⟩
  rw [<- ha,<- hb]; cases a <;> cases b <;> simp
 ·obtain ⟨a,rfl,ha⟩:=kY hA
  obtain rfl:=gV hB
  refine ⟨_,_,_,rfl,rfl,iF ?_,h⟩
  rw [<- ha]; rename_i b; cases a <;> cases b <;> simp
 ·obtain rfl:=gV hA
  obtain ⟨b,rfl,hb⟩:=kY hB
  refine ⟨_,_,_,rfl,rfl,iF ?_,h⟩
  rw [<- hb]; rename_i a _ _; cases a <;> cases b <;> simp
 ·exact h.elim

theorem CP {A B : AV} {k : AV -> Prop} {v u : Value} (hA : VV c A v) (hB : VV c B u) (h : CQ A B k) :
  ∃ b R,((v = .nilIface /\ u = .nilIface /\ b = true) \/ (v = .nilIface /\ (∃ t x,u = .iface t x) /\ b = false) \/ ((∃ t x,v = .iface t x) /\ u = .nilIface /\ b = false)) /\ VV c R (.bool b) /\ k R:=by
 unfold CQ at h
 split at h
 ·exact ⟨true,_,.inl ⟨AQ hA,AQ hB,rfl⟩,pU,h⟩
 ·obtain ⟨x,h1,_⟩:=QG hB
  exact ⟨false,_,.inr (.inl ⟨AQ hA,⟨_,_,h1⟩,rfl⟩),kM,h⟩
 ·obtain ⟨x,h1,_⟩:=QG hA
  exact ⟨false,_,.inr (.inr ⟨⟨_,_,h1⟩,AQ hB,rfl⟩),kM,h⟩
 ·exact h.elim

theorem zJ {A B : AV} {k : AV -> Prop} {v u : Value} (hA : VV c A v) (hB : VV c B u) (h : vk A B k) :
  ∃ b R a,v = .pointer a /\ u = .pointer none /\ b = a.isNone /\ VV c R (.bool b) /\ k R:=by
 unfold vk at h
 split at h
 ·exact ⟨true,_,none,Ec hA,Ec hB,rfl,pU,h⟩
 ·obtain ⟨a,ds,h1,_⟩:=SQ hA
  exact ⟨false,_,some a,h1,Ec hB,rfl,kM,h⟩
 ·exact ⟨false,_,_,(yT hA).2,Ec hB,rfl,kM,h⟩
 ·exact h.elim

end
end Go.AL

namespace Go.AL

theorem jk {α : Type} {k : α -> Prop} : ∀ {l : List α} {i : Nat},qw l i k ↔ ∃ x,l[i]? = some x /\ k x
 | [],i=>by simp [qw]
 | x :: l,0=>by simp [qw]
 | x :: l,i + 1=>by simp only [qw,List.getElem?_cons_succ]; exact jk

theorem qE {k : List AV -> Prop} {y : AV} : ∀ {l : List AV} {i : Nat},jr l i y k -> i < l.length /\ k (l.set i y)
 | [],i,h=>by simp [jr] at h
 | x :: l,0,h=>by simpa [jr] using h
 | x :: l,i + 1,h=>by
   simp only [jr] at h
   have:=qE h
   exact ⟨by simp; exact this.1,by simpa using this.2⟩

theorem wF {k : List Nat -> Prop} {x : Nat} : ∀ {l : List Nat},IV l x k ↔ k (l ++ [x])
 | []=>Iff.rfl
 | y :: l=>by simp only [IV]; exact wF

theorem G6 {k : List AV -> Prop} {m : List AV} : ∀ {l : List AV},OG l m k ↔ k (l ++ m)
 | []=>Iff.rfl
 | y :: l=>by simp only [OG]; exact G6

theorem ES {k : List AV -> Prop} {z : AV} : ∀ {n : Nat},J3 z n k ↔ k (List.replicate n z)
 | 0=>Iff.rfl
 | n + 1=>by simp only [J3]; exact ES

theorem bI {a b : Nat} {k : Prop} : kL a b k ↔ a = b /\ k:=by
 unfold kL
 cases h : Nat.beq a b with
 | true=>simp [Nat.eq_of_beq_eq_true h]
 | false=>simp [gK h]

theorem uU {A : AV} {k : Prop} : Ew A k ↔ isVal A = true /\ k:=by
 unfold Ew
 cases isVal A <;> simp

def DI : AV -> List Nat -> Option AV
 | A,[]=>some A
 | .ag l,i :: p=>match l[i]? with | some x=>DI x p | none=>none
 | _,_ :: _=>none

theorem lD {k : AV -> Prop} : ∀ {p : List Nat} {A : AV},vF A p k ↔ ∃ x,DI A p = some x /\ k x
 | [],A=>by simp [vF,DI]
 | i :: p,A=>by
   cases A with
   | ag l =>
     simp only [vF,DI,jk]
     constructor
     ·rintro ⟨x,h1,h2⟩
      obtain ⟨y,h3,h4⟩:=lD.1 h2
      exact ⟨y,by simp only [h1]; exact h3,h4⟩
     ·rintro ⟨y,h3,h4⟩
      cases hx : l[i]? with
      | none=>simp [hx] at h3
      | some x=>simp only [hx] at h3; exact ⟨x,rfl,lD.2 ⟨y,h3,h4⟩⟩
   | _=>simp [vF,DI]

theorem rU {c : Cx} : ∀ {l : List AV} {cs : List Value} {i : Nat} {x : AV},lU c l cs -> l[i]? = some x ->
  ∃ pre xs post,cs = pre ++ xs ++ post /\ pre.length = iJ (l.take i) /\ VR c x xs /\ ∀ y ys,VR c y ys -> lU c (l.set i y) (pre ++ ys ++ post)
 | [],_,_,_,_,h=>by simp at h
 | z :: l,cs,0,x,hr,h=>by
   simp only [lU] at hr
   obtain ⟨a,d,rfl,h2,h3⟩:=hr
   obtain rfl : z = x:=by simpa using h
   refine ⟨[],a,d,by simp,by simp [iJ],h2,fun y ys hy=>?_⟩
   simp only [List.nil_append,List.set_cons_zero,lU]
   exact ⟨ys,d,rfl,hy,h3⟩
 | z :: l,cs,i + 1,x,hr,h=>by
   simp only [lU] at hr
   obtain ⟨a,d,rfl,h2,h3⟩:=hr
   obtain ⟨pre,xs,post,rfl,h5,h6,h7⟩:=rU h3 (by simpa using h : l[i]? = some x)
   refine ⟨a ++ pre,xs,post,by simp,by simp [iJ,gu _ _ h2,h5],h6,fun y ys hy=>?_⟩
   simp only [List.set_cons_succ,lU]
   exact ⟨a,pre ++ ys ++ post,by simp,h2,h7 y ys hy⟩

theorem Ed {c : Cx} : ∀ {p : List Nat} {A x : AV} {cs : List Value},VR c A cs -> DI A p = some x ->
  ∃ pre xs post,cs = pre ++ xs ++ post /\ pre.length = EX A p /\ VR c x xs
 | [],A,x,cs,hr,h=>by
   obtain rfl : A = x:=by simpa [DI] using h
   exact ⟨[],cs,[],by simp,by cases A <;> simp [EX],hr⟩
 | i :: p,A,x,cs,hr,h=>by
   cases A with
   | ag l =>
     simp only [DI] at h
     cases hx : l[i]? with
     | none=>simp [hx] at h
     | some y =>
       simp only [hx] at h
       simp only [VR] at hr
       obtain ⟨pre,ys,post,rfl,h2,h3,_⟩:=rU hr hx
       obtain ⟨pre',xs,post',rfl,h5,h6⟩:=Ed h3 h
       exact ⟨pre ++ pre',xs,post' ++ post,by simp,by simp only [List.length_append,EX,hx,h2,h5],h6⟩
   | _=>simp [DI] at h

theorem qC {c : Cx} {k : AV -> Prop} {B : AV} {bs : List Value} (hB : VR c B bs) : ∀ {p : List Nat} {A : AV} {cs : List Value},VR c A cs -> zi A p B k ->
  ∃ A' x pre xs post,DI A p = some x /\ cs = pre ++ xs ++ post /\ pre.length = EX A p /\ VR c x xs /\ VR c A' (pre ++ bs ++ post) /\ k A'
 | [],A,cs,hr,h=>by
   have h' : k B:=by cases A <;> simpa [zi] using h
   exact ⟨B,A,[],cs,[],by simp [DI],by simp,by cases A <;> simp [EX],hr,by simpa using hB,h'⟩
 | i :: p,A,cs,hr,h=>by
   cases A with
   | ag l =>
     simp only [zi,jk] at h
     obtain ⟨x,hx,h⟩:=h
     simp only [VR] at hr
     obtain ⟨pre,ys,post,rfl,h2,h3,h4⟩:=rU hr hx
     obtain ⟨x',z,pre',xs,post',h5,rfl,h7,h8,h9,h10⟩:=qC hB h3 h
     have h11:=qE h10
     refine ⟨.ag (l.set i x'),z,pre ++ pre',xs,post' ++ post,by simp only [DI,hx,h5],by simp,by simp only [List.length_append,EX,hx,h2,h7],h8,?_,h11.2⟩
     simp only [VR]
     have:=h4 x' _ h9
     simpa using this
   | _=>simp [zi] at h

theorem aU {c : Cx} {A : AV} {cs : List Value} (h : VR c A cs) (hA : dK A = false) : ∀ u ∈ cs,u.oneCell' = true:=by
 cases A with
 | ag l=>simp [dK] at hA
 | dec p=>simp only [VR,Rd] at h; obtain ⟨b,rfl,_⟩:=h; simp [Value.oneCell']
 | sl sz l tok =>
   cases tok with
   | no=>simp only [VR,Rd] at h; obtain ⟨_,⟨_,rfl⟩ | ⟨a,cap,rfl,_⟩⟩:=h <;> simp [Value.oneCell']
   | full=>simp only [VR,Rd] at h; obtain ⟨⟨_,⟨_,rfl⟩ | ⟨a,cap,rfl,_⟩⟩,_⟩:=h <;> simp [Value.oneCell']
   | own k=>simp only [VR,Rd] at h; obtain ⟨_,⟨_,⟨_,rfl⟩ | ⟨a,cap,rfl,_⟩⟩,_⟩:=h <;> simp [Value.oneCell']
 | jm t x=>simp only [VR] at h; obtain ⟨v,rfl,_⟩:=h; simp [Value.oneCell']
 | cp x=>simp only [VR,Rd] at h; obtain ⟨a,ds,rfl,_⟩:=h; simp [Value.oneCell']
 | fn f cap=>simp only [VR] at h; obtain ⟨vs,rfl,_⟩:=h; simp [Value.oneCell']
 | eU l=>simp only [VR,Rd] at h
 | und=>simp only [VR,Rd] at h
 | ptr=>simp only [VR] at h; obtain ⟨_,rfl⟩:=h; simp [Value.oneCell']
 | ms=>simp only [VR] at h; obtain ⟨_,rfl,_⟩:=h; simp [Value.oneCell']
 | mp=>simp only [VR] at h; obtain ⟨_,rfl⟩:=h; simp [Value.oneCell']
 | gs=>simp only [VR] at h; obtain ⟨_,⟨_,_,_,rfl⟩,_⟩:=h; simp [Value.oneCell']
 | bm=>simp only [VR] at h; obtain ⟨_,rfl⟩:=h; simp [Value.oneCell']
 | int=>simp only [VR,Rd] at h; obtain ⟨rfl,_⟩:=h; simp [Value.oneCell']
 | str=>simp only [VR,Rd] at h; obtain ⟨rfl,_⟩:=h; simp [Value.oneCell']
 | _=>simp only [VR,Rd] at h; subst h; simp [Value.oneCell']

mutual
theorem pV {c : Cx} : ∀ (A : AV) (cs : List Value),VR c A cs -> ∀ u ∈ cs,u.oneCell' = true
 | .ag l,cs,h=>by simp only [VR] at h; exact Dq l cs h
 | .bool _,_,h=>aU h rfl
 | .tt,_,h=>aU h rfl
 | .ff,_,h=>aU h rfl
 | .dec _,_,h=>aU h rfl
 | .int _ _,_,h=>aU h rfl
 | .str _,_,h=>aU h rfl
 | .eX,_,h=>aU h rfl
 | .jm _ _,_,h=>aU h rfl
 | .aG,_,h=>aU h rfl
 | .sl _ _ _,_,h=>aU h rfl
 | .ms _ _ _ _ _,_,h=>aU h rfl
 | .eU _,_,h=>aU h rfl
 | .ptr _ _ _,_,h=>aU h rfl
 | .cp _,_,h=>aU h rfl
 | .gI,_,h=>aU h rfl
 | .fn _ _,_,h=>aU h rfl
 | .aH,_,h=>aU h rfl
 | .mp _,_,h=>aU h rfl
 | .gs _ _,_,h=>aU h rfl
 | .bm _ _,_,h=>aU h rfl
 | .iQ,_,h=>aU h rfl
 | .und,_,h=>aU h rfl
theorem Dq {c : Cx} : ∀ (l : List AV) (cs : List Value),lU c l cs -> ∀ u ∈ cs,u.oneCell' = true
 | [],_,h=>by simp only [lU] at h; subst h; simp
 | x :: l,cs,h=>by
   simp only [lU] at h
   obtain ⟨a,d,rfl,h2,h3⟩:=h
   intro u hu
   rcases List.mem_append.1 hu with hu | hu
   ·exact pV x a h2 u hu
   ·exact Dq l d h3 u hu
end

section
variable {P : Program} {t : Nat} {i : TI}

theorem pX.under (h : pX P t i) : ∃ d,P.underlying t = some d /\ descOf P d = i.desc:=by
 have:=h.desc
 cases hd : P.underlying t with
 | none=>simp [hd] at this
 | some d=>simp [hd] at this; exact ⟨d,rfl,this⟩

theorem pX.I7 (h : pX P t i) (w : World) : (isAgg t).run P w = .ok (dK i.zero) w:=by
 obtain ⟨d,h1,h2⟩:=h.under
 rw [<- h.agg,<- h2]
 unfold isAgg
 simp only [Sem.run_bind,run_underlying h1,Result.andThen_ok]
 cases d <;> rfl

theorem pX.oU (h : pX P t i) (w : World) : (sizeOf t).run P w = .ok (flat i.zero) w:=by
 obtain ⟨x,v,h1,h2,_⟩:=h.info
 unfold sizeOf typeInfo
 simp [h1,h2]

theorem pX.zn (h : pX P t i) (w : World) : ∃ v,(zeroValue t).run P w = .ok v w /\ eP i.zero v /\ ∀ w Im,Rd w Im i.zero v.cells.toList:=by
 obtain ⟨x,v,h1,h2,h3,h4,h5,h6⟩:=h.info
 refine ⟨v,?_,h5,h6⟩
 unfold zeroValue typeInfo
 simp [h1,h4]
end

theorem jw {P : Program} {L : Lay} {t : Nat} {x : AV} {k : Prop} (hL : dS P L) (h : yJ L t x k) :
  isVal x = true /\ ∃ i,pX P t i /\ flat x = flat i.zero /\ dK x = dK i.zero /\ k:=by
 unfold yJ at h
 obtain ⟨hv,h⟩:=uU.1 h
 refine ⟨hv,?_⟩
 obtain ⟨i,hi,h⟩:=Lay.bC hL h
 refine ⟨i,hi,?_⟩
 cases hb : Nat.beq (flat x) (flat i.zero) with
 | false=>simp [hb] at h
 | true =>
   simp only [hb] at h
   refine ⟨Nat.eq_of_beq_eq_true hb,?_⟩
   cases h1 : dK x <;> cases h2 : dK i.zero <;> simp [h1,h2] at h ⊢ <;> exact h

theorem qF {P : Program} {c : Cx} {t : Nat} {i : TI} {x : AV} {cs : List Value} {b off : Nat} (hT : pX P t i) (hf : flat x = flat i.zero) (ha : dK x = dK i.zero)
  (hr : VR c x cs) (hc : ∀ j v,cs[j]? = some v -> c.w.cell? ⟨b,off + j,none⟩ = some v) : (loadVar t ⟨b,off,none⟩).run P c.w = .ok (mkV x cs) c.w:=by
 unfold loadVar
 simp only [Sem.run_bind,hT.I7,Result.andThen_ok]
 cases hz : dK i.zero with
 | true =>
   have hl : cs.length = flat i.zero:=(gu _ _ hr).trans hf
   have:=run_loadCells_list (P:=P) c.w ⟨b,off,none⟩ cs (fun j v hj=>by
    have:=hc j v hj
    unfold Addr.add; split
    ·rename_i h0; subst h0; simpa using this
    ·simpa using this)
   simp only [if_true,Sem.run_bind,hT.oU,Result.andThen_ok,<- hl,this,Sem.run_pure]
   rw [hz] at ha
   cases x <;> simp [dK] at ha
   rfl
 | false =>
   obtain ⟨v,rfl,hv⟩:=nI hr (by rw [ha,hz])
   have:=hc 0 v rfl
   simp only [Nat.add_zero] at this
   simp only [Bool.false_eq_true,if_false,run_load,this]
   rw [hz] at ha
   have : mkV x [v] = v:=by cases x <;> simp [dK] at ha <;> rfl
   rw [this]

theorem sQ {P : Program} {w : World} {t : Nat} {i : TI} {v : Value} {b off : Nat} {cur : Array Value} {ty : Nat} (hT : pX P t i) (hf : v.cells.size = flat i.zero)
  (hg : w.heap[b]? = some (.cells cur ty)) (hl : off + v.cells.size <= cur.size) (h1 : ∀ u ∈ v.cells.toList,u.oneCell' = true) :
  (storeVar t ⟨b,off,none⟩ v).run P w = .ok () (w.setRow b (cur.toList.take off ++ v.cells.toList ++ cur.toList.drop (off + v.cells.size)).toArray):=by
 unfold storeVar
 have:=run_storeCells_at P b off ty v.cells.toList 0 cur w hg (by simpa using hl) h1
 simp only [Nat.add_zero,Array.length_toList] at this
 simp only [Sem.run_bind,hT.oU,Result.andThen_ok,hf,ne_eq,not_true_eq_false,if_false]
 rw [hf] at this
 exact this

theorem cell_of_heap {w : World} {b o : Nat} {cs : Array Value} {ty : Nat} {fr : Nat × Nat} (h : w.heap[b]? = some (.cells cs ty fr)) : w.cell? ⟨b,o,none⟩ = cs[o]?:=by
 simp [World.cell?,h]

theorem nP {c : Cx} {A : AV} {v : Value} (h : EV c A v) (hv : isVal A = true) : VV c A v:=by
 cases A <;> first | exact h | (simp [isVal] at hv)

end Go.AL

namespace Go.AL

theorem rW {c d : Cx} (h : c.Le d) {sz : Nat} : ∀ {l : List AV} {cs : List Value},LD c sz l cs -> LD d sz l cs
 | [],_,_=>trivial
 | x :: l,cs,hr=>by
   obtain ⟨a,e,h1,h2,h3,h4⟩:=hr
   exact ⟨a,e,h1,h2,eF h.im _ _ h3,rW h h4⟩

theorem AU {c d : Cx} (h : c.Le d) : ∀ {l : List (AV × AV)} {es : List MapEntry},Dp c l es -> Dp d l es
 | [],_,hr=>hr
 | (x,y) :: l,es,hr=>by
   obtain ⟨e,r,h1,h2,h3,h4⟩:=hr
   exact ⟨e,r,h1,oG h h2,oG h h3,AU h h4⟩

theorem nJ {c d : Cx} (h : c.Le d) {k : Nat} {o : HO} (hk : k < c.nx) (ht : d.tk k = c.tk k)
  (hb : ∀ b,aQ c (k,o) = some b -> d.w.heap[b]? = c.w.heap[b]? /\ ∀ x,d.Im b x -> c.Im b x) (ho : o.Ok c k) : o.Ok d k:=by
 cases o with
 | box A =>
   obtain ⟨cs,ty,h1,h2,h3⟩:=ho
   have:=hb (c.ρ k) rfl
   refine ⟨cs,ty,?_,oH h _ _ h2,?_⟩
   ·rw [h.ρ k hk,this.1,h1]
   ·rw [h.ρ k hk]; exact fun x hx=>h3 x (this.2 x hx)
 | arr sz cap l =>
   obtain ⟨cs,ty,h1,h2,h3,h4,h5,h6⟩:=ho
   have:=hb (c.ρ k) rfl
   refine ⟨cs,ty,?_,h2,h3,h4,rW h h5,?_⟩
   ·rw [h.ρ k hk,this.1,h1]
   ·rw [h.ρ k hk]; exact fun x hx=>h6 x (this.2 x hx)
 | tok sz top =>
   simp only [HO.Ok,ht] at ho ⊢
   by_cases he : (c.tk k).2 = top
   ·exact .inl he
   ·rcases ho with ho | ⟨b,cs,ty,h1,h2,h3,h4,h5,h6⟩
    ·exact .inl ho
    ·have:=hb b (by simp [aQ,he,h1])
     exact .inr ⟨b,cs,ty,h1,by rw [this.1,h2],h3,h4,h5,fun x hx hi=>h6 x hx (this.2 x hi)⟩
 | dV sh es =>
   obtain ⟨ents,clock,h1,h2,h3⟩:=ho
   have:=hb (c.ρ k) rfl
   refine ⟨ents,clock,?_,AU h h2,h3⟩
   rw [h.ρ k hk,this.1,h1]
 | iT sz l =>
   simp only [HO.Ok,ht] at ho ⊢
   rcases ho with ho | ⟨b,cs,ty,h1,h2,h3,h4,h5,h6,h7⟩
   ·exact .inl ho
   ·have:=hb b (by simp [aQ,h1])
    exact .inr ⟨b,cs,ty,h1,by rw [this.1,h2],h3,h4,h5,rW h h6,fun x hx=>h7 x (this.2 x hx)⟩
 | gone=>trivial

theorem YR {c : Cx} {k : Nat} {o : HO} (ho : o.Ok c k) {b : Nat} (hb : aQ c (k,o) = some b) : b < c.w.heap.size:=by
 have key : ∀ {x : Obj},c.w.heap[b]? = some x -> b < c.w.heap.size:=fun h=>(Array.getElem?_eq_some_iff.1 h).1
 cases o with
 | box A=>obtain ⟨cs,ty,h1,_⟩:=ho; simp [aQ] at hb; subst hb; exact key h1
 | arr sz cap l=>obtain ⟨cs,ty,h1,_⟩:=ho; simp [aQ] at hb; subst hb; exact key h1
 | tok sz top =>
   simp only [aQ] at hb
   split at hb
   ·simp at hb
   ·rcases ho with ho | ⟨b',cs,ty,h1,h2,_⟩
    ·contradiction
    ·simp [h1] at hb; subst hb; exact key h2
 | dV sh es=>obtain ⟨ents,clock,h1,_⟩:=ho; simp [aQ] at hb; subst hb; exact key h1
 | iT sz l =>
   rcases ho with ⟨h1,_⟩ | ⟨b',cs,ty,h1,h2,_⟩
   ·simp [aQ,h1] at hb
   ·simp [aQ,h1] at hb; subst hb; exact key h2
 | gone=>simp [aQ] at hb

theorem HR.vS {c : Cx} {H : Heap} (h : HR c H) {x : Nat × HO} (hx : x ∈ H) {b : Nat} (hb : aQ c x = some b) : b < c.w.heap.size :=
 YR (h.ok x hx) hb

theorem jS {c d : Cx} {x : Nat × HO} (hρ : d.ρ x.1 = c.ρ x.1) (ht : d.tk x.1 = c.tk x.1) : aQ d x = aQ c x:=by
 unfold aQ; rw [hρ,ht]

theorem jX {α : Type} {R : α -> α -> Prop} : ∀ {l : List α},l.Pairwise R -> ∀ {S : α -> α -> Prop},(∀ x ∈ l,∀ y ∈ l,R x y -> S x y) -> l.Pairwise S
 | [],_,_,_=>.nil
 | x :: l,h,S,hS=>by
   rw [List.pairwise_cons] at h ⊢
   exact ⟨fun y hy=>hS x (by simp) y (by simp [hy]) (h.1 y hy),jX h.2 fun a ha b hb=>hS a (by simp [ha]) b (by simp [hb])⟩

theorem Tr.keep {c d : Cx} {H : Heap} (hr : HR c H) (le : c.Le d) (hnx : d.nx = c.nx) (htp : d.tp = c.tp) (htk : d.tk = c.tk)
  (os : d.w.os = c.w.os) (tape : d.w.tape = c.w.tape) (output : d.w.output = c.w.output) (size : c.w.heap.size <= d.w.heap.size)
  (fr : ∀ b,b < c.w.heap.size -> d.w.heap[b]? = c.w.heap[b]?) (im : ∀ b o,d.Im b o -> c.Im b o \/ (c.w.heap.size <= b /\ b < d.w.heap.size)) : Tr c H d H:=by
 have hbk : ∀ x ∈ H,aQ d x = aQ c x:=fun x hx=>jS (le.ρ _ (by rw [hr.nx]; exact bH hr.ids x hx)) (by rw [htk])
 refine ⟨⟨hnx.trans hr.nx,htp.trans hr.tp,hr.ids,fun b o h=>?_,fun x hx=>?_,?_⟩,le,os,tape,output,size,fun b hb _=>fr b hb,fun y hy b hb=>.inr ⟨y,hy,by rw [<- hbk y hy]; exact hb⟩,fun b o h=>(im b o h).imp id (fun h=>.inl h.1)⟩
 ·rcases im b o h with h | h
  ·have:=hr.im b o h; omega
  ·exact h.2
 ·refine nJ le (by rw [hr.nx]; exact bH hr.ids x hx) (by rw [htk]) (fun b hb=>?_) (hr.ok x hx)
  have hlt:=hr.vS hx hb
  exact ⟨fr b hlt,fun o ho=>(im b o ho).resolve_right (by omega)⟩
 ·exact jX hr.apart fun x hx y hy h b hb=>by rw [hbk y hy]; rw [hbk x hx] at hb; exact h b hb

def Cx.alloc (c : Cx) (o : Obj) : Cx:={ c with w:=c.w.alloc o,Im:=fun b x=>c.Im b x \/ b = c.w.heap.size }

theorem fH (w : World) (o : Obj) {b : Nat} (h : b < w.heap.size) : (w.alloc o).heap[b]? = w.heap[b]?:=by
 show (w.heap.push o)[b]? = _
 rw [Array.getElem?_push,if_neg (by omega)]
theorem alloc_heap_new (w : World) (o : Obj) : (w.alloc o).heap[w.heap.size]? = some o:=by
 show (w.heap.push o)[_]? = _
 simp

theorem jc {w w' : World} {b o : Nat} (h : w'.heap[b]? = w.heap[b]?) : w'.cell? ⟨b,o,none⟩ = w.cell? ⟨b,o,none⟩:=by
 simp [World.cell?,h]

theorem Tr.alloc {c : Cx} {H : Heap} (hr : HR c H) (o : Obj) : Tr c H (c.alloc o) H:=by
 refine Tr.keep hr ⟨fun b x h=>⟨.inl h,?_⟩,Nat.le_refl _,fun _ _=>rfl,fun _ _ _ h=>.inl ⟨h,rfl⟩⟩ rfl rfl rfl rfl rfl rfl (by simp [Cx.alloc]) (fun b hb=>fH _ _ hb) (fun b x h=>?_)
 ·exact jc (fH _ _ (hr.im b x h))
 ·rcases h with h | h
  ·exact .inl h
  ·subst h; exact .inr ⟨Nat.le_refl _,by simp [Cx.alloc]⟩

theorem Tr.drew {c : Cx} {H : Heap} (hr : HR c H) : Tr c H { c with w:=c.w.drew } H :=
 Tr.keep hr ⟨fun _ _ h=>⟨h,rfl⟩,Nat.le_refl _,fun _ _=>rfl,fun _ _ _ h=>.inl ⟨h,rfl⟩⟩ rfl rfl rfl rfl rfl rfl (Nat.le_refl _) (fun _ _=>rfl) (fun _ _ h=>.inl h)

def Cx.push (c : Cx) (o : Obj) (H : Heap) : Cx :=
 { c with w:=c.w.alloc o,ρ:=fun k=>if k = c.nx then c.w.heap.size else c.ρ k,nx:=c.nx + 1,tp:=dG H }

theorem jV {H : Heap} {i k : Nat} {o : HO} (h : i ≠ k) : dG ((i,o) :: H) k = dG H k:=by
 unfold dG
 simp only [hget]
 cases hb : Nat.beq i k with
 | true=>exact absurd (Nat.eq_of_beq_eq_true hb) h
 | false=>rfl

theorem sJ {H : Heap} {i : Nat} {o : HO} : dG ((i,o) :: H) i = (match o with | .tok _ n=>some n | .iT _ l=>some l.length | _=>none):=by
 unfold dG
 simp only [hget,Nat.beq_refl]
 cases o <;> rfl

theorem J4 {c : Cx} {H : Heap} (hr : HR c H) (o : Obj) (ho : HO) : c.Le (c.push o ((nextId H,ho) :: H)):=by
 refine ⟨fun b x h=>⟨h,jc (fH _ _ (hr.im b x h))⟩,Nat.le_succ _,fun k hk=>?_,fun k n hk hn=>?_⟩
 ·simp only [Cx.push]; rw [if_neg (by omega)]
 ·refine .inl ⟨?_,rfl⟩
  have : nextId H ≠ k:=by rw [<- hr.nx]; omega
  simp only [Cx.push] at hn
  rw [jV this] at hn
  rw [hr.tp]; exact hn

theorem uVρ {c : Cx} {H : Heap} (hr : HR c H) (o : Obj) (G : Heap) : (c.push o G).ρ (nextId H) = c.w.heap.size:=by simp only [Cx.push]; rw [if_pos hr.nx.symm]

theorem Tr.push {c : Cx} {H : Heap} (hr : HR c H) (o : Obj) (ho : HO) (hblk : ∀ d : Cx,aQ d (nextId H,ho) = some (d.ρ (nextId H)))
  (hok : ho.Ok (c.push o ((nextId H,ho) :: H)) (nextId H)) : Tr c H (c.push o ((nextId H,ho) :: H)) ((nextId H,ho) :: H):=by
 have hlt : ∀ x ∈ H,x.1 < c.nx:=fun x hx=>by rw [hr.nx]; exact bH hr.ids x hx
 have le:=J4 hr o ho
 have hbk : ∀ x ∈ H,aQ (c.push o ((nextId H,ho) :: H)) x = aQ c x:=fun x hx=>jS (le.ρ _ (hlt x hx)) rfl
 have hρ : (c.push o ((nextId H,ho) :: H)).ρ (nextId H) = c.w.heap.size:=by simp only [Cx.push]; rw [if_pos hr.nx.symm]
 refine ⟨⟨?_,rfl,?_,?_,?_,?_⟩,le,rfl,rfl,rfl,by simp [Cx.push],fun b hb _=>fH _ _ hb,?_,fun b x h=>.inl h⟩
 ·simp only [Cx.push,nextId,hr.nx]
 ·exact ⟨fun x hx=>bH hr.ids x hx,hr.ids⟩
 ·intro b x h
  have:=hr.im b x h
  simp only [Cx.push,World.size_alloc]; omega
 ·intro x hx
  rcases List.mem_cons.1 hx with rfl | hx
  ·exact hok
  ·refine nJ le (hlt x hx) rfl (fun b hb=>?_) (hr.ok x hx)
   exact ⟨fH _ _ (hr.vS hx hb),fun y hy=>hy⟩
 ·rw [List.pairwise_cons]
  constructor
  ·intro y hy b hb hb'
   rw [hblk,hρ] at hb
   rw [hbk y hy] at hb'
   have:=hr.vS hy hb'
   simp at hb; omega
  ·exact jX hr.apart fun x hx y hy h b hb=>by rw [hbk y hy]; rw [hbk x hx] at hb; exact h b hb
 ·intro y hy b hb
  rcases List.mem_cons.1 hy with rfl | hy
  ·rw [hblk,hρ] at hb; simp at hb; exact .inl (by omega)
  ·rw [hbk y hy] at hb; exact .inr ⟨y,hy,hb⟩

end Go.AL

namespace Go.AL

theorem fO {R : Nat × HO -> Nat × HO -> Prop} : ∀ {H : Heap},au H -> (∀ x ∈ H,∀ y ∈ H,x.1 ≠ y.1 -> R x y) -> H.Pairwise R
 | [],_,_=>.nil
 | (i,o) :: H,hi,h=>by
   simp only [au] at hi
   rw [List.pairwise_cons]
   exact ⟨fun y hy=>h _ (by simp) y (by simp [hy]) (by have:=hi.1 y hy; simp; omega),fO hi.2 fun x hx y hy=>h x (by simp [hx]) y (by simp [hy])⟩

theorem zF {R : Nat × HO -> Nat × HO -> Prop} (hs : ∀ x y,R x y -> R y x) : ∀ {H : Heap},H.Pairwise R -> ∀ x ∈ H,∀ y ∈ H,x.1 ≠ y.1 -> R x y
 | [],_,x,hx,_,_,_=>by simp at hx
 | z :: H,h,x,hx,y,hy,hn=>by
   rw [List.pairwise_cons] at h
   rcases List.mem_cons.1 hx with ex | ex <;> rcases List.mem_cons.1 hy with ey | ey
   ·subst ex; subst ey; exact absurd rfl hn
   ·subst ex; exact h.1 y ey
   ·subst ey; exact hs _ _ (h.1 x ex)
   ·exact zF hs h.2 x ex y ey hn

theorem HR.apart' {c : Cx} {H : Heap} (h : HR c H) {x y : Nat × HO} (hx : x ∈ H) (hy : y ∈ H) (hn : x.1 ≠ y.1) {b : Nat} (hb : aQ c x = some b) : aQ c y ≠ some b :=
 zF (R:=fun x y=>∀ b,aQ c x = some b -> aQ c y ≠ some b) (fun _ _ h b hb hb'=>h b hb' hb) h.apart x hx y hy hn b hb

theorem iH : ∀ {H : Heap} {k : Nat} {o' : HO} {x : Nat × HO},au H -> x ∈ hset H k o' -> x = (k,o') \/ (x ∈ H /\ x.1 ≠ k)
 | [],_,_,_,_,h=>by simp [hset] at h
 | (i,o) :: H,k,o',x,hi,h=>by
   simp only [au] at hi
   simp only [hset] at h
   cases hb : Nat.beq i k with
   | true =>
     have e:=Nat.eq_of_beq_eq_true hb
     rw [hb] at h
     rcases List.mem_cons.1 h with h | h
     ·exact .inl (by rw [h,e])
     ·exact .inr ⟨List.mem_cons_of_mem _ h,by have:=hi.1 x h; omega⟩
   | false =>
     rw [hb] at h
     rcases List.mem_cons.1 h with h | h
     ·exact .inr ⟨by rw [h]; exact List.mem_cons_self,by rw [h]; exact gK hb⟩
     ·exact (iH hi.2 h).imp id fun h=>⟨List.mem_cons_of_mem _ h.1,h.2⟩

theorem zL : ∀ {H : Heap} {k : Nat} {o' : HO} {x : Nat × HO},x ∈ hset H k o' -> ∃ y ∈ H,y.1 = x.1
 | [],_,_,_,h=>by simp [hset] at h
 | (i,o) :: H,k,o',x,h=>by
   simp only [hset] at h
   cases hb : Nat.beq i k with
   | true =>
     rw [hb] at h
     rcases List.mem_cons.1 h with rfl | h
     ·exact ⟨(i,o),List.mem_cons_self,rfl⟩
     ·exact ⟨x,List.mem_cons_of_mem _ h,rfl⟩
   | false =>
     rw [hb] at h
     rcases List.mem_cons.1 h with rfl | h
     ·exact ⟨(i,o),List.mem_cons_self,rfl⟩
     ·obtain ⟨y,hy,he⟩:=zL h; exact ⟨y,by simp [hy],he⟩

theorem o8 : ∀ {H : Heap} {k : Nat} {o' : HO},au H -> au (hset H k o')
 | [],_,_,h=>h
 | (i,o) :: H,k,o',h=>by
   simp only [au] at h
   simp only [hset]
   cases Nat.beq i k with
   | true=>exact ⟨h.1,h.2⟩
   | false =>
     refine ⟨fun x hx=>?_,o8 h.2⟩
     obtain ⟨y,hy,he⟩:=zL hx
     have:=h.1 y hy; omega

theorem vw : ∀ {H : Heap} {k : Nat} {o' : HO},nextId (hset H k o') = nextId H
 | [],_,_=>rfl
 | (i,o) :: H,k,o'=>by
   simp only [hset]
   cases Nat.beq i k <;> rfl

theorem tq : ∀ {H : Heap} {k j : Nat} {o' : HO},j ≠ k -> hget (hset H k o') j = hget H j
 | [],_,_,_,_=>rfl
 | (i,o) :: H,k,j,o',h=>by
   simp only [hset]
   cases hb : Nat.beq i k with
   | true =>
     obtain rfl:=Nat.eq_of_beq_eq_true hb
     simp only [hget]
     cases hc : Nat.beq i j with
     | true=>exact absurd (Nat.eq_of_beq_eq_true hc).symm h
     | false=>rfl
   | false =>
     simp only [hget]
     cases Nat.beq i j with
     | true=>rfl
     | false=>exact tq h

theorem ku : ∀ {H : Heap} {k : Nat} {o o' : HO},hget H k = some o -> hget (hset H k o') k = some o'
 | [],_,_,_,h=>by simp [hget] at h
 | (i,x) :: H,k,o,o',h=>by
   simp only [hset]
   cases hb : Nat.beq i k with
   | true=>simp only [hget]; rw [hb]
   | false =>
     simp only [hget] at h ⊢
     rw [hb] at h ⊢
     exact ku h

theorem Tr.set {c d : Cx} {H : Heap} {k : Nat} {o o' : HO} (hr : HR c H) (hk : hget H k = some o) (le : c.Le d) (hnx : d.nx = c.nx) (htp : d.tp = dG (hset H k o'))
  (htk : ∀ j,j ≠ k -> d.tk j = c.tk j) (os : d.w.os = c.w.os) (tape : d.w.tape = c.w.tape) (output : d.w.output = c.w.output) (size : c.w.heap.size <= d.w.heap.size)
  (fr : ∀ b,b < c.w.heap.size -> aQ c (k,o) ≠ some b -> d.w.heap[b]? = c.w.heap[b]?)
  (im : ∀ b x,d.Im b x -> c.Im b x \/ (c.w.heap.size <= b /\ b < d.w.heap.size) \/ aQ c (k,o) = some b)
  (hblk : ∀ b,aQ d (k,o') = some b -> c.w.heap.size <= b \/ aQ c (k,o) = some b) (hok : o'.Ok d k) : Tr c H d (hset H k o'):=by
 have hkm:=gZ hk
 have hlt : ∀ x ∈ H,x.1 < c.nx:=fun x hx=>by rw [hr.nx]; exact bH hr.ids x hx
 have hbk : ∀ x ∈ H,x.1 ≠ k -> aQ d x = aQ c x:=fun x hx hn=>jS (le.ρ _ (hlt x hx)) (htk _ hn)
 refine ⟨⟨?_,htp,o8 hr.ids,?_,?_,?_⟩,le,os,tape,output,size,?_,?_,?_⟩
 ·rw [vw,hnx,hr.nx]
 ·intro b x h
  rcases im b x h with h | h | h
  ·have:=hr.im b x h; omega
  ·exact h.2
  ·have:=hr.vS hkm h; omega
 ·intro x hx
  rcases iH hr.ids hx with rfl | ⟨hx,hn⟩
  ·exact hok
  ·refine nJ le (hlt x hx) (htk _ hn) (fun b hb=>?_) (hr.ok x hx)
   have hlt':=hr.vS hx hb
   have hne : aQ c (k,o) ≠ some b:=fun h=>hr.apart' hkm hx (fun e=>hn e.symm) h hb
   refine ⟨fr b hlt' hne,fun y hy=>?_⟩
   rcases im b y hy with h | h | h
   ·exact h
   ·omega
   ·exact absurd h hne
 ·refine fO (o8 hr.ids) ?_
  intro x hx y hy hn b hb hb'
  rcases iH hr.ids hx with rfl | ⟨hx,hxn⟩ <;> rcases iH hr.ids hy with rfl | ⟨hy,hyn⟩
  ·exact hn rfl
  ·rw [hbk y hy hyn] at hb'
   rcases hblk b hb with h | h
   ·have:=hr.vS hy hb'; omega
   ·exact hr.apart' hkm hy (fun e=>hyn e.symm) h hb'
  ·rw [hbk x hx hxn] at hb
   rcases hblk b hb' with h | h
   ·have:=hr.vS hx hb; omega
   ·exact hr.apart' hkm hx (fun e=>hxn e.symm) h hb
  ·rw [hbk x hx hxn] at hb
   rw [hbk y hy hyn] at hb'
   exact hr.apart' hx hy hn hb hb'
 ·intro b hb hn
  exact fr b hb (hn _ hkm)
 ·intro y hy b hb
  rcases iH hr.ids hy with rfl | ⟨hy,hyn⟩
  ·exact (hblk b hb).imp id fun h=>⟨_,hkm,h⟩
  ·rw [hbk y hy hyn] at hb; exact .inr ⟨y,hy,hb⟩
 ·intro b x h
  rcases im b x h with h | h | h
  ·exact .inl h
  ·exact .inr (.inl h.1)
  ·exact .inr (.inr ⟨_,hkm,h⟩)

theorem ji {H : Heap} {k : Nat} {o o' : HO} (hk : hget H k = some o) (h1 : ∀ s n,o ≠ .tok s n) (h2 : ∀ s n,o' ≠ .tok s n)
  (h3 : ∀ s l,o ≠ .iT s l:=by intros; simp) (h4 : ∀ s l,o' ≠ .iT s l:=by intros; simp) : dG (hset H k o') = dG H:=by
 funext j
 unfold dG
 by_cases hj : j = k
 ·subst hj
  rw [ku hk,hk]
  cases o <;> cases o' <;> first | rfl | exact absurd rfl (h1 _ _) | exact absurd rfl (h2 _ _) | exact absurd rfl (h3 _ _) | exact absurd rfl (h4 _ _)
 ·rw [tq hj]

theorem Tr.write {c : Cx} {H : Heap} {k : Nat} {o o' : HO} {cur cs : Array Value} {ty : Nat} (hr : HR c H) (hk : hget H k = some o)
  (_hg : c.w.heap[c.ρ k]? = some (.cells cur ty)) (hb : ∀ d : Cx,aQ d (k,o) = some (d.ρ k)) (hb' : ∀ d : Cx,aQ d (k,o') = some (d.ρ k)) (him : ∀ x,¬ c.Im (c.ρ k) x)
  (h1 : ∀ s n,o ≠ .tok s n) (h2 : ∀ s n,o' ≠ .tok s n)
  (hok : o'.Ok { c with w:=c.w.setRow (c.ρ k) cs } k) : Tr c H { c with w:=c.w.setRow (c.ρ k) cs } (hset H k o'):=by
 have hother : ∀ b,b ≠ c.ρ k -> (c.w.setRow (c.ρ k) cs).heap[b]? = c.w.heap[b]?:=fun b hb=>setRow_other c.w _ b _ hb
 refine Tr.set hr hk ⟨fun b x h=>⟨h,?_⟩,Nat.le_refl _,fun _ _=>rfl,fun _ _ _ h=>.inl ⟨h,rfl⟩⟩ rfl ?_ (fun _ _=>rfl) rfl rfl rfl (by simp [World.setRow]) (fun b hb' hn=>hother b ?_) (fun b x h=>.inl h) (fun b h=>.inr ?_) hok
 ·exact jc (hother b (fun e=>him x (e ▸ h)))
 ·rw [ji hk h1 h2 (by rintro s l rfl; have:=hb { c with tk:=fun _=>(none,0) }; simp [aQ] at this) (by rintro s l rfl; have:=hb' { c with tk:=fun _=>(none,0) }; simp [aQ] at this)]; exact hr.tp
 ·intro e; exact hn (by rw [hb,e])
 ·rw [hb'] at h; rw [hb]; exact h

end Go.AL

namespace Go.AL

theorem Rt {c : Cx} {s : Nat} {cs : List Value} (h : VR c .aG cs) : Rd c.w c.Im (.sl s [] .no) cs:=by
 simp only [VR,Rd] at h ⊢
 exact ⟨by simp [maxL],.inl ⟨trivial,h⟩⟩

theorem sl_no {c : Cx} {s : Nat} {l : List AV} {t : Tk} {cs : List Value} (h : VR c (.sl s l t) cs) : Rd c.w c.Im (.sl s l .no) cs:=by
 cases t with
 | no=>simpa only [VR] using h
 | full=>simp only [VR] at h; exact h.1
 | own k=>simp only [VR] at h; exact h.2.1

theorem iE : ∀ {l m : List AV},dH l m -> l.length = m.length
 | [],[],_=>rfl
 | [],_ :: _,h=>by simp only [dH] at h
 | _ :: _,[],h=>by simp only [dH] at h
 | x :: l,y :: m,h=>by simp only [dH] at h; simp [iE h.2]

theorem WZ {A B : AV} (h : rE A B) : dK B = dK A:=by
 cases A with
 | ag l=>cases B <;> simp only [rE] at h <;> first | rfl | cases h
 | sl s l t=>cases B <;> first | rfl | (cases t <;> simp only [rE] at h <;> cases h)
 | _=>cases B <;> first | rfl | (simp only [rE] at h; cases h)

theorem Xa {A B : AV} (h : le0 A B) : dK B = dK A:=by
 cases A with
 | ag l=>cases B <;> simp only [le0] at h <;> first | rfl | cases h
 | sl s l t=>cases B <;> first | rfl | (cases t <;> simp only [le0] at h <;> cases h)
 | _=>cases B <;> first | rfl | (simp only [le0] at h; cases h)

theorem IX {A B : AV} {v : Value} (h : dK B = dK A) (hs : eP A v) : eP B v:=by
 unfold eP at *; rw [h]; exact hs

set_option maxHeartbeats 1600000 in
theorem dN {w : World} {Im : Nat -> Nat -> Prop} {A B : AV} {cs : List Value} (h1 : ∀ l,A ≠ .ag l) (h2 : ∀ t x,A ≠ .jm t x) (h3 : ∀ s l t,A ≠ .sl s l t) (h : rE A B) (hr : Rd w Im A cs) : Rd w Im B cs:=by
 cases A with
 | ag l=>exact absurd rfl (h1 l)
 | jm t x=>exact absurd rfl (h2 t x)
 | sl s l t=>exact absurd rfl (h3 s l t)
 | aG =>
   cases B with
   | sl s' l' t' =>
     cases t' with
     | no=>simp only [rE] at h; subst h; simp only [Rd] at hr ⊢; exact ⟨by simp [maxL],.inl ⟨trivial,hr⟩⟩
     | full=>simp only [rE] at h; cases h
     | own k=>simp only [rE] at h; cases h
   | aG=>exact hr
   | _=>simp only [rE] at h; cases h
 | tt =>
   cases B <;> simp only [rE] at h <;> first
    | exact hr
    | (subst h; exact hr)
    | (cases h; done)
    | (simp only [Rd] at hr ⊢; exact ⟨true,hr,by simpa using h⟩)
 | ff =>
   cases B <;> simp only [rE] at h <;> first
    | exact hr
    | (subst h; exact hr)
    | (cases h; done)
    | (simp only [Rd] at hr ⊢; exact ⟨false,hr,by simpa using h⟩)
 | bool x =>
   cases B <;> simp only [rE] at h <;> first
    | (subst h; exact hr)
    | (cases h; done)
    | (simp only [Rd] at hr ⊢; exact ⟨x,hr,h⟩)
 | dec p =>
   cases B with
   | bool b =>
     simp only [rE] at h
     simp only [Rd] at hr ⊢
     obtain ⟨b',h1,h2⟩:=hr
     rw [h1,Bool.eq_iff_iff.2 (h2.trans h)]
   | dec q =>
     simp only [rE] at h
     simp only [Rd] at hr ⊢
     obtain ⟨b',h1,h2⟩:=hr
     exact ⟨b',h1,h2.trans h⟩
   | tt =>
     simp only [rE] at h
     simp only [Rd] at hr ⊢
     obtain ⟨b',h1,h2⟩:=hr
     rw [h1,h2.2 h]
   | ff =>
     simp only [rE] at h
     simp only [Rd] at hr ⊢
     obtain ⟨b',h1,h2⟩:=hr
     cases b' with
     | true=>exact absurd (h2.1 rfl) h
     | false=>exact h1
   | _=>simp only [rE] at h; cases h
 | int k n =>
   cases B with
   | int k' n'=>simp only [rE] at h; obtain ⟨rfl,rfl⟩:=h; exact hr
   | _=>simp only [rE] at h; cases h
 | str k =>
   cases B with
   | str k'=>simp only [rE] at h; subst h; exact hr
   | _=>simp only [rE] at h; cases h
 | _=>cases B <;> simp only [rE] at h <;> first | exact hr | (cases h; exact hr) | (cases h; done)

mutual
theorem Fz {w : World} {Im : Nat -> Nat -> Prop} : ∀ (A B : AV) (cs : List Value),rE A B -> Rd w Im A cs -> Rd w Im B cs
 | .ag l,B,cs,h,hr=>by
   cases B with
   | ag m =>
     simp only [rE] at h
     simp only [Rd] at hr ⊢
     exact Nj l m cs h hr
   | _=>simp only [rE] at h; cases h
 | .jm t x,B,cs,h,hr=>by
   cases B with
   | jm t' y =>
     simp only [rE] at h
     simp only [Rd] at hr ⊢
     obtain ⟨rfl,h⟩:=h
     obtain ⟨v,h1,h2,h3⟩:=hr
     exact ⟨v,h1,IX (WZ h) h2,Fz x y _ h h3⟩
   | _=>simp only [rE] at h; cases h
 | .sl s l .full,B,cs,h,hr=>by simp only [Rd] at hr
 | .sl s l (.own k),B,cs,h,hr=>by simp only [Rd] at hr
 | .sl s l .no,B,cs,h,hr=>by
   cases B with
   | sl s' l' t' =>
     cases t' with
     | no =>
       simp only [rE] at h
       obtain ⟨rfl,h⟩:=h
       have hl:=iE h
       simp only [Rd] at hr ⊢
       rw [<- hl]
       refine ⟨hr.1,hr.2.imp ?_ ?_⟩
       ·rintro ⟨rfl,h2⟩
        exact ⟨List.eq_nil_of_length_eq_zero (by simpa using hl.symm),h2⟩
       ·rintro ⟨a,cap,h1,h2,h3,h4,h5⟩
        refine ⟨a,cap,h1,h2,h3,fun hne=>h4 fun e=>hne ?_,Nk l l' _ _ _ h h5⟩
        subst e; exact List.eq_nil_of_length_eq_zero (by simpa using hl.symm)
     | full=>simp only [rE] at h; cases h
     | own k=>simp only [rE] at h; cases h
   | _=>simp only [rE] at h; cases h
 | .bool _,_,_,h,hr=>dN (by simp) (by simp) (by simp) h hr
 | .tt,_,_,h,hr=>dN (by simp) (by simp) (by simp) h hr
 | .ff,_,_,h,hr=>dN (by simp) (by simp) (by simp) h hr
 | .dec _,_,_,h,hr=>dN (by simp) (by simp) (by simp) h hr
 | .int _ _,_,_,h,hr=>dN (by simp) (by simp) (by simp) h hr
 | .str _,_,_,h,hr=>dN (by simp) (by simp) (by simp) h hr
 | .eX,_,_,h,hr=>dN (by simp) (by simp) (by simp) h hr
 | .aG,_,_,h,hr=>dN (by simp) (by simp) (by simp) h hr
 | .ms _ _ _ _ _,_,_,h,hr=>dN (by simp) (by simp) (by simp) h hr
 | .eU _,_,_,h,hr=>dN (by simp) (by simp) (by simp) h hr
 | .ptr _ _ _,_,_,h,hr=>dN (by simp) (by simp) (by simp) h hr
 | .cp _,_,_,h,hr=>dN (by simp) (by simp) (by simp) h hr
 | .gI,_,_,h,hr=>dN (by simp) (by simp) (by simp) h hr
 | .fn _ _,_,_,h,hr=>dN (by simp) (by simp) (by simp) h hr
 | .aH,_,_,h,hr=>dN (by simp) (by simp) (by simp) h hr
 | .mp _,_,_,h,hr=>dN (by simp) (by simp) (by simp) h hr
 | .gs _ _,_,_,h,hr=>dN (by simp) (by simp) (by simp) h hr
 | .bm _ _,_,_,h,hr=>dN (by simp) (by simp) (by simp) h hr
 | .iQ,_,_,h,hr=>dN (by simp) (by simp) (by simp) h hr
 | .und,_,_,h,hr=>dN (by simp) (by simp) (by simp) h hr
theorem Nj {w : World} {Im : Nat -> Nat -> Prop} : ∀ (l m : List AV) (cs : List Value),dH l m -> lN w Im l cs -> lN w Im m cs
 | [],[],_,_,hr=>hr
 | [],_ :: _,_,h,_=>by simp only [dH] at h
 | _ :: _,[],_,h,_=>by simp only [dH] at h
 | x :: l,y :: m,cs,h,hr=>by
   simp only [dH] at h
   simp only [lN] at hr ⊢
   obtain ⟨a,d,h1,h2,h3⟩:=hr
   exact ⟨a,d,h1,Fz x y a h.1 h2,Nj l m d h.2 h3⟩
theorem Nk {w : World} {Im : Nat -> Nat -> Prop} : ∀ (l m : List AV) (sz b off : Nat),dH l m -> sD w Im sz b l off -> sD w Im sz b m off
 | [],[],_,_,_,_,hr=>hr
 | [],_ :: _,_,_,_,h,_=>by simp only [dH] at h
 | _ :: _,[],_,_,_,h,_=>by simp only [dH] at h
 | x :: l,y :: m,sz,b,off,h,hr=>by
   simp only [dH] at h
   simp only [sD] at hr ⊢
   obtain ⟨⟨a,h1,h2,h3⟩,h4⟩:=hr
   exact ⟨⟨a,h1,h2,Fz x y a h.1 h3⟩,Nk l m sz b _ h.2 h4⟩
end

theorem wu {c : Cx} {sz : Nat} : ∀ {l m : List AV} {cs : List Value},dH l m -> LD c sz l cs -> LD c sz m cs
 | [],[],_,_,h=>h
 | [],_ :: _,_,h,_=>by simp only [dH] at h
 | _ :: _,[],_,h,_=>by simp only [dH] at h
 | x :: l,y :: m,cs,h,hr=>by
   simp only [dH] at h
   obtain ⟨a,d,h1,h2,h3,h4⟩:=hr
   exact ⟨a,d,h1,h2,Fz x y _ h.1 h3,wu h.2 h4⟩

theorem KA {w : World} {Im : Nat -> Nat -> Prop} {s : Nat} {l m : List AV} {cs : List Value} (h : dH l m) (hr : Rd w Im (.sl s l .no) cs) : Rd w Im (.sl s m .no) cs :=
 Fz _ _ _ (by simp only [rE]; exact ⟨trivial,h⟩) hr

set_option maxHeartbeats 1600000 in
theorem dI {c : Cx} {A B : AV} {cs : List Value} (hA : dK A = false) (hI : ∀ t x,A ≠ .jm t x) (h : le0 A B) (hr : VR c A cs) : VR c B cs /\ dK B = false:=by
 cases A with
 | ag l=>cases hA
 | jm t x=>exact absurd rfl (hI t x)
 | sl s l t =>
   cases B with
   | sl s' l' t' =>
     cases t' with
     | no =>
       have h' : s = s' /\ dH l l':=by cases t <;> simpa only [le0] using h
       obtain ⟨e,h'⟩:=h'
       exact ⟨by simp only [VR]; exact e ▸ KA h' (sl_no hr),rfl⟩
     | full =>
       cases t with
       | full =>
         simp only [le0] at h
         obtain ⟨rfl,h⟩:=h
         simp only [VR] at hr ⊢
         exact ⟨⟨KA h hr.1,by rw [<- iE h]; exact hr.2⟩,rfl⟩
       | _=>simp only [le0] at h; cases h
     | own k' =>
       cases t with
       | own k =>
         simp only [le0] at h
         obtain ⟨rfl,h,rfl⟩:=h
         simp only [VR] at hr ⊢
         exact ⟨⟨hr.1,KA h hr.2.1,by rw [<- iE h]; exact hr.2.2⟩,rfl⟩
       | _=>simp only [le0] at h; cases h
   | _=>cases t <;> simp only [le0] at h <;> cases h
 | aG =>
   cases B with
   | sl s' l' t' =>
     cases t' with
     | no=>simp only [le0] at h; subst h; exact ⟨by simp only [VR]; exact Rt hr,rfl⟩
     | full =>
       simp only [le0] at h; subst h
       refine ⟨?_,rfl⟩
       simp only [VR]
       refine ⟨Rt hr,none,?_⟩
       simp only [VR,Rd] at hr
       simpa using hr
     | own k=>simp only [le0] at h; cases h
   | aG=>exact ⟨hr,rfl⟩
   | _=>simp only [le0] at h; cases h
 | tt =>
   cases B <;> simp only [le0] at h <;> first
    | exact ⟨hr,rfl⟩
    | (subst h; exact ⟨hr,rfl⟩)
    | (cases h; done)
    | (refine ⟨?_,rfl⟩; simp only [VR,Rd] at hr ⊢; exact ⟨true,hr,by simpa using h⟩)
 | ff =>
   cases B <;> simp only [le0] at h <;> first
    | exact ⟨hr,rfl⟩
    | (subst h; exact ⟨hr,rfl⟩)
    | (cases h; done)
    | (refine ⟨?_,rfl⟩; simp only [VR,Rd] at hr ⊢; exact ⟨false,hr,by simpa using h⟩)
 | bool x =>
   cases B <;> simp only [le0] at h <;> first
    | (subst h; exact ⟨hr,rfl⟩)
    | (cases h; done)
    | (refine ⟨?_,rfl⟩; simp only [VR,Rd] at hr ⊢; exact ⟨x,hr,h⟩)
 | dec p =>
   cases B with
   | bool b =>
     simp only [le0] at h
     simp only [VR,Rd] at hr ⊢
     obtain ⟨b',h1,h2⟩:=hr
     refine ⟨?_,rfl⟩
     rw [h1,Bool.eq_iff_iff.2 (h2.trans h)]
   | dec q =>
     simp only [le0] at h
     simp only [VR,Rd] at hr ⊢
     obtain ⟨b',h1,h2⟩:=hr
     exact ⟨⟨b',h1,h2.trans h⟩,rfl⟩
   | tt =>
     simp only [le0] at h
     simp only [VR,Rd] at hr ⊢
     obtain ⟨b',h1,h2⟩:=hr
     exact ⟨by rw [h1,h2.2 h],rfl⟩
   | ff =>
     simp only [le0] at h
     simp only [VR,Rd] at hr ⊢
     obtain ⟨b',h1,h2⟩:=hr
     refine ⟨?_,rfl⟩
     cases b' with
     | true=>exact absurd (h2.1 rfl) h
     | false=>exact h1
   | _=>simp only [le0] at h; cases h
 | int k n =>
   cases B with
   | int k' n'=>simp only [le0] at h; obtain ⟨rfl,rfl⟩:=h; exact ⟨hr,rfl⟩
   | _=>simp only [le0] at h; cases h
 | str k =>
   cases B with
   | str k'=>simp only [le0] at h; subst h; exact ⟨hr,rfl⟩
   | _=>simp only [le0] at h; cases h
 | _=>cases B <;> simp only [le0] at h <;> first | exact ⟨hr,rfl⟩ | (cases h; exact ⟨hr,rfl⟩) | (cases h; done)

mutual
theorem FB {c : Cx} : ∀ (A B : AV) (cs : List Value),le0 A B -> VR c A cs -> VR c B cs /\ dK B = dK A
 | .ag l,B,cs,h,hr=>by
   cases B with
   | ag m =>
     simp only [le0] at h
     simp only [VR] at hr ⊢
     exact ⟨RI l m cs h hr,rfl⟩
   | _=>simp only [le0] at h; cases h
 | .bool _,_,_,h,hr=>dI rfl (by simp) h hr
 | .tt,_,_,h,hr=>dI rfl (by simp) h hr
 | .ff,_,_,h,hr=>dI rfl (by simp) h hr
 | .dec _,_,_,h,hr=>dI rfl (by simp) h hr
 | .int _ _,_,_,h,hr=>dI rfl (by simp) h hr
 | .str _,_,_,h,hr=>dI rfl (by simp) h hr
 | .eX,_,_,h,hr=>dI rfl (by simp) h hr
 | .jm t x,B,cs,h,hr=>by
   cases B with
   | jm t' y =>
     simp only [le0] at h
     simp only [VR] at hr ⊢
     obtain ⟨rfl,h⟩:=h
     obtain ⟨v,h1,h2,h3⟩:=hr
     exact ⟨⟨v,h1,IX (Xa h) h2,(FB x y _ h h3).1⟩,rfl⟩
   | _=>simp only [le0] at h; cases h
 | .aG,_,_,h,hr=>dI rfl (by simp) h hr
 | .sl _ _ _,_,_,h,hr=>dI rfl (by simp) h hr
 | .ms _ _ _ _ _,_,_,h,hr=>dI rfl (by simp) h hr
 | .eU _,_,_,h,hr=>dI rfl (by simp) h hr
 | .ptr _ _ _,_,_,h,hr=>dI rfl (by simp) h hr
 | .cp _,_,_,h,hr=>dI rfl (by simp) h hr
 | .gI,_,_,h,hr=>dI rfl (by simp) h hr
 | .fn _ _,_,_,h,hr=>dI rfl (by simp) h hr
 | .aH,_,_,h,hr=>dI rfl (by simp) h hr
 | .mp _,_,_,h,hr=>dI rfl (by simp) h hr
 | .gs _ _,_,_,h,hr=>dI rfl (by simp) h hr
 | .bm _ _,_,_,h,hr=>dI rfl (by simp) h hr
 | .iQ,_,_,h,hr=>dI rfl (by simp) h hr
 | .und,_,_,h,hr=>dI rfl (by simp) h hr
theorem RI {c : Cx} : ∀ (l m : List AV) (cs : List Value),Iq l m -> lU c l cs -> lU c m cs
 | [],[],_,_,hr=>hr
 | [],_ :: _,_,h,_=>by simp only [Iq] at h
 | _ :: _,[],_,h,_=>by simp only [Iq] at h
 | x :: l,y :: m,cs,h,hr=>by
   simp only [Iq] at h
   simp only [lU] at hr ⊢
   obtain ⟨a,d,h1,h2,h3⟩:=hr
   exact ⟨a,d,h1,(FB x y a h.1 h2).1,RI l m d h.2 h3⟩
end

theorem BG {c : Cx} {A B : AV} {v : Value} (h : le0 A B) (hv : VV c A v) : VV c B v:=by
 obtain ⟨h1,h2⟩:=FB A B _ h hv.2
 exact ⟨⟨fun hb=>hv.1.1 (by rw [<- h2]; exact hb),fun hb=>hv.1.2 (by rw [<- h2]; exact hb)⟩,h1⟩

theorem W9 {c : Cx} : ∀ {l m : List AV} {vs : List Value},Iq l m -> VA c l vs -> VA c m vs
 | [],[],_,_,hr=>hr
 | [],_ :: _,_,h,_=>by simp only [Iq] at h
 | _ :: _,[],_,h,_=>by simp only [Iq] at h
 | x :: l,y :: m,vs,h,hr=>by
   simp only [Iq] at h
   simp only [VA] at hr ⊢
   obtain ⟨v,r,h1,h2,h3,h4⟩:=hr
   have:=BG h.1 ⟨h2,h3⟩
   exact ⟨v,r,h1,this.1,this.2,W9 h.2 h4⟩

theorem WY {c : Cx} {A B : AV} {v : Value} (h : le A B) (hv : EV c A v) : EV c B v:=by
 cases A with
 | eU l =>
   cases B with
   | und=>trivial
   | eU m =>
     obtain ⟨vs,h1,h2⟩:=hv
     exact ⟨vs,h1,W9 h h2⟩
   | _=>simp only [le,le0] at h; cases h
 | und =>
   cases B with
   | und=>trivial
   | _=>simp only [le,le0] at h; cases h
 | _ =>
   have hv : VV c _ v:=hv
   cases B with
   | und=>trivial
   | _=>exact bn (BG h hv)

def Cx.cut (c : Cx) (G : Heap) : Cx:={ c with nx:=nextId G,tp:=dG G }

mutual
theorem Hr {c : Cx} {G : Heap} (htp : ∀ k n,dG G k = some n -> c.tp k = some n) : ∀ (A : AV) (cs : List Value),dP (nextId G) A = true -> VR c A cs -> VR (c.cut G) A cs
 | .bool _,_,_,hr=>by simp only [VR] at hr ⊢; exact hr
 | .tt,_,_,hr=>by simp only [VR] at hr ⊢; exact hr
 | .ff,_,_,hr=>by simp only [VR] at hr ⊢; exact hr
 | .dec _,_,_,hr=>by simp only [VR] at hr ⊢; exact hr
 | .int _ _,_,_,hr=>by simp only [VR] at hr ⊢; exact hr
 | .str _,_,_,hr=>by simp only [VR] at hr ⊢; exact hr
 | .eX,_,_,hr=>by simp only [VR] at hr ⊢; exact hr
 | .jm t x,cs,hb,hr=>by
   simp only [VR] at hr ⊢
   obtain ⟨v,h1,h2,h3⟩:=hr
   exact ⟨v,h1,h2,Hr htp x _ (by simpa only [dP] using hb) h3⟩
 | .aG,_,_,hr=>by simp only [VR] at hr ⊢; exact hr
 | .sl _ _ .no,_,_,hr=>by simp only [VR] at hr ⊢; exact hr
 | .sl _ _ .full,_,_,hr=>by simp only [VR] at hr ⊢; exact hr
 | .sl sz l (.own k),cs,hb,hr=>by
   simp only [VR] at hr ⊢
   obtain ⟨h1,h2,h3⟩:=hr
   simp only [dP] at hb
   exact ⟨Nat.le_of_ble_eq_true hb,h2,fun n hn=>h3 n (htp k n hn)⟩
 | .ms k _ _ _ _,_,hb,hr=>by
   simp only [VR] at hr ⊢
   simp only [dP] at hb
   exact ⟨Nat.le_of_ble_eq_true hb,hr.2⟩
 | .ag l,cs,hb,hr=>by
   simp only [VR] at hr ⊢
   exact Tc htp l cs (by simpa only [dP] using hb) hr
 | .eU _,_,_,hr=>by simp only [VR] at hr ⊢; exact hr
 | .ptr k _ _,_,hb,hr=>by
   simp only [VR] at hr ⊢
   simp only [dP] at hb
   exact ⟨Nat.le_of_ble_eq_true hb,hr.2⟩
 | .cp x,cs,_,hr=>by simp only [VR] at hr ⊢; exact hr
 | .gI,_,_,hr=>by simp only [VR] at hr ⊢; exact hr
 | .fn f cap,cs,hb,hr=>by
   simp only [VR] at hr ⊢
   obtain ⟨vs,h1,h2⟩:=hr
   exact ⟨vs,h1,QK htp cap vs (by simpa only [dP] using hb) h2⟩
 | .aH,_,_,hr=>by simp only [VR] at hr ⊢; exact hr
 | .mp k,_,hb,hr=>by
   simp only [VR] at hr ⊢
   simp only [dP] at hb
   exact ⟨Nat.le_of_ble_eq_true hb,hr.2⟩
 | .bm f k,_,hb,hr=>by
   simp only [VR] at hr ⊢
   simp only [dP] at hb
   exact ⟨Nat.le_of_ble_eq_true hb,hr.2⟩
 | .gs k len,_,hb,hr=>by
   simp only [VR] at hr ⊢
   simp only [dP] at hb
   exact ⟨Nat.le_of_ble_eq_true hb,hr.2.1,fun n hn=>hr.2.2 n (htp k n hn)⟩
 | .iQ,_,_,hr=>by simp only [VR] at hr ⊢; exact hr
 | .und,_,_,hr=>by simp only [VR] at hr ⊢; exact hr
theorem Tc {c : Cx} {G : Heap} (htp : ∀ k n,dG G k = some n -> c.tp k = some n) : ∀ (l : List AV) (cs : List Value),iK (nextId G) l = true -> lU c l cs -> lU (c.cut G) l cs
 | [],_,_,hr=>by simpa only [lU] using hr
 | x :: l,cs,hb,hr=>by
   simp only [lU] at hr ⊢
   simp only [iK] at hb
   obtain ⟨a,e,h1,h2,h3⟩:=hr
   cases hx : dP (nextId G) x with
   | false=>rw [hx] at hb; cases hb
   | true=>rw [hx] at hb; exact ⟨a,e,h1,Hr htp x _ hx h2,Tc htp l _ hb h3⟩
theorem QK {c : Cx} {G : Heap} (htp : ∀ k n,dG G k = some n -> c.tp k = some n) : ∀ (l : List AV) (vs : List Value),iK (nextId G) l = true -> VA c l vs -> VA (c.cut G) l vs
 | [],_,_,hr=>by simpa only [VA] using hr
 | x :: l,vs,hb,hr=>by
   simp only [VA] at hr ⊢
   simp only [iK] at hb
   obtain ⟨v,r,h1,h2,h3,h4⟩:=hr
   cases hx : dP (nextId G) x with
   | false=>rw [hx] at hb; cases hb
   | true=>rw [hx] at hb; exact ⟨v,r,h1,h2,Hr htp x _ hx h3,QK htp l _ hb h4⟩
end

theorem Ho {c : Cx} {G : Heap} (htp : ∀ k n,dG G k = some n -> c.tp k = some n) {A : AV} {v : Value} (hb : dP (nextId G) A = true) (h : VV c A v) : VV (c.cut G) A v:=⟨h.1,Hr htp _ _ hb h.2⟩

theorem Ie {c : Cx} {G : Heap} (htp : ∀ k n,dG G k = some n -> c.tp k = some n) {A : AV} {v : Value} (hb : dP (nextId G) A = true) (h : EV c A v) : EV (c.cut G) A v:=by
 cases A <;> first
  | exact Ho htp hb h
  | trivial
  | (obtain ⟨vs,h1,h2⟩:=h; exact ⟨vs,h1,QK htp _ _ (by simpa only [dP] using hb) h2⟩)

theorem SY {c : Cx} {G : Heap} (htp : ∀ k n,dG G k = some n -> c.tp k = some n) : ∀ {l : List (AV × AV)} {es : List MapEntry},oC (nextId G) l = true -> Dp c l es -> Dp (c.cut G) l es
 | [],_,_,hr=>hr
 | (x,y) :: l,es,hb,hr=>by
   obtain ⟨e,r,h1,h2,h3,h4⟩:=hr
   simp only [oC] at hb
   cases hx : dP (nextId G) x with
   | false=>rw [hx] at hb; cases hb
   | true =>
     cases hy : dP (nextId G) y with
     | false=>rw [hx,hy] at hb; cases hb
     | true=>rw [hx,hy] at hb; exact ⟨e,r,h1,Ho htp hx h2,Ho htp hy h3,SY htp hb h4⟩

theorem Eb {H : Heap} {n : Nat} : ∀ {G : Heap},WkH H n G -> ∀ k o,(k,o) ∈ G -> ∃ o',hget H k = some o' /\ O4 o' o /\ (match o with | .dV _ es=>oC n es = true | o=>GN n o = true)
 | [],_,_,_,hm=>by simp at hm
 | (i,x) :: G,h,k,o,hm=>by
   simp only [WkH] at h
   rcases List.mem_cons.1 hm with hm | hm
   ·simp at hm
    obtain ⟨rfl,rfl⟩:=hm
    obtain ⟨o',h1,h2⟩:=dD.1 h.1
    exact ⟨o',h1,h2⟩
   ·exact Eb h.2 k o hm

theorem KC {o : HO} {s n : Nat} (h : O4 o (.tok s n)) : o = .tok s n:=by
 cases o <;> simp only [O4] at h
 obtain ⟨rfl,rfl⟩:=h; rfl

theorem Nl {o : HO} {s : Nat} {l : List AV} (h : O4 o (.iT s l)) : ∃ l',o = .iT s l' /\ dH l' l:=by
 cases o <;> simp only [O4] at h
 obtain ⟨rfl,h⟩:=h; exact ⟨_,rfl,h⟩

theorem QO.tp {H G : Heap} (h : QO H G) : ∀ k n,dG G k = some n -> dG H k = some n:=by
 intro k n hn
 unfold dG at hn ⊢
 cases hg : hget G k with
 | none=>simp [hg] at hn
 | some o =>
   rw [hg] at hn
   obtain ⟨o',h1,h2,_⟩:=Eb h.get k _ (gZ hg)
   cases o <;> simp at hn
   ·subst hn
    obtain rfl:=KC h2
    rw [h1]
   ·subst hn
    obtain ⟨l',rfl,h3⟩:=Nl h2
    rw [h1]; simp [iE h3]

theorem RH {c d : Cx} {k : Nat} {o' o : HO} (hρ : d.ρ = c.ρ) (ht : d.tk = c.tk) (h : O4 o' o) {b : Nat} (hb : aQ d (k,o) = some b) : aQ c (k,o') = some b:=by
 cases o with
 | gone=>simp [aQ] at hb
 | tok s n =>
   obtain rfl:=KC h
   simp only [aQ,ht] at hb ⊢; exact hb
 | _=>cases o' <;> simp only [O4] at h <;> simp only [aQ,hρ,ht] at hb ⊢ <;> exact hb

theorem KD {c : Cx} : ∀ {l m : List (AV × AV)} {es : List MapEntry},Vo l m -> Dp c l es -> Dp c m es
 | [],[],_,_,h=>h
 | [],_ :: _,_,h,_=>by simp only [Vo] at h
 | _ :: _,[],_,h,_=>by simp only [Vo] at h
 | (x,v) :: l,(y,u) :: m,es,h,hr=>by
   simp only [Vo] at h
   obtain ⟨rfl,h1,h2⟩:=h
   obtain ⟨e,r,g1,g2,g3,g4⟩:=hr
   exact ⟨e,r,g1,g2,BG h1 g3,KD h2 g4⟩

theorem KE {sh : AV} : ∀ {l m : List (AV × AV)},Vo l m -> OW sh l -> OW sh m
 | [],[],_,h=>h
 | [],_ :: _,h,_=>by simp only [Vo] at h
 | _ :: _,[],h,_=>by simp only [Vo] at h
 | (x,v) :: l,(y,u) :: m,h,hr=>by
   simp only [Vo] at h
   obtain ⟨rfl,h1,h2⟩:=h
   exact ⟨hr.1,KE h2 hr.2⟩

theorem Tr.cut {c0 c : Cx} {H0 H G : Heap} (htr : Tr c0 H0 c H) (hw : QO H G) (hn : c0.nx <= nextId G) : Tr c0 H0 (c.cut G) G:=by
 have htp : ∀ k n,dG G k = some n -> c.tp k = some n:=fun k n h=>by rw [htr.hr.tp]; exact hw.tp k n h
 have hmem : ∀ x ∈ G,∃ o',(x.1,o') ∈ H /\ O4 o' x.2 /\ ∀ b,aQ (c.cut G) x = some b -> aQ c (x.1,o') = some b:=by
  rintro ⟨k,o⟩ hx
  obtain ⟨o',h1,h2,_⟩:=Eb hw.get k o hx
  exact ⟨o',gZ h1,h2,fun b hb=>RH (d:=c.cut G) rfl rfl h2 hb⟩
 refine ⟨⟨rfl,rfl,hw.ids,htr.hr.im,?_,?_⟩,⟨htr.le.im,hn,htr.le.ρ,fun k n hk h=>htr.le.tk k n hk (htp k n h)⟩,htr.os,htr.tape,htr.output,htr.size,htr.fr,?_,htr.ZI⟩
 ·rintro ⟨k,o⟩ hx
  obtain ⟨o',h1,h2,h3⟩:=Eb hw.get k o hx
  have hok:=htr.hr.sW h1
  by_cases Ns : o = .gone
  ·subst Ns; trivial
  cases o' <;> cases o <;> simp only [O4] at h2 <;> first | exact absurd rfl Ns | skip
  ·obtain ⟨cs,ty,g1,g2,g3⟩:=hok
   simp only [GN] at h3
   exact ⟨cs,ty,g1,Hr htp _ _ h3 (FB _ _ _ h2 g2).1,g3⟩
  ·obtain ⟨rfl,rfl,h2⟩:=h2
   obtain ⟨cs,ty,g1,g2,g3,g4,g5,g6⟩:=hok
   have hv : ∀ {sz : Nat} {l : List AV} {cs : List Value},LD c sz l cs -> LD (c.cut G) sz l cs:=by
    intro sz l
    induction l with
    | nil=>intros; trivial
    | cons x l ih=>rintro cs ⟨a,d,h1,h2,h3,h4⟩; exact ⟨a,d,h1,h2,h3,ih h4⟩
   exact ⟨cs,ty,g1,g2,by rw [<- iE h2]; exact g3,g4,hv (wu h2 g5),g6⟩
  ·obtain ⟨rfl,rfl⟩:=h2
   exact hok
  ·obtain ⟨rfl,h2⟩:=h2
   obtain ⟨ents,clock,g1,g2,g3,g4⟩:=hok
   exact ⟨ents,clock,g1,SY htp h3 (KD h2 g2),KE h2 g3,g4⟩
  ·obtain ⟨rfl,h2⟩:=h2
   have hv : ∀ {sz : Nat} {l : List AV} {cs : List Value},LD c sz l cs -> LD (c.cut G) sz l cs:=by
    intro sz l
    induction l with
    | nil=>intros; trivial
    | cons x l ih=>rintro cs ⟨a,d,h1,h2,h3,h4⟩; exact ⟨a,d,h1,h2,h3,ih h4⟩
   have hl:=iE h2
   rcases hok with ⟨g1,g2,g3⟩ | ⟨b,cs,ty,g1,g2,g3,g4,g5,g6,g7⟩
   ·subst g3; exact .inl ⟨g1,g2,List.length_eq_zero_iff.1 (by rw [<- hl]; rfl)⟩
   ·exact .inr ⟨b,cs,ty,g1,g2,g3,by rw [<- hl]; exact g4,g5,hv (wu h2 g6),g7⟩
 ·refine fO hw.ids fun x hx y hy hne b hb hb'=>?_
  obtain ⟨o1,h1,_,e1⟩:=hmem x hx
  obtain ⟨o2,h2,_,e2⟩:=hmem y hy
  exact htr.hr.apart' h1 h2 hne (e1 b hb) (e2 b hb')
 ·intro y hy b hb
  obtain ⟨o1,h1,_,e1⟩:=hmem y hy
  exact htr.own _ h1 b (e1 b hb)

theorem SL {e : Env} {n : Nat} : ∀ {E : Env},SN e n E -> ∀ t A,(t,A) ∈ E -> ∃ A',dR e t = some A' /\ le A' A /\ dP n A = true
 | [],_,_,_,hm=>by simp at hm
 | (i,x) :: E,h,t,A,hm=>by
   simp only [SN] at h
   rcases List.mem_cons.1 hm with hm | hm
   ·simp at hm
    obtain ⟨rfl,rfl⟩:=hm
    obtain ⟨A',h1,h2⟩:=gU.1 h.1
    exact ⟨A',h1,h2⟩
   ·exact SL h.2 t A hm

theorem NW : ∀ {e : Env} {t : Nat} {A : AV},dR e t = some A -> (t,A) ∈ e
 | [],_,_,h=>by simp [dR] at h
 | (i,x) :: e,t,A,h=>by
   simp only [dR] at h
   cases hb : Nat.beq i t with
   | true =>
     rw [hb] at h
     obtain rfl:=Nat.eq_of_beq_eq_true hb
     simp at h; subst h; simp
   | false=>rw [hb] at h; exact List.mem_cons_of_mem _ (NW h)

theorem WkE_all {c : Cx} {e E : Env} {G H : Heap} {a : Act} (he : gG c e a) (hr : HR c H) (hw : QO H G) (h : SN e (nextId G) E) : ∀ t A,(t,A) ∈ E -> EV (c.cut G) A (a.tmps.getD t undef):=by
 intro t A hm
 obtain ⟨A',h1,h2,h3⟩:=SL h t A hm
 exact Ie (fun k n hn=>by rw [hr.tp]; exact hw.tp k n hn) h3 (WY h2 (he t A' h1))

mutual
theorem zM : ∀ (A : AV),rE A A
 | .bool _ | .tt | .ff | .dec _ | .str _ | .eX | .aG | .ms _ _ _ _ _ | .eU _ | .ptr _ _ _ | .cp _ | .gI | .fn _ _ | .aH | .mp _ | .gs _ _ | .bm _ _ | .iQ | .und=>by simp [rE]
 | .jm t x=>⟨rfl,zM x⟩
 | .int _ _=>⟨rfl,rfl⟩
 | .sl _ l .no=>⟨rfl,aA l⟩
 | .sl _ l .full=>by simp [rE]
 | .sl _ l (.own _)=>by simp [rE]
 | .ag l=>aA l
theorem aA : ∀ (l : List AV),dH l l
 | []=>trivial
 | x :: l=>⟨zM x,aA l⟩
end

mutual
theorem fG : ∀ (A : AV),le0 A A
 | .bool _ | .tt | .ff | .dec _ | .str _ | .eX | .aG | .ms _ _ _ _ _ | .eU _ | .ptr _ _ _ | .cp _ | .gI | .fn _ _ | .aH | .mp _ | .gs _ _ | .bm _ _ | .iQ | .und=>by simp [le0]
 | .jm t x=>⟨rfl,fG x⟩
 | .int _ _=>⟨rfl,rfl⟩
 | .sl _ l .no=>⟨rfl,aA l⟩
 | .sl _ l .full=>⟨rfl,aA l⟩
 | .sl _ l (.own _)=>⟨rfl,aA l,rfl⟩
 | .ag l=>ak l
theorem ak : ∀ (l : List AV),Iq l l
 | []=>trivial
 | x :: l=>⟨fG x,ak l⟩
end

theorem le_refl (A : AV) : le A A:=by
 cases A <;> first | exact fG _ | exact ak _ | trivial

mutual
theorem vZ {c : Cx} : ∀ (A : AV) (cs : List Value),VR c A cs -> dP c.nx A = true
 | .bool _,_,_ | .tt,_,_ | .ff,_,_ | .dec _,_,_ | .int _ _,_,_ | .str _,_,_ | .eX,_,_ | .aG,_,_ | .cp _,_,_ | .gI,_,_ | .aH,_,_ | .iQ,_,_ | .und,_,_
 | .sl _ _ .no,_,_ | .sl _ _ .full,_,_=>rfl
 | .eU _,_,h=>by simp only [VR,Rd] at h
 | .jm t x,_,h=>by simp only [VR] at h; obtain ⟨v,_,_,h3⟩:=h; exact vZ x _ h3
 | .sl _ _ (.own k),_,h=>by simp only [VR] at h; simpa [dP] using h.1
 | .ms _ _ _ _ _,_,h=>by simp only [VR] at h; simpa [dP] using h.1
 | .ptr _ _ _,_,h=>by simp only [VR] at h; simpa [dP] using h.1
 | .mp _,_,h=>by simp only [VR] at h; simpa [dP] using h.1
 | .gs _ _,_,h=>by simp only [VR] at h; simpa [dP] using h.1
 | .bm _ _,_,h=>by simp only [VR] at h; simpa [dP] using h.1
 | .ag l,_,h=>by simp only [VR] at h; exact Td l _ h
 | .fn _ cap,_,h=>by simp only [VR] at h; obtain ⟨vs,_,h2⟩:=h; exact YH cap _ h2
theorem Td {c : Cx} : ∀ (l : List AV) (cs : List Value),lU c l cs -> iK c.nx l = true
 | [],_,_=>rfl
 | x :: l,_,h=>by
   simp only [lU] at h
   obtain ⟨a,d,_,h2,h3⟩:=h
   simp only [iK,vZ x _ h2,Td l _ h3]
theorem YH {c : Cx} : ∀ (l : List AV) (vs : List Value),VA c l vs -> iK c.nx l = true
 | [],_,_=>rfl
 | x :: l,_,h=>by
   simp only [VA] at h
   obtain ⟨v,r,_,_,h2,h3⟩:=h
   simp only [iK,vZ x _ h2,YH l _ h3]
end

theorem Ef {c : Cx} : ∀ {l : List (AV × AV)} {es : List MapEntry},Dp c l es -> oC c.nx l = true
 | [],_,_=>rfl
 | (x,y) :: l,_,h=>by
   obtain ⟨e,r,_,h2,h3,h4⟩:=h
   simp only [oC,vZ x _ h2.2,vZ y _ h3.2,Ef h4]

theorem Lu {H : Heap} {n : Nat} : ∀ {G : Heap},(∀ k o,(k,o) ∈ G -> ∃ o',hget H k = some o' /\ O4 o' o /\ (match o with | .dV _ es=>oC n es = true | o=>GN n o = true)) -> WkH H n G
 | [],_=>trivial
 | (i,x) :: G,h=>⟨dD.2 (h i x (by simp)),Lu fun k o hm=>h k o (by simp [hm])⟩

theorem aJ : ∀ (l : List (AV × AV)),Vo l l
 | []=>trivial
 | (_,y) :: l=>⟨rfl,fG y,aJ l⟩

theorem zO (o : HO) : O4 o o:=by
 cases o with
 | box A=>exact fG A
 | arr=>exact ⟨rfl,rfl,aA _⟩
 | tok=>exact ⟨rfl,rfl⟩
 | dV=>exact ⟨rfl,aJ _⟩
 | iT=>exact ⟨rfl,aA _⟩
 | gone=>trivial

theorem HWk.to0 {c : Cx} {H G : Heap} (h : HWk H G) (hr : HR c H) : QO H G:=by
 cases h with
 | mk h1 h2=>exact ⟨h1,h2⟩
 | refl h =>
   subst h
   refine ⟨Lu fun k o hm=>?_,hr.ids⟩
   have hok:=hr.ok _ hm
   refine ⟨o,mW hr.ids hm,zO o,?_⟩
   rw [<- hr.nx]
   cases o with
   | box A=>obtain ⟨cs,ty,_,h2,_⟩:=hok; exact vZ _ _ h2
   | dV sh es=>obtain ⟨ents,clock,_,h2,_⟩:=hok; exact Ef h2
   | _=>rfl

end Go.AL
