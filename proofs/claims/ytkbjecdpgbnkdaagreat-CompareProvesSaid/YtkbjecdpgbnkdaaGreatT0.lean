/-
  A logic for calls of Go functions: values, weakening. Nothing is assumed.
-/
import Derived.Calls
import Derived.Laws.Sem
import Derived.Laws.World
import Derived.Defers
import Derived.Maps.Keyed
import Derived.Laws.AppendOwn
import Derived.Laws.MakeOwn

namespace Go.AL

def maxL : Nat:=9223372036854775807

inductive Tk where
 | no | full | own (k : Nat)
 deriving Inhabited

inductive AV where
 | bool (b : Bool) | tt | ff | dec (p : Prop)
 | int (k : IntKind) (n : Int)
 | str (s : List UInt8)
 | dN | jm (t : Nat) (x : AV)
 | aG | sl (sz : Nat) (l : List AV) (tok : Tk)
 | ms (k off len cap sz : Nat)
 | ag (l : List AV) | dV (l : List AV)
 | ptr (k : Nat) (path : List Nat) (off : Nat) | cp (x : AV) | gK
 | fn (f : Nat) (cap : List AV) | aH
 | mp (k : Nat) | iQ
 | gs (k len : Nat)
 | bm (f k : Nat)
 | und
 deriving Inhabited

def dH : AV -> Bool
 | .ag _=>true
 | _=>false

mutual
def flat : AV -> Nat
 | .ag l=>iJ l
 | _=>1
def iJ : List AV -> Nat
 | []=>0
 | x :: l=>flat x + iJ l
end

def jI (w : World) (Im : Nat -> Nat -> Prop) (b off : Nat) (cs : List Value) : Prop :=
 ∀ j v,cs[j]? = some v -> w.cell? ⟨b,off + j,none⟩ = some v /\ Im b (off + j)

def uX (k : IntKind) (n : Int) : Prop:=k.min <= n /\ n <= k.max

def eH (A : AV) (v : Value) : Prop :=
 (dH A = true -> ∃ cs,v = .agg cs) /\ (dH A = false -> v.cells = #[v])

mutual
def Rd (w : World) (Im : Nat -> Nat -> Prop) : AV -> List Value -> Prop
 | .bool b,cs=>cs = [.bool b]
 | .tt,cs=>cs = [.bool true]
 | .ff,cs=>cs = [.bool false]
 | .dec p,cs=>∃ b,cs = [.bool b] /\ (b = true ↔ p)
 | .int k n,cs=>cs = [.int k n] /\ uX k n
 | .str s,cs=>cs = [.string ⟨s.toArray⟩] /\ s.length <= maxL
 | .dN,cs=>cs = [.nilIface]
 | .jm t x,cs=>∃ v,cs = [.iface t v] /\ eH x v /\ Rd w Im x v.cells.toList
 | .aG,cs=>cs = [.slice none 0 0]
 | .sl sz l .no,cs=>l.length <= maxL /\ ((l = [] /\ cs = [.slice none 0 0]) \/
   ∃ a cap,cs = [.slice (some a) l.length cap] /\ l.length <= cap /\ cap <= maxL /\ (l ≠ [] -> a.spot = none) /\ sN w Im sz a.block l a.off)
 | .cp x,cs=>∃ a ds,cs = [.pointer (some a)] /\ a.spot = none /\ jI w Im a.block a.off ds /\ Rd w Im x ds
 | .gK,cs=>cs = [.pointer none]
 | .fn f cap,cs=>∃ vs,cs = [.func (.func f) #[] vs.toArray] /\ VD w Im cap vs
 | .aH,cs=>cs = [.nilFunc]
 | .iQ,cs=>cs = [.map none]
 | .ag l,cs=>lN w Im l cs
 | _,_=>False
def lN (w : World) (Im : Nat -> Nat -> Prop) : List AV -> List Value -> Prop
 | [],cs=>cs = []
 | x :: l,cs=>∃ c d,cs = c ++ d /\ Rd w Im x c /\ lN w Im l d
def sN (w : World) (Im : Nat -> Nat -> Prop) (sz b : Nat) : List AV -> Nat -> Prop
 | [],_=>True
 | x :: l,off=>(∃ cs,cs.length = sz /\ jI w Im b off cs /\ Rd w Im x cs) /\ sN w Im sz b l (off + sz)
def VD (w : World) (Im : Nat -> Nat -> Prop) : List AV -> List Value -> Prop
 | [],vs=>vs = []
 | x :: l,vs=>∃ v r,vs = v :: r /\ eH x v /\ Rd w Im x v.cells.toList /\ VD w Im l r
end

structure Cx where
 w : World
 Im : Nat -> Nat -> Prop
 ρ : Nat -> Nat
 nx : Nat
 tk : Nat -> Option Addr × Nat
 tp : Nat -> Option Nat

mutual
def VR (c : Cx) : AV -> List Value -> Prop
 | .ptr k _ off,cs=>k < c.nx /\ cs = [.pointer (some ⟨c.ρ k,off,none⟩)]
 | .ms k off len cap sz,cs=>k < c.nx /\ cs = [.slice (some ⟨c.ρ k,off * sz,none⟩) len cap] /\ len <= cap /\ cap <= maxL
 | .sl sz l .full,cs=>Rd c.w c.Im (.sl sz l .no) cs /\ ∃ a,cs = [.slice a l.length l.length]
 | .sl sz l (.own k),cs=>k < c.nx /\ Rd c.w c.Im (.sl sz l .no) cs /\
   ∀ n,c.tp k = some n -> l.length <= n /\ (l.length = n -> cs = [.slice (c.tk k).1 n (c.tk k).2])
 | .mp k,cs=>k < c.nx /\ cs = [.map (some (c.ρ k))]
 | .bm f k,cs=>k < c.nx /\ cs = [.func (.func f) #[.pointer (some ⟨c.ρ k,0,none⟩)] #[]]
 | .gs k len,cs=>k < c.nx /\ (∃ a n m,cs = [.slice a n m]) /\ ∀ n,c.tp k = some n -> len <= n /\ (len = n -> cs = [.slice (c.tk k).1 n (c.tk k).2])
 | .fn f cap,cs=>∃ vs,cs = [.func (.func f) #[] vs.toArray] /\ VA c cap vs
 | .ag l,cs=>lT c l cs
 | .jm t x,cs=>∃ v,cs = [.iface t v] /\ eH x v /\ VR c x v.cells.toList
 | A,cs=>Rd c.w c.Im A cs
def lT (c : Cx) : List AV -> List Value -> Prop
 | [],cs=>cs = []
 | x :: l,cs=>∃ a d,cs = a ++ d /\ VR c x a /\ lT c l d
def VA (c : Cx) : List AV -> List Value -> Prop
 | [],vs=>vs = []
 | x :: l,vs=>∃ v r,vs = v :: r /\ eH x v /\ VR c x v.cells.toList /\ VA c l r
end

def VV (c : Cx) (A : AV) (v : Value) : Prop:=eH A v /\ VR c A v.cells.toList

def EV (c : Cx) : AV -> Value -> Prop
 | .und,_=>True
 | .dV l,v=>∃ vs,v = .tuple vs /\ VA c l vs.toList
 | A,v=>VV c A v

theorem Aw {w w' : World} {Im OV : Nat -> Nat -> Prop} (h : ∀ b o,Im b o -> OV b o /\ w'.cell? ⟨b,o,none⟩ = w.cell? ⟨b,o,none⟩)
  {b off : Nat} {cs : List Value} (hc : jI w Im b off cs) : jI w' OV b off cs:=by
 intro j v hj
 obtain ⟨h1,h2⟩:=hc j v hj
 exact ⟨(h _ _ h2).2.trans h1,(h _ _ h2).1⟩

mutual
theorem eu {w w' : World} {Im OV : Nat -> Nat -> Prop} (h : ∀ b o,Im b o -> OV b o /\ w'.cell? ⟨b,o,none⟩ = w.cell? ⟨b,o,none⟩) :
  ∀ (A : AV) (cs : List Value),Rd w Im A cs -> Rd w' OV A cs
 | .bool _,_,hr=>by simpa only [Rd] using hr
 | .tt,_,hr=>by simpa only [Rd] using hr
 | .ff,_,hr=>by simpa only [Rd] using hr
 | .dec _,_,hr=>by simpa only [Rd] using hr
 | .int _ _,_,hr=>by simpa only [Rd] using hr
 | .str _,_,hr=>by simpa only [Rd] using hr
 | .dN,_,hr=>by simpa only [Rd] using hr
 | .jm t x,cs,hr=>by
   simp only [Rd] at hr ⊢
   obtain ⟨v,h1,h2,h3⟩:=hr
   exact ⟨v,h1,h2,eu h x _ h3⟩
 | .aG,_,hr=>by simpa only [Rd] using hr
 | .sl sz l .no,cs,hr=>by
   simp only [Rd] at hr ⊢
   obtain ⟨h0,hr⟩:=hr
   refine ⟨h0,hr.imp id ?_⟩
   rintro ⟨a,cap,h1,h2,h3,h4,h5⟩
   exact ⟨a,cap,h1,h2,h3,h4,Ib h _ _ l _ h5⟩
 | .sl sz l .full,cs,hr=>by simp only [Rd] at hr
 | .sl sz l (.own _),cs,hr=>by simp only [Rd] at hr
 | .ms _ _ _ _ _,_,hr=>by simp only [Rd] at hr
 | .ag l,cs,hr=>by
   simp only [Rd] at hr ⊢
   exact OL h l cs hr
 | .dV _,_,hr=>by simp only [Rd] at hr
 | .ptr _ _ _,_,hr=>by simp only [Rd] at hr
 | .cp x,cs,hr=>by
   simp only [Rd] at hr ⊢
   obtain ⟨a,ds,h1,h2,h3,h4⟩:=hr
   exact ⟨a,ds,h1,h2,Aw h h3,eu h x _ h4⟩
 | .gK,_,hr=>by simpa only [Rd] using hr
 | .fn f cap,cs,hr=>by
   simp only [Rd] at hr ⊢
   obtain ⟨vs,h1,h2⟩:=hr
   exact ⟨vs,h1,OT h cap vs h2⟩
 | .aH,_,hr=>by simpa only [Rd] using hr
 | .mp _,_,hr=>by simp only [Rd] at hr
 | .iQ,_,hr=>by simpa only [Rd] using hr
 | .gs _ _,_,hr=>by simp only [Rd] at hr
 | .bm _ _,_,hr=>by simp only [Rd] at hr
 | .und,_,hr=>by simp only [Rd] at hr
theorem OL {w w' : World} {Im OV : Nat -> Nat -> Prop} (h : ∀ b o,Im b o -> OV b o /\ w'.cell? ⟨b,o,none⟩ = w.cell? ⟨b,o,none⟩) :
  ∀ (l : List AV) (cs : List Value),lN w Im l cs -> lN w' OV l cs
 | [],_,hr=>by simpa only [lN] using hr
 | x :: l,cs,hr=>by
   simp only [lN] at hr ⊢
   obtain ⟨c,d,h1,h2,h3⟩:=hr
   exact ⟨c,d,h1,eu h x _ h2,OL h l _ h3⟩
theorem Ib {w w' : World} {Im OV : Nat -> Nat -> Prop} (h : ∀ b o,Im b o -> OV b o /\ w'.cell? ⟨b,o,none⟩ = w.cell? ⟨b,o,none⟩) (sz b : Nat) :
  ∀ (l : List AV) (off : Nat),sN w Im sz b l off -> sN w' OV sz b l off
 | [],_,_=>by simp only [sN]
 | x :: l,off,hr=>by
   simp only [sN] at hr ⊢
   obtain ⟨⟨cs,h1,h2,h3⟩,h4⟩:=hr
   exact ⟨⟨cs,h1,Aw h h2,eu h x _ h3⟩,Ib h sz b l _ h4⟩
theorem OT {w w' : World} {Im OV : Nat -> Nat -> Prop} (h : ∀ b o,Im b o -> OV b o /\ w'.cell? ⟨b,o,none⟩ = w.cell? ⟨b,o,none⟩) :
  ∀ (l : List AV) (vs : List Value),VD w Im l vs -> VD w' OV l vs
 | [],_,hr=>by simpa only [VD] using hr
 | x :: l,vs,hr=>by
   simp only [VD] at hr ⊢
   obtain ⟨v,r,h1,h2,h3,h4⟩:=hr
   exact ⟨v,r,h1,h2,eu h x _ h3,OT h l _ h4⟩
end

structure Cx.Le (c d : Cx) : Prop where
 im : ∀ b o,c.Im b o -> d.Im b o /\ d.w.cell? ⟨b,o,none⟩ = c.w.cell? ⟨b,o,none⟩
 nx : c.nx <= d.nx
 ρ : ∀ k,k < c.nx -> d.ρ k = c.ρ k
 tk : ∀ k n,k < c.nx -> d.tp k = some n -> (c.tp k = some n /\ d.tk k = c.tk k) \/ ∃ m,c.tp k = some m /\ m < n

mutual
theorem oK {c d : Cx} (h : c.Le d) : ∀ (A : AV) (cs : List Value),VR c A cs -> VR d A cs
 | .bool _,cs,hr=>by simp only [VR] at hr ⊢; exact eu h.im _ _ hr
 | .tt,_,hr=>by simp only [VR] at hr ⊢; exact eu h.im _ _ hr
 | .ff,_,hr=>by simp only [VR] at hr ⊢; exact eu h.im _ _ hr
 | .dec _,_,hr=>by simp only [VR] at hr ⊢; exact eu h.im _ _ hr
 | .int _ _,_,hr=>by simp only [VR] at hr ⊢; exact eu h.im _ _ hr
 | .str _,_,hr=>by simp only [VR] at hr ⊢; exact eu h.im _ _ hr
 | .dN,_,hr=>by simp only [VR] at hr ⊢; exact eu h.im _ _ hr
 | .jm t x,cs,hr=>by
   simp only [VR] at hr ⊢
   obtain ⟨v,h1,h2,h3⟩:=hr
   exact ⟨v,h1,h2,oK h x _ h3⟩
 | .aG,_,hr=>by simp only [VR] at hr ⊢; exact eu h.im _ _ hr
 | .sl _ _ .no,_,hr=>by simp only [VR] at hr ⊢; exact eu h.im _ _ hr
 | .sl _ _ .full,_,hr=>by simp only [VR] at hr ⊢; exact ⟨eu h.im _ _ hr.1,hr.2⟩
 | .sl sz l (.own k),cs,hr=>by
   simp only [VR] at hr ⊢
   obtain ⟨h1,h2,h3⟩:=hr
   refine ⟨Nat.lt_of_lt_of_le h1 h.nx,eu h.im _ _ h2,fun n hn=>?_⟩
   rcases h.tk k n h1 hn with ⟨h4,h5⟩ | ⟨m,h4,h5⟩
   ·rw [h5]; exact h3 n h4
   ·have:=(h3 m h4).1; exact ⟨by omega,fun e=>by omega⟩
 | .ms k _ _ _ _,_,hr=>by
   simp only [VR] at hr ⊢
   rw [h.ρ k hr.1]
   exact ⟨Nat.lt_of_lt_of_le hr.1 h.nx,hr.2⟩
 | .ag l,cs,hr=>by
   simp only [VR] at hr ⊢
   exact OJ h l cs hr
 | .dV _,_,hr=>by simp only [VR] at hr ⊢; exact eu h.im _ _ hr
 | .ptr k _ _,_,hr=>by
   simp only [VR] at hr ⊢
   rw [h.ρ k hr.1]
   exact ⟨Nat.lt_of_lt_of_le hr.1 h.nx,hr.2⟩
 | .cp x,cs,hr=>by simp only [VR] at hr ⊢; exact eu h.im _ _ hr
 | .gK,_,hr=>by simp only [VR] at hr ⊢; exact eu h.im _ _ hr
 | .fn f cap,cs,hr=>by
   simp only [VR] at hr ⊢
   obtain ⟨vs,h1,h2⟩:=hr
   exact ⟨vs,h1,LJ h cap vs h2⟩
 | .aH,_,hr=>by simp only [VR] at hr ⊢; exact eu h.im _ _ hr
 | .mp k,_,hr=>by
   simp only [VR] at hr ⊢
   rw [h.ρ k hr.1]
   exact ⟨Nat.lt_of_lt_of_le hr.1 h.nx,hr.2⟩
 | .bm f k,_,hr=>by
   simp only [VR] at hr ⊢
   rw [h.ρ k hr.1]
   exact ⟨Nat.lt_of_lt_of_le hr.1 h.nx,hr.2⟩
 | .gs k len,_,hr=>by
   simp only [VR] at hr ⊢
   obtain ⟨h1,h2,h3⟩:=hr
   refine ⟨Nat.lt_of_lt_of_le h1 h.nx,h2,fun n hn=>?_⟩
   rcases h.tk k n h1 hn with ⟨h4,h5⟩ | ⟨m,h4,h5⟩
   ·rw [h5]; exact h3 n h4
   ·have:=(h3 m h4).1; exact ⟨by omega,fun e=>by omega⟩
 | .iQ,_,hr=>by simp only [VR] at hr ⊢; exact eu h.im _ _ hr
 | .und,_,hr=>by simp only [VR] at hr ⊢; exact eu h.im _ _ hr
theorem OJ {c d : Cx} (h : c.Le d) : ∀ (l : List AV) (cs : List Value),lT c l cs -> lT d l cs
 | [],_,hr=>by simpa only [lT] using hr
 | x :: l,cs,hr=>by
   simp only [lT] at hr ⊢
   obtain ⟨a,e,h1,h2,h3⟩:=hr
   exact ⟨a,e,h1,oK h x _ h2,OJ h l _ h3⟩
theorem LJ {c d : Cx} (h : c.Le d) : ∀ (l : List AV) (vs : List Value),VA c l vs -> VA d l vs
 | [],_,hr=>by simpa only [VA] using hr
 | x :: l,vs,hr=>by
   simp only [VA] at hr ⊢
   obtain ⟨v,r,h1,h2,h3,h4⟩:=hr
   exact ⟨v,r,h1,h2,oK h x _ h3,LJ h l _ h4⟩
end

theorem oJ {c d : Cx} (h : c.Le d) {A : AV} {v : Value} (hv : VV c A v) : VV d A v:=⟨hv.1,oK h _ _ hv.2⟩

theorem mQ {c d : Cx} (h : c.Le d) : ∀ {A : AV} {v : Value},EV c A v -> EV d A v:=by
 intro A v hv
 cases A <;> first
  | exact oJ h hv
  | trivial
  | (obtain ⟨vs,h1,h2⟩:=hv; exact ⟨vs,h1,LJ h _ _ h2⟩)

end Go.AL

namespace Go.AL

mutual
theorem cZ {w : World} {Im : Nat -> Nat -> Prop} : ∀ (A : AV) (cs : List Value),Rd w Im A cs -> cs.length = flat A
 | .bool _,_,hr=>by simp only [Rd] at hr; subst hr; rfl
 | .tt,_,hr=>by simp only [Rd] at hr; subst hr; rfl
 | .ff,_,hr=>by simp only [Rd] at hr; subst hr; rfl
 | .dec _,_,hr=>by simp only [Rd] at hr; obtain ⟨b,rfl,_⟩:=hr; rfl
 | .int _ _,_,hr=>by simp only [Rd] at hr; obtain ⟨rfl,_⟩:=hr; rfl
 | .str _,_,hr=>by simp only [Rd] at hr; obtain ⟨rfl,_⟩:=hr; rfl
 | .dN,_,hr=>by simp only [Rd] at hr; subst hr; rfl
 | .jm t x,cs,hr=>by simp only [Rd] at hr; obtain ⟨v,rfl,_⟩:=hr; rfl
 | .aG,_,hr=>by simp only [Rd] at hr; subst hr; rfl
 | .sl sz l .no,cs,hr=>by
   simp only [Rd] at hr
   obtain ⟨_,⟨_,rfl⟩ | ⟨a,cap,rfl,_⟩⟩:=hr <;> rfl
 | .sl sz l .full,cs,hr=>by simp only [Rd] at hr
 | .sl sz l (.own _),cs,hr=>by simp only [Rd] at hr
 | .ms _ _ _ _ _,_,hr=>by simp only [Rd] at hr
 | .ag l,cs,hr=>by
   simp only [Rd] at hr
   simp only [flat]
   exact H9 l cs hr
 | .dV _,_,hr=>by simp only [Rd] at hr
 | .ptr _ _ _,_,hr=>by simp only [Rd] at hr
 | .cp x,cs,hr=>by simp only [Rd] at hr; obtain ⟨a,ds,rfl,_⟩:=hr; rfl
 | .gK,_,hr=>by simp only [Rd] at hr; subst hr; rfl
 | .fn _ _,_,hr=>by simp only [Rd] at hr; obtain ⟨_,rfl,_⟩:=hr; rfl
 | .aH,_,hr=>by simp only [Rd] at hr; subst hr; rfl
 | .mp _,_,hr=>by simp only [Rd] at hr
 | .gs _ _,_,hr=>by simp only [Rd] at hr
 | .bm _ _,_,hr=>by simp only [Rd] at hr
 | .iQ,_,hr=>by simp only [Rd] at hr; subst hr; rfl
 | .und,_,hr=>by simp only [Rd] at hr
theorem H9 {w : World} {Im : Nat -> Nat -> Prop} : ∀ (l : List AV) (cs : List Value),lN w Im l cs -> cs.length = iJ l
 | [],_,hr=>by simp only [lN] at hr; subst hr; rfl
 | x :: l,cs,hr=>by
   simp only [lN] at hr
   obtain ⟨c,d,rfl,h2,h3⟩:=hr
   simp only [iJ,List.length_append,cZ x _ h2,H9 l _ h3]
end

mutual
theorem gy {c : Cx} : ∀ (A : AV) (cs : List Value),VR c A cs -> cs.length = flat A
 | .bool _,_,hr=>by simp only [VR] at hr; exact cZ _ _ hr
 | .tt,_,hr=>by simp only [VR] at hr; exact cZ _ _ hr
 | .ff,_,hr=>by simp only [VR] at hr; exact cZ _ _ hr
 | .dec _,_,hr=>by simp only [VR] at hr; exact cZ _ _ hr
 | .int _ _,_,hr=>by simp only [VR] at hr; exact cZ _ _ hr
 | .str _,_,hr=>by simp only [VR] at hr; exact cZ _ _ hr
 | .dN,_,hr=>by simp only [VR] at hr; exact cZ _ _ hr
 | .jm t x,cs,hr=>by simp only [VR] at hr; obtain ⟨v,rfl,_⟩:=hr; rfl
 | .aG,_,hr=>by simp only [VR] at hr; exact cZ _ _ hr
 | .sl sz l .no,cs,hr=>by simp only [VR] at hr; exact cZ _ _ hr
 | .sl sz l .full,cs,hr=>by simp only [VR] at hr; exact cZ (.sl sz l .no) _ hr.1
 | .sl sz l (.own _),cs,hr=>by simp only [VR] at hr; exact cZ (.sl sz l .no) _ hr.2.1
 | .ms _ _ _ _ _,_,hr=>by simp only [VR] at hr; obtain ⟨_,rfl,_⟩:=hr; rfl
 | .ag l,cs,hr=>by
   simp only [VR] at hr
   simp only [flat]
   exact Hz l cs hr
 | .dV _,_,hr=>by simp only [VR] at hr; exact cZ _ _ hr
 | .ptr _ _ _,_,hr=>by simp only [VR] at hr; obtain ⟨_,rfl⟩:=hr; rfl
 | .cp x,cs,hr=>by simp only [VR] at hr; exact cZ _ _ hr
 | .gK,_,hr=>by simp only [VR] at hr; exact cZ _ _ hr
 | .fn _ _,_,hr=>by simp only [VR] at hr; obtain ⟨_,rfl,_⟩:=hr; rfl
 | .aH,_,hr=>by simp only [VR] at hr; exact cZ _ _ hr
 | .mp _,_,hr=>by simp only [VR] at hr; obtain ⟨_,rfl⟩:=hr; rfl
 | .gs _ _,_,hr=>by simp only [VR] at hr; obtain ⟨_,⟨_,_,_,rfl⟩,_⟩:=hr; rfl
 | .bm _ _,_,hr=>by simp only [VR] at hr; obtain ⟨_,rfl⟩:=hr; rfl
 | .iQ,_,hr=>by simp only [VR] at hr; exact cZ _ _ hr
 | .und,_,hr=>by simp only [VR] at hr; exact cZ _ _ hr
theorem Hz {c : Cx} : ∀ (l : List AV) (cs : List Value),lT c l cs -> cs.length = iJ l
 | [],_,hr=>by simp only [lT] at hr; subst hr; rfl
 | x :: l,cs,hr=>by
   simp only [lT] at hr
   obtain ⟨a,d,rfl,h2,h3⟩:=hr
   simp only [iJ,List.length_append,gy x _ h2,Hz l _ h3]
end

def mkV (A : AV) (cs : List Value) : Value:=match A with
 | .ag _=>.agg cs.toArray
 | _=>cs.getD 0 default

theorem nJ {c : Cx} {A : AV} {cs : List Value} (h : VR c A cs) (hA : dH A = false) : ∃ v,cs = [v] /\ v.cells = #[v]:=by
 cases A with
 | ag l=>simp [dH] at hA
 | dec p=>simp only [VR,Rd] at h; obtain ⟨b,rfl,_⟩:=h; exact ⟨_,rfl,rfl⟩
 | sl sz l tok =>
   cases tok with
   | no=>simp only [VR,Rd] at h; obtain ⟨_,⟨_,rfl⟩ | ⟨a,cap,rfl,_⟩⟩:=h <;> exact ⟨_,rfl,rfl⟩
   | full=>simp only [VR,Rd] at h; obtain ⟨⟨_,⟨_,rfl⟩ | ⟨a,cap,rfl,_⟩⟩,_⟩:=h <;> exact ⟨_,rfl,rfl⟩
   | own k=>simp only [VR,Rd] at h; obtain ⟨_,⟨_,⟨_,rfl⟩ | ⟨a,cap,rfl,_⟩⟩,_⟩:=h <;> exact ⟨_,rfl,rfl⟩
 | jm t x=>simp only [VR] at h; obtain ⟨v,rfl,_⟩:=h; exact ⟨_,rfl,rfl⟩
 | cp x=>simp only [VR,Rd] at h; obtain ⟨a,ds,rfl,_⟩:=h; exact ⟨_,rfl,rfl⟩
 | fn f cap=>simp only [VR] at h; obtain ⟨vs,rfl,_⟩:=h; exact ⟨_,rfl,rfl⟩
 | dV l=>simp only [VR,Rd] at h
 | und=>simp only [VR,Rd] at h
 | ptr=>simp only [VR] at h; obtain ⟨_,rfl⟩:=h; exact ⟨_,rfl,rfl⟩
 | ms=>simp only [VR] at h; obtain ⟨_,rfl,_⟩:=h; exact ⟨_,rfl,rfl⟩
 | mp=>simp only [VR] at h; obtain ⟨_,rfl⟩:=h; exact ⟨_,rfl,rfl⟩
 | gs=>simp only [VR] at h; obtain ⟨_,⟨_,_,_,rfl⟩,_⟩:=h; exact ⟨_,rfl,rfl⟩
 | bm=>simp only [VR] at h; obtain ⟨_,rfl⟩:=h; exact ⟨_,rfl,rfl⟩
 | int=>simp only [VR,Rd] at h; obtain ⟨rfl,_⟩:=h; exact ⟨_,rfl,rfl⟩
 | str=>simp only [VR,Rd] at h; obtain ⟨rfl,_⟩:=h; exact ⟨_,rfl,rfl⟩
 | _=>simp only [VR,Rd] at h; subst h; exact ⟨_,rfl,rfl⟩

theorem Ue {c : Cx} {A : AV} {cs : List Value} (h : VR c A cs) : (mkV A cs).cells.toList = cs:=by
 cases hA : dH A with
 | true=>cases A <;> simp [dH] at hA; simp [mkV,Value.cells]
 | false =>
   obtain ⟨v,rfl,hv⟩:=nJ h hA
   have : mkV A [v] = v:=by cases A <;> simp [dH] at hA <;> rfl
   rw [this,hv]

theorem LG {c : Cx} {A : AV} {cs : List Value} (h : VR c A cs) : VV c A (mkV A cs):=by
 refine ⟨⟨fun hA=>?_,fun hA=>?_⟩,by rw [Ue h]; exact h⟩
 ·cases A <;> simp [dH] at hA; exact ⟨_,rfl⟩
 ·obtain ⟨v,rfl,hv⟩:=nJ h hA
  have : mkV A [v] = v:=by cases A <;> simp [dH] at hA <;> rfl
  rw [this,hv]

theorem AQ {c : Cx} {A : AV} {v : Value} (h : VR c A [v]) (hA : dH A = false) : VV c A v:=by
 obtain ⟨u,hu,hv⟩:=nJ h hA
 obtain rfl : v = u:=by simpa using hu
 exact ⟨⟨fun h=>by simp [h] at hA,fun _=>hv⟩,by rw [hv]; exact h⟩

theorem Vm {c : Cx} {A : AV} {v : Value} (h : VV c A v) (hA : dH A = false) : VR c A [v]:=by
 have:=h.2; rw [h.1.2 hA] at this; exact this

mutual
def nV : AV -> Bool
 | .ptr _ _ _ | .ms _ _ _ _ _ | .mp _ | .gs _ _ | .bm _ _ | .dV _ | .und=>false
 | .fn _ cap=>yC cap
 | .ag l=>yC l
 | .jm _ x=>nV x
 | _=>true
def yC : List AV -> Bool
 | []=>true
 | x :: l=>match nV x with | true=>yC l | false=>false
end

mutual
def strip : AV -> AV
 | .sl sz l _=>.sl sz l .no
 | .ag l=>.ag (stripL l)
 | .jm t x=>.jm t (strip x)
 | .fn f cap=>.fn f (stripL cap)
 | A=>A
def stripL : List AV -> List AV
 | []=>[]
 | x :: l=>strip x :: stripL l
end

theorem PU (A : AV) : dH (strip A) = dH A:=by cases A <;> rfl

theorem zi {A : AV} {v : Value} (h : eH A v) : eH (strip A) v:=by
 unfold eH at *; rw [PU]; exact h

mutual
theorem qg {c : Cx} : ∀ (A : AV) (cs : List Value),nV A = true -> VR c A cs -> Rd c.w c.Im (strip A) cs
 | .bool _,_,_,hr=>by simpa only [VR,strip] using hr
 | .tt,_,_,hr=>by simpa only [VR,strip] using hr
 | .ff,_,_,hr=>by simpa only [VR,strip] using hr
 | .dec _,_,_,hr=>by simpa only [VR,strip] using hr
 | .int _ _,_,_,hr=>by simpa only [VR,strip] using hr
 | .str _,_,_,hr=>by simpa only [VR,strip] using hr
 | .dN,_,_,hr=>by simpa only [VR,strip] using hr
 | .jm t x,cs,hp,hr=>by
   simp only [VR] at hr
   obtain ⟨v,rfl,h2,h3⟩:=hr
   simp only [strip,Rd]
   exact ⟨v,rfl,zi h2,qg x _ hp h3⟩
 | .aG,_,_,hr=>by simpa only [VR,strip] using hr
 | .sl sz l .no,cs,_,hr=>by simpa only [VR,strip] using hr
 | .sl sz l .full,cs,_,hr=>by simp only [VR] at hr; simpa only [strip] using hr.1
 | .sl sz l (.own _),cs,_,hr=>by simp only [VR] at hr; simpa only [strip] using hr.2.1
 | .ms _ _ _ _ _,_,hp,_=>by simp [nV] at hp
 | .ag l,cs,hp,hr=>by
   simp only [VR] at hr
   simp only [strip,Rd]
   exact JM l cs hp hr
 | .dV _,_,hp,_=>by simp [nV] at hp
 | .ptr _ _ _,_,hp,_=>by simp [nV] at hp
 | .cp x,cs,_,hr=>by simpa only [VR,strip] using hr
 | .gK,_,_,hr=>by simpa only [VR,strip] using hr
 | .fn f cap,cs,hp,hr=>by
   simp only [VR] at hr
   obtain ⟨vs,h1,h2⟩:=hr
   simp only [strip,Rd]
   exact ⟨vs,h1,JR cap vs hp h2⟩
 | .aH,_,_,hr=>by simpa only [VR,strip] using hr
 | .mp _,_,hp,_=>by simp [nV] at hp
 | .gs _ _,_,hp,_=>by simp [nV] at hp
 | .bm _ _,_,hp,_=>by simp [nV] at hp
 | .iQ,_,_,hr=>by simpa only [VR,strip] using hr
 | .und,_,hp,_=>by simp [nV] at hp
theorem JM {c : Cx} : ∀ (l : List AV) (cs : List Value),yC l = true -> lT c l cs -> lN c.w c.Im (stripL l) cs
 | [],_,_,hr=>by simpa only [lT,stripL,lN] using hr
 | x :: l,cs,hp,hr=>by
   simp only [lT] at hr
   obtain ⟨a,d,h1,h2,h3⟩:=hr
   simp only [stripL,lN]
   simp only [yC] at hp
   cases hx : nV x with
   | false=>simp [hx] at hp
   | true=>rw [hx] at hp; exact ⟨a,d,h1,qg x _ hx h2,JM l _ hp h3⟩
theorem JR {c : Cx} : ∀ (l : List AV) (vs : List Value),yC l = true -> VA c l vs -> VD c.w c.Im (stripL l) vs
 | [],_,_,hr=>by simpa only [VA,stripL,VD] using hr
 | x :: l,vs,hp,hr=>by
   simp only [VA] at hr
   obtain ⟨v,r,h1,h2,h3,h4⟩:=hr
   simp only [stripL,VD]
   simp only [yC] at hp
   cases hx : nV x with
   | false=>simp [hx] at hp
   | true=>rw [hx] at hp; exact ⟨v,r,h1,zi h2,qg x _ hx h3,JR l _ hp h4⟩
end

mutual
theorem iM {c : Cx} : ∀ (A : AV) (cs : List Value),Rd c.w c.Im A cs -> VR c A cs
 | .bool _,_,hr=>by simpa only [VR] using hr
 | .tt,_,hr=>by simpa only [VR] using hr
 | .ff,_,hr=>by simpa only [VR] using hr
 | .dec _,_,hr=>by simpa only [VR] using hr
 | .int _ _,_,hr=>by simpa only [VR] using hr
 | .str _,_,hr=>by simpa only [VR] using hr
 | .dN,_,hr=>by simpa only [VR] using hr
 | .jm t x,cs,hr=>by
   simp only [Rd] at hr
   obtain ⟨v,h1,h2,h3⟩:=hr
   simp only [VR]
   exact ⟨v,h1,h2,iM x _ h3⟩
 | .aG,_,hr=>by simpa only [VR] using hr
 | .sl sz l .no,cs,hr=>by simpa only [VR] using hr
 | .sl sz l .full,cs,hr=>by simp only [Rd] at hr
 | .sl sz l (.own _),cs,hr=>by simp only [Rd] at hr
 | .ms _ _ _ _ _,_,hr=>by simp only [Rd] at hr
 | .ag l,cs,hr=>by
   simp only [Rd] at hr
   simp only [VR]
   exact Hy l cs hr
 | .dV _,_,hr=>by simp only [Rd] at hr
 | .ptr _ _ _,_,hr=>by simp only [Rd] at hr
 | .cp x,cs,hr=>by simpa only [VR] using hr
 | .gK,_,hr=>by simpa only [VR] using hr
 | .fn f cap,cs,hr=>by
   simp only [Rd] at hr
   obtain ⟨vs,h1,h2⟩:=hr
   simp only [VR]
   exact ⟨vs,h1,JK cap vs h2⟩
 | .aH,_,hr=>by simpa only [VR] using hr
 | .gs _ _,_,hr=>by simp only [Rd] at hr
 | .bm _ _,_,hr=>by simp only [Rd] at hr
 | .mp _,_,hr=>by simp only [Rd] at hr
 | .iQ,_,hr=>by simpa only [VR] using hr
 | .und,_,hr=>by simp only [Rd] at hr
theorem Hy {c : Cx} : ∀ (l : List AV) (cs : List Value),lN c.w c.Im l cs -> lT c l cs
 | [],_,hr=>by simpa only [lT,lN] using hr
 | x :: l,cs,hr=>by
   simp only [lN] at hr
   obtain ⟨a,d,h1,h2,h3⟩:=hr
   simp only [lT]
   exact ⟨a,d,h1,iM x _ h2,Hy l _ h3⟩
theorem JK {c : Cx} : ∀ (l : List AV) (vs : List Value),VD c.w c.Im l vs -> VA c l vs
 | [],_,hr=>by simpa only [VA,VD] using hr
 | x :: l,vs,hr=>by
   simp only [VD] at hr
   obtain ⟨v,r,h1,h2,h3,h4⟩:=hr
   simp only [VA]
   exact ⟨v,r,h1,h2,iM x _ h3,JK l _ h4⟩
end

theorem YJ {c : Cx} {A : AV} {v : Value} (hs : eH A v) (h : Rd c.w c.Im A v.cells.toList) : VV c A v:=⟨hs,iM _ _ h⟩

theorem S9 {w : World} {Im : Nat -> Nat -> Prop} {sz b : Nat} : ∀ {l : List AV} {off i : Nat} {x : AV},sN w Im sz b l off -> l[i]? = some x ->
  ∃ cs,cs.length = sz /\ jI w Im b (off + i * sz) cs /\ Rd w Im x cs
 | [],_,_,_,_,h=>by simp at h
 | y :: l,off,0,x,hr,h=>by
   simp only [sN] at hr
   obtain rfl : y = x:=by simpa using h
   simpa using hr.1
 | y :: l,off,i + 1,x,hr,h=>by
   simp only [sN] at hr
   obtain ⟨cs,h1,h2,h3⟩:=S9 (i:=i) hr.2 (by simpa using h)
   refine ⟨cs,h1,?_,h3⟩
   have : off + (i + 1) * sz = off + sz + i * sz:=by rw [Nat.add_mul]; omega
   rw [this]; exact h2

theorem Ic {w : World} {Im : Nat -> Nat -> Prop} {sz b : Nat} : ∀ {l m : List AV} {off : Nat},sN w Im sz b l off -> sN w Im sz b m (off + l.length * sz) ->
  sN w Im sz b (l ++ m) off
 | [],m,off,_,h=>by simpa using h
 | x :: l,m,off,h,hm=>by
   simp only [sN,List.cons_append] at h ⊢
   refine ⟨h.1,Ic h.2 ?_⟩
   have : off + sz + l.length * sz = off + (x :: l).length * sz:=by simp [Nat.add_mul]; omega
   rw [this]; exact hm

theorem OQ {w : World} {Im : Nat -> Nat -> Prop} {sz b : Nat} : ∀ {l : List AV} {off : Nat} (n : Nat),sN w Im sz b l off -> n <= l.length -> sN w Im sz b (l.drop n) (off + n * sz)
 | l,off,0,h,_=>by simpa using h
 | [],off,n + 1,_,hn=>by simp at hn
 | x :: l,off,n + 1,h,hn=>by
   simp only [sN] at h
   have:=OQ (l:=l) (off:=off + sz) n h.2 (by simpa using hn)
   have e : off + (n + 1) * sz = off + sz + n * sz:=by rw [Nat.add_mul]; omega
   rw [e]; exact this

theorem OO {w : World} {Im : Nat -> Nat -> Prop} {sz b : Nat} : ∀ {l : List AV} {off : Nat} (n : Nat),sN w Im sz b l off -> sN w Im sz b (l.take n) off
 | l,off,0,h=>by simp [sN]
 | [],off,n + 1,h=>by simp [sN]
 | x :: l,off,n + 1,h=>by
   simp only [sN] at h
   simp only [List.take_succ_cons,sN]
   exact ⟨h.1,OO n h.2⟩

end Go.AL

namespace Go.AL

abbrev Env:=List (Nat × AV)

inductive HO where
 | box (A : AV)
 | arr (sz cap : Nat) (l : List AV)
 | tok (sz top : Nat)
 | dU (sh : AV) (es : List (AV × AV))
 | iT (sz : Nat) (l : List AV)
 | gone
 deriving Inhabited

abbrev Heap:=List (Nat × HO)

def yc : Env -> Nat -> (AV -> Prop) -> Prop
 | [],_,_=>False
 | (i,A) :: e,t,k=>match Nat.beq i t with | true=>k A | false=>yc e t k

def dQ : Env -> Nat -> Option AV
 | [],_=>none
 | (i,A) :: e,t=>match Nat.beq i t with | true=>some A | false=>dQ e t

theorem gW {k : AV -> Prop} : ∀ {e : Env} {t : Nat},yc e t k ↔ ∃ A,dQ e t = some A /\ k A
 | [],t=>by simp [yc,dQ]
 | (i,A) :: e,t=>by
   simp only [yc,dQ]
   cases Nat.beq i t with
   | true=>simp
   | false=>exact gW

def iI : Heap -> Nat -> (HO -> Prop) -> Prop
 | [],_,_=>False
 | (i,o) :: H,n,k=>match Nat.beq i n with | true=>k o | false=>iI H n k

def hget : Heap -> Nat -> Option HO
 | [],_=>none
 | (i,o) :: H,n=>match Nat.beq i n with | true=>some o | false=>hget H n

theorem dL {k : HO -> Prop} : ∀ {H : Heap} {n : Nat},iI H n k ↔ ∃ o,hget H n = some o /\ k o
 | [],n=>by simp [iI,hget]
 | (i,o) :: H,n=>by
   simp only [iI,hget]
   cases Nat.beq i n with
   | true=>simp
   | false=>exact dL

def uQ : Heap -> Nat -> HO -> (Heap -> Prop) -> Prop
 | [],_,_,_=>False
 | (i,o) :: H,n,o',k=>match Nat.beq i n with | true=>k ((i,o') :: H) | false=>uQ H n o' fun H'=>k ((i,o) :: H')

def hset : Heap -> Nat -> HO -> Heap
 | [],_,_=>[]
 | (i,o) :: H,n,o'=>match Nat.beq i n with | true=>(i,o') :: H | false=>(i,o) :: hset H n o'

theorem iY : ∀ {H : Heap} {n : Nat} {o' : HO} {k : Heap -> Prop},uQ H n o' k ↔ (∃ o,hget H n = some o) /\ k (hset H n o')
 | [],n,o',k=>by simp [uQ,hget]
 | (i,o) :: H,n,o',k=>by
   simp only [uQ,hget,hset]
   cases Nat.beq i n with
   | true=>simp
   | false=>exact iY

def nextId : Heap -> Nat
 | []=>0
 | (i,_) :: _=>i + 1

def aN (n : Nat) (k : Nat -> Prop) : Prop :=
 match n with
 | 0=>k 1 | 1=>k 2 | 2=>k 3 | 3=>k 4 | 4=>k 5 | 5=>k 6 | 6=>k 7 | 7=>k 8 | 8=>k 9 | 9=>k 10
 | 10=>k 11 | 11=>k 12 | 12=>k 13 | 13=>k 14 | 14=>k 15 | 15=>k 16 | 16=>k 17 | 17=>k 18 | 18=>k 19 | 19=>k 20
 | n + 20=>k (n + 21)

theorem IU {n : Nat} {k : Nat -> Prop} : aN n k ↔ k (n + 1):=by
 unfold aN
 split <;> exact Iff.rfl

def o9 (H : Heap) (o : HO) (k : Nat -> Heap -> Prop) : Prop :=
 match H with
 | []=>k 0 [(0,o)]
 | (i,x) :: H=>aN i fun j=>k j ((j,o) :: (i,x) :: H)

theorem eG {H : Heap} {o : HO} {k : Nat -> Heap -> Prop} : o9 H o k ↔ k (nextId H) ((nextId H,o) :: H):=by
 cases H with
 | nil=>exact Iff.rfl
 | cons x H=>obtain ⟨i,x⟩:=x; simp only [o9,IU,nextId]

def dD (H : Heap) (k : Nat) : Option Nat:=match hget H k with | some (.tok _ n)=>some n | some (.iT _ l)=>some l.length | _=>none

def LH (c : Cx) (sz : Nat) : List AV -> List Value -> Prop
 | [],_=>True
 | x :: l,cs=>∃ a d,cs = a ++ d /\ a.length = sz /\ Rd c.w c.Im x a /\ LH c sz l d

def Dw (c : Cx) : List (AV × AV) -> List MapEntry -> Prop
 | [],es=>es = []
 | (x,y) :: l,es=>∃ e r,es = e :: r /\ VV c x e.key /\ VV c y e.val /\ Dw c l r

def qA : IntKind -> IntKind -> Bool
 | .i8,.i8 | .i16,.i16 | .i32,.i32 | .i64,.i64 | .u8,.u8 | .u16,.u16 | .u32,.u32 | .u64,.u64=>true
 | _,_=>false

theorem gQ {a b : IntKind} (h : qA a b = true) : a = b:=by cases a <;> cases b <;> first | rfl | simp [qA] at h

mutual
def au : AV -> AV -> Bool
 | .int k _,.int k' _=>qA k k'
 | .str _,.str _=>true
 | .ag l,.ag m=>bZ l m
 | _,_=>false
def bZ : List AV -> List AV -> Bool
 | [],[]=>true
 | x :: l,y :: m=>au x y && bZ l m
 | _,_=>false
end

def OU (sh : AV) : List (AV × AV) -> Prop
 | []=>True
 | (x,_) :: l=>au sh x = true /\ OU sh l

def HO.Ok (c : Cx) (k : Nat) : HO -> Prop
 | .box A=>∃ cs ty,c.w.heap[c.ρ k]? = some (.cells cs.toArray ty) /\ VR c A cs /\ ∀ o,¬ c.Im (c.ρ k) o
 | .arr sz cap l=>∃ cs ty,c.w.heap[c.ρ k]? = some (.cells cs.toArray ty) /\ cs.length = cap * sz /\ l.length <= cap /\ cap <= maxL /\ LH c sz l cs /\ ∀ o,¬ c.Im (c.ρ k) o
 | .tok sz top=>(c.tk k).2 = top \/ ∃ b cs ty,(c.tk k).1 = some ⟨b,0,none⟩ /\ c.w.heap[b]? = some (.cells cs ty) /\ cs.size = (c.tk k).2 * sz /\
   top <= (c.tk k).2 /\ (c.tk k).2 <= maxL /\ ∀ o,top * sz <= o -> ¬ c.Im b o
 | .dU sh es=>∃ ents clock,c.w.heap[c.ρ k]? = some (.map ents clock) /\ Dw c es ents.toList /\ OU sh es /\ (∀ e ∈ ents.toList,e.born < clock) /\ ents.toList.Pairwise fun a b=>a.key ≠ b.key
 | .iT sz l=>((c.tk k).1 = none /\ (c.tk k).2 = 0 /\ l = []) \/ ∃ b cs ty,(c.tk k).1 = some ⟨b,0,none⟩ /\ c.w.heap[b]? = some (.cells cs.toArray ty) /\ cs.length = (c.tk k).2 * sz /\
   l.length <= (c.tk k).2 /\ (c.tk k).2 <= maxL /\ LH c sz l cs /\ ∀ o,¬ c.Im b o
 | .gone=>True

def aQ (c : Cx) (x : Nat × HO) : Option Nat :=
 match x.2 with
 | .tok _ top=>if (c.tk x.1).2 = top then none else (c.tk x.1).1.map (·.block)
 | .iT _ _=>(c.tk x.1).1.map (·.block)
 | .gone=>none
 | _=>some (c.ρ x.1)

def ay : Heap -> Prop
 | []=>True
 | (i,_) :: H=>(∀ x ∈ H,x.1 < i) /\ ay H

structure HR (c : Cx) (H : Heap) : Prop where
 nx : c.nx = nextId H
 tp : c.tp = dD H
 ids : ay H
 im : ∀ b o,c.Im b o -> b < c.w.heap.size
 ok : ∀ x ∈ H,x.2.Ok c x.1
 apart : H.Pairwise fun x y=>∀ b : Nat,aQ c x = some b -> aQ c y ≠ some b

structure Tr (c : Cx) (H : Heap) (d : Cx) (H' : Heap) : Prop where
 hr : HR d H'
 le : c.Le d
 os : d.w.os = c.w.os
 tape : d.w.tape = c.w.tape
 output : d.w.output = c.w.output
 size : c.w.heap.size <= d.w.heap.size
 fr : ∀ b,b < c.w.heap.size -> (∀ x ∈ H,aQ c x ≠ some b) -> d.w.heap[b]? = c.w.heap[b]?
 own : ∀ y ∈ H',∀ b,aQ d y = some b -> c.w.heap.size <= b \/ ∃ x ∈ H,aQ c x = some b
 ZK : ∀ b o,d.Im b o -> c.Im b o \/ c.w.heap.size <= b \/ ∃ x ∈ H,aQ c x = some b

theorem Cx.Le.refl (c : Cx) : c.Le c:=⟨fun _ _ h=>⟨h,rfl⟩,Nat.le_refl _,fun _ _=>rfl,fun _ _ _ h=>.inl ⟨h,rfl⟩⟩

theorem Cx.Le.trans {a b c : Cx} (h : a.Le b) (g : b.Le c) : a.Le c:=by
 refine ⟨fun x o hx=>?_,Nat.le_trans h.nx g.nx,fun k hk=>?_,fun k n hk hn=>?_⟩
 ·have h1:=h.im x o hx
  have h2:=g.im x o h1.1
  exact ⟨h2.1,h2.2.trans h1.2⟩
 ·exact (g.ρ k (Nat.lt_of_lt_of_le hk h.nx)).trans (h.ρ k hk)
 ·rcases g.tk k n (Nat.lt_of_lt_of_le hk h.nx) hn with ⟨h1,h2⟩ | ⟨m,h1,h2⟩
  ·rcases h.tk k n hk h1 with ⟨h3,h4⟩ | h3
   ·exact .inl ⟨h3,h2.trans h4⟩
   ·exact .inr h3
  ·rcases h.tk k m hk h1 with ⟨h3,h4⟩ | ⟨m',h3,h4⟩
   ·exact .inr ⟨m,h3,h2⟩
   ·exact .inr ⟨m',h3,by omega⟩

theorem Tr.refl {c : Cx} {H : Heap} (h : HR c H) : Tr c H c H :=
 ⟨h,.refl c,rfl,rfl,rfl,Nat.le_refl _,fun _ _ _=>rfl,fun y hy _ hb=>.inr ⟨y,hy,hb⟩,fun _ _ h=>.inl h⟩

theorem Tr.trans {a b c : Cx} {H H' QN : Heap} (h : Tr a H b H') (g : Tr b H' c QN) : Tr a H c QN:=by
 refine ⟨g.hr,h.le.trans g.le,g.os.trans h.os,g.tape.trans h.tape,g.output.trans h.output,Nat.le_trans h.size g.size,fun x hx hn=>?_,fun y hy x hx=>?_,fun x o hx=>?_⟩
 ·rw [g.fr x (Nat.lt_of_lt_of_le hx h.size) ?_,h.fr x hx hn]
  intro y hy hb
  rcases h.own y hy x hb with h1 | ⟨z,h1,h2⟩
  ·omega
  ·exact hn z h1 h2
 ·rcases g.own y hy x hx with h1 | ⟨z,h1,h2⟩
  ·exact .inl (Nat.le_trans h.size h1)
  ·exact h.own z h1 x h2
 ·rcases g.ZK x o hx with h1 | h1 | ⟨z,h1,h2⟩
  ·exact h.ZK x o h1
  ·exact .inr (.inl (Nat.le_trans h.size h1))
  ·exact .inr (h.own z h1 x h2)

theorem gU {i n : Nat} (h : Nat.beq i n = false) : i ≠ n:=by
 intro e; subst e; simp at h

theorem gZ : ∀ {H : Heap} {n : Nat} {o : HO},hget H n = some o -> (n,o) ∈ H
 | [],_,_,h=>by simp [hget] at h
 | (i,x) :: H,n,o,h=>by
   simp only [hget] at h
   cases hb : Nat.beq i n with
   | true =>
     rw [hb] at h
     obtain rfl:=Nat.eq_of_beq_eq_true hb
     simp at h; subst h; simp
   | false=>rw [hb] at h; exact List.mem_cons_of_mem _ (gZ h)

theorem mY : ∀ {H : Heap} {n : Nat} {o : HO},ay H -> (n,o) ∈ H -> hget H n = some o
 | [],_,_,_,h=>by simp at h
 | (i,x) :: H,n,o,hi,h=>by
   simp only [ay] at hi
   simp only [hget]
   rcases List.mem_cons.1 h with h | h
   ·simp at h; obtain ⟨rfl,rfl⟩:=h; simp
   ·have:=hi.1 _ h
    have hb : Nat.beq i n = false:=by
     cases hb : Nat.beq i n with
     | false=>rfl
     | true=>have:=Nat.eq_of_beq_eq_true hb; simp at *; omega
    rw [hb]; exact mY hi.2 h

theorem bH : ∀ {H : Heap},ay H -> ∀ x ∈ H,x.1 < nextId H
 | [],_,x,h=>by simp at h
 | (i,y) :: H,hi,x,h=>by
   simp only [ay] at hi
   simp only [nextId]
   rcases List.mem_cons.1 h with h | h
   ·subst h; exact Nat.lt_succ_self _
   ·have:=hi.1 _ h; omega

theorem HR.tJ {c : Cx} {H : Heap} (h : HR c H) {k : Nat} {o : HO} (hk : hget H k = some o) : o.Ok c k:=h.ok _ (gZ hk)

end Go.AL

namespace Go.AL

inductive TD where
 | aS | bool | int (k : IntKind) | str | slice (e : Nat) | struct (fs : List (Nat × Nat × Nat)) | arr (n e : Nat) | map (k e : Nat) | iface | ptr (e : Nat) | other
 deriving Inhabited

structure TI where
 desc : TD
 bytes : Nat
 zero : AV
 key : Option AV:=none
 cmp : Bool:=false
 deriving Inhabited

inductive Lay where
 | nil
 | node (l : Lay) (t : Nat) (i : TI) (r : Lay)

def Lay.bM : Lay -> Nat -> (TI -> Prop) -> Prop
 | .nil,_,_=>False
 | .node l t i r,n,k=>match Nat.beq n t with
   | true=>k i
   | false=>match Nat.ble n t with
     | true=>l.bM n k
     | false=>r.bM n k

def descOf (P : Program) : TypeDesc -> TD
 | .bool=>.bool
 | .int k=>.int k
 | .string=>.str
 | .slice e=>.slice e
 | .struct fs=>.struct (fs.toList.map fun f=>(f.offset,P.cellsOf f.type,f.type))
 | .array n e=>.arr n e
 | .map k e=>.map k e
 | .interface _=>.iface
 | .pointer e=>.ptr e
 | .func ..=>.aS
 | _=>.other

def Xk : TD -> Bool
 | .struct _ | .arr _ _=>true
 | _=>false

def vG (n : Nat) : List AV -> List (Nat × Nat)
 | []=>[]
 | x :: l=>(n,flat x) :: vG (n + flat x) l

structure Tc (P : Program) (k : Nat) (sh : AV) : Prop where
 law : Go.Maps.Keyed P k
 rd : ∀ w Im A v,au sh A = true -> eH A v -> Rd w Im A v.cells.toList -> ∃ l,keyOf P k v = some l

def jF : AV -> AV -> Bool
 | .int k _,.int k' _=>qA k k'
 | .str _,.str _=>true
 | .ff,.tt | .ff,.ff | .ff,.bool _ | .ff,.dec _=>true
 | _,_=>false
def gY : List AV -> List AV -> Bool
 | [],[]=>true
 | x :: l,y :: m=>match jF x y with | true=>gY l m | false=>false
 | _,_=>false

def ZI : AV -> Prop
 | .tt=>True
 | .bool b=>b = true
 | .dec p=>p
 | _=>False

def eqP : AV -> AV -> Prop
 | .int _ a,.int _ b=>a = b
 | .str a,.str b=>a = b
 | A,B=>(ZI A ↔ ZI B)
def NS : List AV -> List AV -> Prop
 | [],[]=>True
 | x :: l,y :: m=>eqP x y /\ NS l m
 | _,_=>False

structure EqOk (P : Program) (t : Nat) (zs : List AV) : Prop where
 run : ∀ w Im l m cs ds,gY zs l = true -> gY zs m = true -> lN w Im l cs.toList -> lN w Im m ds.toList -> ∃ r,(Op.equal t (.agg cs) (.agg ds)).run P w = .ok r w /\ (r = true ↔ cs = ds)
 grd : P.eqGuardType P.depth t = false

structure pY (P : Program) (t : Nat) (i : TI) : Prop where
 cmpd : i.cmp = true -> ∀ zs,i.zero = .ag zs -> EqOk P t zs
 keyed : ∀ k e sh,i.desc = .map k e -> i.key = some sh -> Tc P k sh
 info : ∃ x v,P.info? t = some x /\ x.size = flat i.zero /\ x.bytes = i.bytes /\ x.zero = some v /\ eH i.zero v /\ ∀ w Im,Rd w Im i.zero v.cells.toList
 desc : (P.underlying t).map (descOf P) = some i.desc
 agg : Xk i.desc = dH i.zero
 flds : ∀ fs,i.desc = .struct fs -> ∃ zs,i.zero = .ag zs /\ fs.map (fun f=>(f.1,f.2.1)) = vG 0 zs
 inf : ∀ fs,i.desc = .struct fs -> ∀ f ∈ fs,∃ x,P.info? f.2.2 = some x

def dR (P : Program) : Lay -> Prop
 | .nil=>True
 | .node l t i r=>pY P t i /\ dR P l /\ dR P r

theorem Lay.bn {P : Program} {k : TI -> Prop} : ∀ {L : Lay} {t : Nat},dR P L -> L.bM t k -> ∃ i,pY P t i /\ k i
 | .nil,_,_,h=>h.elim
 | .node l t' i r,t,hL,h=>by
   simp only [Lay.bM] at h
   cases hb : Nat.beq t t' with
   | true=>rw [hb] at h; obtain rfl:=Nat.eq_of_beq_eq_true hb; exact ⟨i,hL.1,h⟩
   | false =>
     rw [hb] at h
     cases hc : Nat.ble t t' with
     | true=>rw [hc] at h; exact Lay.bn hL.2.1 h
     | false=>rw [hc] at h; exact Lay.bn hL.2.2 h

def Gq (v : Value) (k : AV -> Prop) : Prop :=
 match v with
 | .bool true=>k .tt
 | .bool false=>k .ff
 | .int kd n=>k (.int kd n)
 | .string s=>k (.str s.data.toList)
 | .slice none 0 0=>k .aG
 | .nilIface=>k .dN
 | .pointer none=>k .gK
 | .map none=>k .iQ
 | .nilFunc=>k .aH
 | _=>False

def bV (e : Env) (x : Operand) (k : AV -> Prop) : Prop :=
 match x with
 | .tmp t=>yc e t k
 | .const v=>Gq v k
 | .func f=>k (.fn f [])
 | .global _=>False

def pR (e : Env) : List Operand -> (List AV -> Prop) -> Prop
 | [],k=>k []
 | x :: l,k=>bV e x fun A=>pR e l fun As=>k (A :: As)

def qw {α : Type} : List α -> Nat -> (α -> Prop) -> Prop
 | [],_,_=>False
 | x :: _,0,k=>k x
 | _ :: l,n + 1,k=>qw l n k

def jr : List AV -> Nat -> AV -> (List AV -> Prop) -> Prop
 | [],_,_,_=>False
 | _ :: l,0,y,k=>k (y :: l)
 | x :: l,n + 1,y,k=>jr l n y fun l'=>k (x :: l')

def IW : List Nat -> Nat -> (List Nat -> Prop) -> Prop
 | [],x,k=>k [x]
 | y :: l,x,k=>IW l x fun l'=>k (y :: l')

def OC : List AV -> List AV -> (List AV -> Prop) -> Prop
 | [],m,k=>k m
 | x :: l,m,k=>OC l m fun l'=>k (x :: l')

def vM : AV -> List Nat -> (AV -> Prop) -> Prop
 | A,[],k=>k A
 | .ag l,i :: p,k=>qw l i fun x=>vM x p k
 | _,_ :: _,_=>False

def zl : AV -> List Nat -> AV -> (AV -> Prop) -> Prop
 | _,[],y,k=>k y
 | .ag l,i :: p,y,k=>qw l i fun x=>zl x p y fun x'=>jr l i x' fun l'=>k (.ag l')
 | _,_ :: _,_,_=>False

def Fe : AV -> List Nat -> Nat
 | .ag l,i :: p=>iJ (l.take i) + (match l[i]? with | some x=>Fe x p | none=>0)
 | _,_=>0

def isVal : AV -> Bool
 | .dV _ | .und=>false
 | _=>true

def ED (A : AV) (k : Prop) : Prop:=match isVal A with | true=>k | false=>False

def CP : List AV -> Prop -> Prop
 | [],k=>k
 | A :: l,k=>ED A (CP l k)

def yO (L : Lay) (t : Nat) (x : AV) (k : Prop) : Prop :=
 ED x <| L.bM t fun i=>match Nat.beq (flat x) (flat i.zero) with
  | false=>False
  | true=>match dH x,dH i.zero with
    | true,true=>k
    | false,false=>k
    | _,_=>False

def kJ (a b : Nat) (k : Prop) : Prop:=match Nat.beq a b with | true=>k | false=>False
def Cc (a b : Nat) (k : Prop) : Prop:=match Nat.ble a b with | true=>k | false=>False

def br (A : AV) (kt kf : Prop) : Prop :=
 match A with
 | .tt=>kt
 | .ff=>kf
 | .bool b=>(b = true -> kt) /\ (b = false -> kf)
 | .dec p=>(p -> kt) /\ (¬ p -> kf)
 | _=>False

def arith (kd : IntKind) (z : Int) (k : AV -> Prop) : Prop :=
 match kd with
 | .i64=>uX .i64 z /\ k (.int .i64 z)
 | kd=>k (.int kd (kd.wrap z))

def jD (op : BinOp) (k : IntKind) (x y : Int) : Int :=
 match op with
 | .and=>k.wrap (BitVec.ofInt k.bits x &&& BitVec.ofInt k.bits y).toNat
 | .or=>k.wrap (BitVec.ofInt k.bits x ||| BitVec.ofInt k.bits y).toNat
 | .xor=>k.wrap (BitVec.ofInt k.bits x ^^^ BitVec.ofInt k.bits y).toNat
 | _=>k.wrap (BitVec.ofInt k.bits x &&& ~~~ (BitVec.ofInt k.bits y)).toNat

def EO (k : IntKind) (x y : Int) : Int:=k.wrap (x * 2 ^ min y.toNat k.bits)
def uT (k : IntKind) (x y : Int) : Int:=x.fdiv (2 ^ min y.toNat k.bits)

def uU : AV -> (AV -> Prop) -> Prop
 | .tt,k=>k .ff
 | .ff,k=>k .tt
 | .bool b,k=>k (.bool (!b))
 | .dec p,k=>k (.dec (¬ p))
 | _,_=>False

def GN (x : AV) (k : AV -> Prop) : Prop :=
 match x with
 | .tt=>k .tt | .ff=>k .ff | .bool b=>k (.bool b) | .dec p=>k (.dec p) | _=>False

def ZV (A B : AV) (k : AV -> Prop) : Prop :=
 match A,B with
 | .tt,x=>GN x k
 | x,.tt=>GN x k
 | .ff,x=>uU x k
 | x,.ff=>uU x k
 | .bool a,.bool b=>k (.dec (a = b))
 | .dec p,.dec q=>k (.dec (p ↔ q))
 | .dec p,.bool b=>k (.dec (p ↔ b = true))
 | .bool b,.dec p=>k (.dec (b = true ↔ p))
 | _,_=>False

def CX (A B : AV) (k : AV -> Prop) : Prop :=
 match A,B with
 | .dN,.dN=>k .tt
 | .dN,.jm _ _=>k .ff
 | .jm _ _,.dN=>k .ff
 | _,_=>False

def vH (A B : AV) (k : AV -> Prop) : Prop :=
 match A,B with
 | .gK,.gK=>k .tt
 | .cp _,.gK=>k .ff
 | .ptr _ _ _,.gK=>k .ff
 | _,_=>False

def YD (d : TD) (op : BinOp) (hc : Bool) (A B : AV) (k : AV -> Prop) : Prop :=
 match d,op with
 | .bool,.eql=>ZV A B k
 | .bool,.neq=>ZV A B fun R=>uU R k
 | .iface,.eql=>(match hc with | true=>CX A B k | false=>False)
 | .iface,.neq=>(match hc with | true=>CX A B fun R=>uU R k | false=>False)
 | .ptr _,.eql=>vH A B k
 | .ptr _,.neq=>vH A B fun R=>uU R k
 | _,_=>False

def CB (d : TD) (op : BinOp) (hc : Bool) (A B : AV) (k : AV -> Prop) : Prop :=
 match A,B with
 | .int ka a,.int kb b =>
   (match op with
   | .shl=>0 <= b /\ k (.int ka (EO ka a b))
   | .shr=>0 <= b /\ k (.int ka (uT ka a b))
   | op=>match qA ka kb with
     | false=>False
     | true=>match op with
       | .add=>arith ka (a + b) k
       | .sub=>arith ka (a - b) k
       | .mul=>arith ka (a * b) k
       | .quo=>b ≠ 0 /\ arith ka (a.tdiv b) k
       | .rem=>b ≠ 0 /\ k (.int ka (a.tmod b))
       | .eql=>k (.dec (a = b))
       | .neq=>k (.dec (a ≠ b))
       | .lss=>k (.dec (a < b))
       | .leq=>k (.dec (a <= b))
       | .gtr=>k (.dec (b < a))
       | .geq=>k (.dec (b <= a))
       | op=>k (.int ka (jD op ka a b)))
 | .str a,.str b =>
   (match op with
   | .add=>a.length + b.length <= maxL /\ k (.str (a ++ b))
   | .eql=>k (.dec (a = b))
   | .neq=>k (.dec (a ≠ b))
   | .lss=>k (.bool (Op.bytesLess a b))
   | _=>False)
 | A,B=>YD d op hc A B k

def OG (i : TI) (op : BinOp) (A B : AV) (k : AV -> Prop) : Prop :=
 match i.cmp,i.zero,A,B with
 | true,.ag zs,.ag l,.ag m=>match gY zs l,gY zs m with
   | true,true=>(match op with
     | .eql=>k (.dec (NS l m))
     | .neq=>k (.dec (¬ NS l m))
     | _=>False)
   | _,_=>False
 | _,_,_,_=>False

structure dh {α : Type} (l : List α) (n : Int) (k : α -> Prop) : Prop where
 ex : ∃ x,(0 <= n /\ l[n.toNat]? = some x) /\ k x

structure OX {α : Type} (l : List α) (lo hi : Int) (k : List α -> Prop) : Prop where
 ex : (0 <= lo /\ lo <= hi /\ hi <= (l.length : Int)) /\ k ((l.drop lo.toNat).take (hi.toNat - lo.toNat))

inductive bU (e n : Nat) (sz : Nat) (z : AV) (H : Heap) (k : AV -> Heap -> Prop) : Prop where
 | pure (h : n = e /\ k (.sl sz (List.replicate n z) .full) H)
 | wr (h : k (.ms (nextId H) 0 n e sz) ((nextId H,.arr sz e (List.replicate n z)) :: H))

def xX (A : AV) (k : AV -> Prop) : Prop:=match nV A with | true=>k (strip A) | false=>False

def zh (H : Heap) (sz : Nat) (B : AV) (k : List AV -> Prop) : Prop :=
 match B with
 | .aG=>k []
 | .sl sz' m _=>kJ sz' sz (k m)
 | .ms j off len _ sz'=>iI H j fun o=>match o with
   | .arr VW _ l=>kJ sz' sz (kJ VW sz (off + len <= l.length /\ k ((l.drop off).take len)))
   | _=>False
 | .str s=>kJ sz 1 (k (s.map fun b=>.int .u8 b.toNat))
 | _=>False

structure fE (sz bytes : Nat) (l m : List AV) (k : Prop) : Prop where
 len : l.length + m.length <= maxL
 room : (l.length + m.length) * bytes <= 140737488355328
 next : k

inductive yx (sz bytes : Nat) (l m : List AV) (H : Heap) (k : AV -> Heap -> Prop) : Prop where
 | tok (len : l.length + m.length <= maxL) (room : (l.length + m.length) * bytes <= 140737488355328) (next : o9 H (.tok sz (l.length + m.length)) fun j H'=>k (.sl sz (l ++ m) (.own j)) H')
 | pure (len : l.length + m.length <= maxL) (room : (l.length + m.length) * bytes <= 140737488355328) (next : k (.sl sz (l ++ m) .no) H)

inductive Y1 (sz bytes : Nat) (l m : List AV) (H : Heap) (k : AV -> Heap -> Prop) : Prop where
 | tok (len : l.length + m.length <= maxL) (room : (l.length + m.length) * bytes <= 140737488355328) (next : o9 H (.tok sz (l.length + m.length)) fun j H'=>k (.sl sz (l ++ m) (.own j)) H')
 | pure (len : l.length + m.length <= maxL) (room : (l.length + m.length) * bytes <= 140737488355328) (next : k (.sl sz (l ++ m) .no) H)
 | wr (ne : m ≠ []) (len : l.length + m.length <= maxL) (room : (l.length + m.length) * bytes <= 140737488355328)
   (next : ∀ cp,l.length + m.length <= cp -> cp <= maxL -> k (.ms (nextId H) 0 (l.length + m.length) cp sz) ((nextId H,.arr sz cp (l ++ m)) :: H))

mutual
def qY : AV -> AV -> Prop
 | .tt,.bool b=>b = true
 | .tt,.dec p=>p
 | .ff,.bool b=>b = false
 | .ff,.dec p=>¬ p
 | .bool a,.bool b=>a = b
 | .bool a,.dec p=>(a = true ↔ p)
 | .bool a,.tt=>a = true
 | .bool a,.ff=>a = false
 | .dec p,.bool b=>(p ↔ b = true)
 | .dec p,.dec q=>(p ↔ q)
 | .dec p,.tt=>p
 | .dec p,.ff=>¬ p
 | .int k a,.int k' b=>k = k' /\ a = b
 | .str a,.str b=>a = b
 | .aG,.sl _ l .no=>l = []
 | .sl s l .no,.sl s' l' .no=>s = s' /\ bW l l'
 | .ag l,.ag m=>bW l m
 | .jm t x,.jm t' y=>t = t' /\ qY x y
 | A,B=>A = B
def bW : List AV -> List AV -> Prop
 | [],[]=>True
 | x :: l,y :: m=>qY x y /\ bW l m
 | _,_=>False
end

mutual
def le0 : AV -> AV -> Prop
 | .tt,.bool b=>b = true
 | .tt,.dec p=>p
 | .ff,.bool b=>b = false
 | .ff,.dec p=>¬ p
 | .bool a,.bool b=>a = b
 | .bool a,.dec p=>(a = true ↔ p)
 | .bool a,.tt=>a = true
 | .bool a,.ff=>a = false
 | .dec p,.bool b=>(p ↔ b = true)
 | .dec p,.dec q=>(p ↔ q)
 | .dec p,.tt=>p
 | .dec p,.ff=>¬ p
 | .int k a,.int k' b=>k = k' /\ a = b
 | .str a,.str b=>a = b
 | .aG,.sl _ l .no=>l = []
 | .aG,.sl _ l .full=>l = []
 | .sl s l _,.sl s' l' .no=>s = s' /\ bW l l'
 | .sl s l .full,.sl s' l' .full=>s = s' /\ bW l l'
 | .sl s l (.own k),.sl s' l' (.own k')=>s = s' /\ bW l l' /\ k = k'
 | .jm t x,.jm t' y=>t = t' /\ le0 x y
 | .ag l,.ag m=>Iu l m
 | A,B=>A = B
def Iu : List AV -> List AV -> Prop
 | [],[]=>True
 | x :: l,y :: m=>le0 x y /\ Iu l m
 | _,_=>False
end

def le (A B : AV) : Prop:=match A,B with | _,.und=>True | .dV l,.dV m=>Iu l m | A,B=>le0 A B

mutual
def dO (n : Nat) : AV -> Bool
 | .ptr k _ _=>Nat.blt k n
 | .ms k _ _ _ _=>Nat.blt k n
 | .mp k=>Nat.blt k n
 | .gs k _=>Nat.blt k n
 | .bm _ k=>Nat.blt k n
 | .sl _ _ (.own k)=>Nat.blt k n
 | .fn _ cap=>iK n cap
 | .ag l=>iK n l
 | .dV l=>iK n l
 | .jm _ x=>dO n x
 | _=>true
def iK (n : Nat) : List AV -> Bool
 | []=>true
 | x :: l=>match dO n x with | true=>iK n l | false=>false
end

inductive JV (F : Nat -> List AV -> Heap -> AV -> Heap -> Prop) (kD : AV -> Prop) (f : Nat) (args : List AV) (H : Heap) (k : AV -> Heap -> Prop) : Prop where
 | gen (R : AV) (H' : Heap) (h : F f args H R H') (h' : kD R -> k R H')
 | pure (Bs : List AV) (R : AV) (hle : Iu args Bs) (hb : iK 0 Bs = true /\ dO 0 R = true) (h : F f Bs [] R []) (h' : kD R -> k R H)

def jA : Operand -> Bool
 | .const _=>true
 | _=>false

mutual
def Ik : AV -> List Value
 | .int k n=>[.int k n]
 | .str s=>[.string ⟨s.toArray⟩]
 | .ag l=>ZH l
 | _=>[]
def ZH : List AV -> List Value
 | []=>[]
 | x :: l=>Ik x ++ ZH l
end

def LookR (es : List (AV × AV)) (K : AV) : Option AV -> Prop
 | none=>∀ x ∈ es,Ik x.1 ≠ Ik K
 | some v=>∃ x ∈ es,Ik x.1 = Ik K /\ x.2 = v

structure wK (es : List (AV × AV)) (K : AV) (k : Option AV -> Prop) : Prop where
 ex : ∃ r,LookR es K r /\ k r

def UpdR (es : List (AV × AV)) (K V : AV) (es' : List (AV × AV)) : Prop :=
 ((∀ x ∈ es,Ik x.1 ≠ Ik K) /\ es' = es ++ [(K,V)]) \/ ∃ j x,es[j]? = some x /\ Ik x.1 = Ik K /\ es' = es.set j (K,V)

structure Vs (es : List (AV × AV)) (K V : AV) (k : List (AV × AV) -> Prop) : Prop where
 ex : ∃ es',UpdR es K V es' /\ k es'

def Np (b : Bool) (k : Prop) : Prop:=match b with | true=>k | false=>False

def uP (ok : Bool) (z : AV) (r : Option AV) (k : AV -> Prop) : Prop :=
 match ok,r with
 | true,some v=>k (.dV [v,.tt])
 | true,none=>k (.dV [z,.ff])
 | false,some v=>k v
 | false,none=>k z

def Lr (z : AV) (s : Nat) (A : AV) (ok : Bool) (k : AV -> Prop) : Prop :=
 match A,ok with
 | .dN,true=>k (.dV [z,.ff])
 | .jm t y,true=>(match Nat.beq t s with | true=>k (.dV [y,.tt]) | false=>k (.dV [z,.ff]))
 | .jm t y,false=>(match Nat.beq t s with | true=>k y | false=>False)
 | _,_=>False

def Vf (op : BinOp) (A : AV) (k : AV -> Prop) : Prop :=
 match op,A with
 | .eql,.aG=>k .tt
 | .neq,.aG=>k .ff
 | .eql,.ms _ _ _ _ _=>k .ff
 | .neq,.ms _ _ _ _ _=>k .tt
 | .eql,.sl _ l _=>∀ b : Bool,(b = true -> l = []) -> k (.bool b)
 | .neq,.sl _ l _=>∀ b : Bool,(b = false -> l = []) -> k (.bool b)
 | _,_=>False

def ou : Op -> Bool
 | .binOp _ _ _ (.const (.slice none 0 0)) _=>true
 | _=>false

def noNil (op : Op) (k : Prop) : Prop:=match ou op with | true=>False | false=>k

def iU (e : Env) : List (Nat × Operand) -> List AV -> (List AV -> Prop) -> Prop
 | [],zs,k=>k zs
 | (i,x) :: ps,zs,k=>bV e x fun A=>ED A <| qw zs i fun z=>kJ (flat A) (flat z) (match dH A,dH z with
   | true,true=>jr zs i A fun zs'=>iU e ps zs' k
   | false,false=>jr zs i A fun zs'=>iU e ps zs' k
   | _,_=>False)

def Af : List AV -> Bool
 | []=>true
 | x :: l=>match Nat.beq (flat x) 1 with | true=>Af l | false=>false

def ji (e : Env) : List (Nat × Operand) -> List AV -> (List AV -> Prop) -> Prop
 | [],zs,k=>k zs
 | (i,x) :: ps,zs,k=>bV e x fun A=>qw zs i fun z=>kJ (flat A) (flat z) (match dH A,dH z with
   | true,true=>xX A fun B=>jr zs i B fun zs'=>ji e ps zs' k
   | false,false=>xX A fun B=>jr zs i B fun zs'=>ji e ps zs' k
   | _,_=>False)

def J5 (z : AV) : Nat -> (List AV -> Prop) -> Prop
 | 0,k=>k []
 | n + 1,k=>J5 z n fun l=>k (z :: l)

section
variable (F : Nat -> List AV -> Heap -> AV -> Heap -> Prop) (kD : AV -> Prop) (L : Lay)

def jE (t : Nat) (A : AV) (H : Heap) (k : AV -> Prop) : Prop :=
 match A with
 | .cp x=>yO L t x (k x)
 | .ptr i p off=>iI H i fun o=>match o with
   | .box A=>vM A p fun x=>kJ (Fe A p) off (yO L t x (k x))
   | .arr sz _ l=>(match p with
     | [j]=>dh l (j : Int) fun x=>off = j * sz /\ yO L t x (k x)
     | j :: q=>dh l (j : Int) fun x=>vM x q fun y=>off = j * sz + Fe x q /\ yO L t y (k y)
     | _=>False)
   | _=>False
 | _=>False

def G6 (t : Nat) (A B : AV) (H : Heap) (k : Heap -> Prop) : Prop :=
 match A with
 | .ptr i p off=>iI H i fun o=>match o with
   | .box A=>vM A p fun x=>kJ (Fe A p) off (yO L t B (kJ (flat x) (flat B) (zl A p B fun A'=>uQ H i (.box A') k)))
   | .arr sz cap l=>(match p with
     | [j]=>xX B fun B'=>kJ (flat B) sz (yO L t B (j < l.length /\ off = j * sz /\ uQ H i (.arr sz cap (l.set j B')) k))
     | j :: q=>dh l (j : Int) fun x=>vM x q fun y=>off = j * sz + Fe x q /\ yO L t B (kJ (flat y) (flat B) (zl x q B fun A'=>xX A' fun A''=>uQ H i (.arr sz cap (l.set j A'')) k))
     | _=>False)
   | _=>False
 | _=>False

def AP (t : Nat) (A K V : AV) (H : Heap) (ks : Heap -> Prop) : Prop :=
 L.bM t fun i=>(match i.desc,i.key with
  | .map _ et,some sh=>Np (au sh K) <| yO L et V <| (match A with
    | .mp j=>iI H j fun o=>(match o with
      | .dU sh' es=>Np (au sh' sh) <| Vs es K V fun es'=>uQ H j (.dU sh' es') ks
      | _=>False)
    | _=>False)
  | _,_=>False)

def Cj (t : Nat) (A : AV) (f : Nat) (k : AV -> Prop) : Prop :=
 L.bM t fun i=>match i.desc,i.zero with
  | .struct _,.ag zs=>(match A with
    | .cp (.ag l)=>kJ (iJ (l.take f)) (iJ (zs.take f)) (qw zs f fun z=>(match flat z with
      | 0=>False
      | _ + 1=>qw l f fun x=>k (.cp x)))
    | .ptr j p off=>qw zs f fun z=>(match flat z with
      | 0=>False
      | _ + 1=>IW p f fun p'=>k (.ptr j p' (off + iJ (zs.take f))))
    | _=>False)
  | _,_=>False

def LC (t : Nat) (A : AV) (f : Nat) (k : AV -> Prop) : Prop :=
 L.bM t fun i=>match i.desc,i.zero,A with
  | .struct fs,.ag zs,.ag l=>qw zs f fun _=>qw fs f fun fd=>L.bM fd.2.2 fun j=>(match dH j.zero with
    | false=>kJ (iJ (l.take f)) (iJ (zs.take f)) (qw l f fun y=>(match dH y with | false=>k y | true=>False))
    | true=>False)
  | _,_,_=>False

def mG (t : Nat) (A I : AV) (k : AV -> Prop) : Prop :=
 match I with
 | .int _ n=>L.bM t fun i=>(match i.desc,A with
   | .slice e,.sl sz l _=>L.bM e fun ei=>kJ sz (flat ei.zero) (dh l n fun x=>k (.cp x))
   | .slice e,.ms j off len _ sz=>L.bM e fun ei=>kJ sz (flat ei.zero) ((0 <= n /\ n < (len : Int)) /\ k (.ptr j [off + n.toNat] ((off + n.toNat) * sz)))
   | .arr m e,.ptr j p off=>L.bM e fun ei=>(0 <= n /\ n < (m : Int)) /\ IW p n.toNat fun p'=>k (.ptr j p' (off + n.toNat * flat ei.zero))
   | _,_=>False)
 | _=>False

def Ci (t : Nat) (A I : AV) (k : AV -> Prop) : Prop :=
 match A,I with
 | .str s,.int _ n=>L.bM t fun i=>(match i.desc with
   | .str=>dh s n fun b=>k (.int .u8 b.toNat)
   | _=>False)
 | _,_=>False

def yP (e : Env) (x : Option Operand) (d : Int) (k : Int -> Prop) : Prop :=
 match x with
 | none=>k d
 | some x=>bV e x fun A=>match A with | .int _ n=>k n | _=>False

def aslice (t : Nat) (e : Env) (A : AV) (lo hi : Option Operand) (k : AV -> Prop) : Prop :=
 L.bM t fun i=>match i.desc,A with
  | .str,.str s=>yP e lo 0 fun l=>yP e hi s.length fun h=>OX s l h fun s'=>k (.str s')
  | .slice el,.sl sz l _=>L.bM el fun ei=>kJ sz (flat ei.zero) (yP e lo 0 fun a=>yP e hi l.length fun b=>OX l a b fun l'=>k (.sl sz l' .no))
  | .slice el,.ms j off len cap sz=>L.bM el fun ei=>kJ sz (flat ei.zero) (yP e lo 0 fun a=>yP e hi len fun b =>
    (0 <= a /\ a <= b /\ b <= (len : Int)) /\ a < (cap : Int) /\ k (.ms j (off + a.toNat) (b.toNat - a.toNat) (cap - a.toNat) sz))
  | _,_=>False

def jJ (t : Nat) (A B : AV) (H : Heap) (k : AV -> Heap -> Prop) : Prop :=
 L.bM t fun i=>match i.desc with
  | .slice e=>L.bM e fun ei=>(match A with
    | .aG=>zh H (flat ei.zero) B fun m=>yx (flat ei.zero) ei.bytes [] m H k
    | .sl sz l .full=>kJ sz (flat ei.zero) (zh H sz B fun m=>yx sz ei.bytes l m H k)
    | .sl sz l (.own j)=>kJ sz (flat ei.zero) (zh H sz B fun m=>iI H j fun o=>match o with
      | .tok sz' top=>kJ sz' sz (top = l.length /\ fE sz ei.bytes l m (uQ H j (.tok sz (l.length + m.length)) fun H'=>k (.sl sz (l ++ m) (.own j)) H'))
      | _=>False)
    | _=>False)
  | _=>False

def wB (t : Nat) (A B : AV) (H : Heap) (k : AV -> Heap -> Prop) : Prop :=
 L.bM t fun i=>match i.desc with
  | .slice e=>L.bM e fun ei=>(match A with
    | .aG=>zh H (flat ei.zero) B fun m=>Y1 (flat ei.zero) ei.bytes [] m H k
    | .sl sz l .full=>kJ sz (flat ei.zero) (zh H sz B fun m=>Y1 sz ei.bytes l m H k)
    | .sl sz l (.own j)=>kJ sz (flat ei.zero) (zh H sz B fun m=>iI H j fun o=>match o with
      | .tok sz' top=>kJ sz' sz (top = l.length /\ fE sz ei.bytes l m (uQ H j (.tok sz (l.length + m.length)) fun H'=>k (.sl sz (l ++ m) (.own j)) H'))
      | _=>False)
    | .gs j len=>zh H (flat ei.zero) B fun m=>iI H j fun o=>match o with
      | .iT sz l=>kJ sz (flat ei.zero) (l.length = len /\ m ≠ [] /\ fE sz ei.bytes l m (uQ H j (.iT sz (l ++ m)) fun H'=>k (.gs j (len + m.length)) H'))
      | _=>False
    | _=>False)
  | _=>False

def Lu (d : TD) (A : AV) (_ : Heap) (k : AV -> Prop) : Prop :=
 match d,A with
 | .slice _,.aG=>k (.int .i64 0)
 | .slice _,.sl _ l _=>k (.int .i64 l.length)
 | .slice _,.ms _ _ len _ _=>k (.int .i64 len)
 | .str,.str s=>k (.int .i64 s.length)
 | .map _ _,.iQ=>k (.int .i64 0)
 | _,_=>False

def PL (A B : AV) (k : AV -> Prop) : Prop :=
 match A,B with
 | .int ka a,.int kb b=>(match qA ka kb with | true=>k (.int ka (max a b)) | false=>False)
 | _,_=>False
def DK (A B : AV) (k : AV -> Prop) : Prop :=
 match A,B with
 | .int ka a,.int kb b=>(match qA ka kb with | true=>k (.int ka (min a b)) | false=>False)
 | _,_=>False

def fZ (b : Builtin) (argTypes : List Nat) (args : List AV) (H : Heap) (k : AV -> Heap -> Prop) : Prop :=
 match b,argTypes,args with
 | .len,t :: _,[A]=>L.bM t fun i=>Lu i.desc A H fun R=>k R H
 | .append,t :: u :: _,[A,B]=>L.bM u fun i=>(match i.desc with
   | .slice _=>jJ L t A B H k
   | .str=>jJ L t A B H k
   | _=>False)
 | .max,_,[A,B]=>PL A B fun R=>k R H
 | .min,_,[A,B]=>DK A B fun R=>k R H
 | _,_,_=>False

def Cm (b : Builtin) (argTypes : List Nat) (args : List AV) (H : Heap) (k : AV -> Heap -> Prop) : Prop :=
 match b,argTypes,args with
 | .len,t :: _,[A]=>L.bM t fun i=>(match i.desc,A with
   | .map _ _,.mp j=>iI H j fun o=>(match o with
     | .dU _ es=>es.length <= 9223372036854775807 /\ k (.int .i64 es.length) H
     | _=>False)
   | d,A=>Lu d A H fun R=>k R H)
 | .append,t :: u :: _,[A,B]=>L.bM u fun i=>(match i.desc with
   | .slice _=>wB L t A B H k
   | .str=>wB L t A B H k
   | _=>False)
 | .max,_,[A,B]=>PL A B fun R=>k R H
 | .min,_,[A,B]=>DK A B fun R=>k R H
 | .min,_,[A,B,C]=>DK A B fun R=>DK R C fun R=>k R H
 | _,_,_=>False

def fV (op : Op) (e : Env) (H : Heap) (k : AV -> Heap -> Prop) (ks : Heap -> Prop) : Prop :=
 match op with
 | .move x=>bV e x fun A=>k A H
 | .assign x=>bV e x fun A=>k A H
 | .pick c a b=>bV e c fun C=>(match C with
   | .tt=>bV e a fun A=>k A H
   | .ff=>bV e b fun A=>k A H
   | .bool x=>(x = true -> bV e a fun A=>k A H) /\ (x = false -> bV e b fun A=>k A H)
   | .dec p=>(p -> bV e a fun A=>k A H) /\ (¬ p -> bV e b fun A=>k A H)
   | _=>False)
 | .alloc t=>L.bM t fun i=>o9 H (.box i.zero) fun j H'=>k (.ptr j [] 0) H'
 | .box t x=>bV e x fun A=>yO L t A (o9 H (.box A) fun j H'=>k (.ptr j [] 0) H')
 | .build t ps=>L.bM t fun i=>(match i.desc,i.zero with
   | .struct _,.ag zs=>iU e ps.toList zs fun l=>k (.ag l) H
   | .arr _ el,.ag zs=>L.bM el fun ei=>kJ (flat ei.zero) 1 (Np (Af zs) (iU e ps.toList zs fun l=>k (.ag l) H))
   | _,_=>False)
 | .buildSlice t n ps=>L.bM t fun i=>(match i.desc with
   | .slice el=>L.bM el fun ei=>Cc (n * flat ei.zero) 16777216 <| Cc n 16777216 <| J5 ei.zero n fun zs=>ji e ps.toList zs fun l=>k (.sl (flat ei.zero) l .full) H
   | _=>False)
 | .load t x=>bV e x fun A=>jE L t A H fun R=>k R H
 | .store t a x=>bV e a fun A=>bV e x fun B=>G6 L t A B H ks
 | .nilCheck x=>bV e x fun A=>(match A with
   | .ptr _ _ _=>k A H
   | .cp _=>k A H
   | .fn _ _=>k A H
   | _=>False)
 | .binOp op t x y ty=>(match ou (.binOp op t x y ty) with
   | true=>bV e x fun A=>L.bM t fun i=>(match i.desc with | .slice _=>Vf op A fun R=>k R H | _=>False)
   | false=>bV e x fun A=>bV e y fun B=>L.bM t fun i=>match dH A with
     | true=>OG i op A B fun R=>k R H
     | false=>CB i.desc op (jA x || jA y) A B fun R=>k R H)
 | .typeAssert x _ s ok=>bV e x fun A=>L.bM s fun i=>(match i.desc with
   | .iface=>False
   | _=>Lr i.zero s A ok fun R=>k R H)
 | .makeMap t r=>(match r with
   | none=>L.bM t fun i=>(match i.key with | some sh=>o9 H (.dU sh []) fun j H'=>k (.mp j) H' | none=>False)
   | some _=>False)
 | .lookup t x ix ok=>bV e x fun A=>bV e ix fun K=>L.bM t fun i=>(match i.desc,i.key with
   | .map _ et,some sh=>Np (au sh K) <| L.bM et fun ei=>(match A with
     | .mp j=>iI H j fun o=>(match o with
       | .dU sh' es=>Np (au sh' sh) <| wK es K fun r=>uP ok ei.zero r fun R=>k R H
       | _=>False)
     | _=>False)
   | _,_=>False)
 | .mapUpdate t x ix y=>bV e x fun A=>bV e ix fun K=>bV e y fun V=>AP L t A K V H ks
 | .unOp op _ x=>bV e x fun A=>(match op,A with
   | .not,A=>uU A fun R=>k R H
   | .neg,.int ka a=>arith ka (0 - a) fun R=>k R H
   | _,_=>False)
 | .convert s d x=>bV e x fun A=>L.bM s fun _=>L.bM d fun i=>(match i.desc,A with
   | .int kd,.int _ n=>k (.int kd (kd.wrap n)) H
   | .str,.str s=>k (.str s) H
   | _,_=>False)
 | .makeInterface t x=>bV e x fun A=>L.bM t fun i=>(match i.desc with
   | .iface=>False
   | _=>ED A (k (.jm t A) H))
 | .makeFunc f first cap=>(match f,first.toList with
   | .func g,[]=>pR e cap.toList fun As=>CP As (k (.fn g As) H)
   | _,_=>False)
 | .makeSlice t l c=>bV e l fun A=>bV e c fun B=>L.bM t fun i=>(match i.desc,A,B with
   | .slice el,.int _ n,.int _ m=>L.bM el fun ei=>(0 <= n /\ n <= m /\ m * (ei.bytes : Int) <= 281474976710656 /\ m <= 9223372036854775807) /\
     bU m.toNat n.toNat (flat ei.zero) ei.zero H k
   | _,_,_=>False)
 | .slice t x lo hi mx=>(match mx with
   | none=>bV e x fun A=>aslice L t e A lo hi fun R=>k R H
   | some _=>False)
 | .fieldAddr t x f=>bV e x fun A=>Cj L t A f fun R=>k R H
 | .indexAddr t x i=>bV e x fun A=>bV e i fun I=>mG L t A I fun R=>k R H
 | .index t x i=>bV e x fun A=>bV e i fun I=>Ci L t A I fun R=>k R H
 | .extract x i=>bV e x fun A=>(match A with
   | .dV l=>qw l i fun R=>k R H
   | _=>False)
 | .call c=>(match c.callee with
   | .value f=>bV e f fun A=>(match A with
     | .fn g cap=>pR e c.args.toList fun As=>OC As cap fun Bs=>JV F kD g Bs H k
     | _=>False)
   | .builtin b=>pR e c.args.toList fun As=>fZ L b c.argTypes.toList As H k
   | .invoke _ _=>False)
 | _=>False

def yR (op : Op) (e : Env) (H : Heap) (k : AV -> Heap -> Prop) (ks : Heap -> Prop) : Prop :=
 match op with
 | .call c=>(match c.callee with
   | .builtin b=>pR e c.args.toList fun As=>Cm L b c.argTypes.toList As H k
   | .value f=>bV e f fun A=>(match A with
     | .bm g j=>pR e c.args.toList fun As=>JV F kD g (.ptr j [] 0 :: As) H k
     | _=>fV F kD L (.call c) e H k ks)
   | _=>fV F kD L (.call c) e H k ks)
 | .makeFunc f first cap=>(match first.toList with
   | [x]=>(match f,cap.toList with
     | .func g,[]=>bV e x fun A=>(match A with
       | .ptr j [] 0=>k (.bm g j) H
       | _=>False)
     | _,_=>False)
   | _=>fV F kD L (.makeFunc f first cap) e H k ks)
 | .insert t x ix y=>bV e x fun A=>bV e ix fun K=>bV e y fun V=>AP L t A K V H ks
 | .field t x f=>bV e x fun A=>LC L t A f fun R=>k R H
 | op=>fV F kD L op e H k ks

end

inductive AX where
 | normal
 | exit (id : Nat)
 | ret

def eX : List Oper -> List Nat
 | []=>[]
 | o :: l=>match o.dst with | some d=>d :: eX l | none=>eX l

def writes : Code -> List Nat
 | .region _ ops _=>eX ops.toList
 | .seq a b=>writes a ++ writes b
 | .cond _ a b=>writes a ++ writes b
 | .block _ b=>writes b
 | .loop b=>writes b
 | .scope b=>writes b
 | .rangeFunc _ _ a b=>writes a ++ writes b
 | _=>[]

def Vx : List (AV × AV) -> List (AV × AV) -> Prop
 | [],[]=>True
 | (x,v) :: l,(y,u) :: m=>x = y /\ le0 v u /\ Vx l m
 | _,_=>False

def OZ : HO -> HO -> Prop
 | .box A,.box B=>le0 A B
 | .arr s c l,.arr s' c' l'=>s = s' /\ c = c' /\ bW l l'
 | .tok s n,.tok s' n'=>s = s' /\ n = n'
 | .dU s a,.dU s' b=>s = s' /\ Vx a b
 | .iT s l,.iT s' l'=>s = s' /\ bW l l'
 | _,.gone=>True
 | _,_=>False

def GR (n : Nat) : HO -> Bool
 | .box A=>dO n A
 | _=>true

def oH (n : Nat) : List (AV × AV) -> Bool
 | []=>true
 | (x,y) :: l=>match dO n x,dO n y with | true,true=>oH n l | _,_=>false

def SI (e : Env) (n : Nat) : Env -> Prop
 | []=>True
 | (t,A) :: E=>yc e t (fun A'=>le A' A /\ dO n A = true) /\ SI e n E

def WkH (H : Heap) (n : Nat) : Heap -> Prop
 | []=>True
 | (k,o) :: G=>iI H k (fun o'=>OZ o' o /\ (match o with | .dU _ es=>oH n es = true | o=>GR n o = true)) /\ WkH H n G

structure QM (H : Heap) (G : Heap) : Prop where
 get : WkH H (nextId G) G
 ids : ay G

inductive HWk (H : Heap) (G : Heap) : Prop where
 | refl (h : H = G)
 | mk (get : WkH H (nextId G) G) (ids : ay G)

inductive Cv : Env -> Heap -> Env -> Heap -> Prop where
 | refl (e : Env) (H : Heap) : Cv e H e H
 | grow {e : Env} {H : Heap} {e' : Env} {H' : Heap} (t sz : Nat) (l : List AV) (A : AV) (h : dQ e t = some A) (hA : (A = .aG /\ l = []) \/ A = .sl sz l .full)
   (h' : Cv ((t,.sl sz l (.own (nextId H))) :: e) ((nextId H,.tok sz l.length) :: H) e' H') : Cv e H e' H'
 | freeze {e : Env} {H : Heap} {e' : Env} {H' : Heap} (t j off len cap cp sz : Nat) (l : List AV) (h : dQ e t = some (.ms j off len cap sz)) (ho : hget H j = some (.arr sz cp l)) (hl : off + len <= l.length)
   (h' : Cv ((t,.sl sz ((l.drop off).take len) .no) :: e) (hset H j .gone) e' H') : Cv e H e' H'
 | keep {e : Env} {H : Heap} {e' : Env} {H' : Heap} (t j len cp sz : Nat) (l : List AV) (h : dQ e t = some (.ms j 0 len cp sz)) (ho : hget H j = some (.arr sz cp l)) (hl : len <= l.length)
   (h' : Cv ((t,.sl sz (l.take len) (.own (nextId H))) :: e) ((nextId H,.tok sz len) :: hset H j .gone) e' H') : Cv e H e' H'
 | Jp {e : Env} {H : Heap} {e' : Env} {H' : Heap} (j : Nat) (p : List Nat) (sz : Nat) (l : List AV) (A B A' : AV) (ho : hget H j = some (.box A)) (hp : vM A p (fun x=>x = B)) (hB : (B = .aG /\ l = []) \/ B = .sl sz l .full)
   (hs : zl A p (.sl sz l (.own (nextId H))) (fun x=>x = A')) (h' : Cv e (hset ((nextId H,.tok sz l.length) :: H) j (.box A')) e' H') : Cv e H e' H'
 | growW {e : Env} {H : Heap} {e' : Env} {H' : Heap} (t sz : Nat) (h : dQ e t = some .aG)
   (h' : Cv ((t,.gs (nextId H) 0) :: e) ((nextId H,.iT sz []) :: H) e' H') : Cv e H e' H'
 | KQ {e : Env} {H : Heap} {e' : Env} {H' : Heap} (t j sz : Nat) (l : List AV) (h : dQ e t = some (.gs j l.length)) (ho : hget H j = some (.iT sz l)) (hl : l.length <= maxL)
   (h' : Cv ((t,.sl sz l .no) :: e) (hset H j .gone) e' H') : Cv e H e' H'

structure aB (kD : AV -> Prop) (ws : List Nat) (body : (AX -> Env -> Heap -> Prop) -> Env -> Heap -> Prop) (Q : AX -> Env -> Heap -> Prop) (e : Env) (H : Heap) : Prop where
 ex : ∃ (e₁ : Env) (H₁ : Heap) (ι : Type) (E : ι -> Env) (kept : Env) (HS : ι -> Heap) (μ : ι -> Nat) (i₀ : ι) (R : ι -> Env -> Heap -> Prop),
  (∀ i e' H',R i e' H' -> ∃ i' e₂ H₂,Cv e' H' e₂ H₂ /\ (SI e₂ (nextId (HS i')) (E i') /\ HWk H₂ (HS i')) /\ μ i' < μ i) /\
  Cv e H e₁ H₁ /\
  (∀ t A,(t,A) ∈ kept -> dQ e₁ t = some A /\ ws.contains t = false) /\
  (∀ i,nextId (HS i) = nextId H₁) /\
  (SI e₁ (nextId H₁) (E i₀) /\ HWk H₁ (HS i₀)) /\
  ∀ i,(∀ t A,(t,A) ∈ E i -> kD A) ->
    body (fun x e' H'=>match x with
     | .normal=>R i e' H'
     | x=>Q x e' H') (E i ++ kept) (HS i)

def LoopN (kD : AV -> Prop) (ws : List Nat) (body : (AX -> Env -> Heap -> Prop) -> Env -> Heap -> Prop) (Q : AX -> Env -> Heap -> Prop) : Nat -> Env -> Heap -> Prop
 | 0,e,H=>aB kD ws body Q e H
 | n + 1,e,H=>body (fun x e' H'=>match x with | .normal=>LoopN kD ws body Q n e' H' | x=>Q x e' H') e H

inductive aK (kD : AV -> Prop) (ws : List Nat) (body : (AX -> Env -> Heap -> Prop) -> Env -> Heap -> Prop) (Q : AX -> Env -> Heap -> Prop) (e : Env) (H : Heap) : Prop where
 | ex (h : ∃ n,LoopN kD ws body Q n e H)
 /-- What has grown by appends is written from now on. -/
 | thaw (t j sz : Nat) (l : List AV) (h : dQ e t = some (.gs j l.length)) (ho : hget H j = some (.iT sz l)) (ne : l ≠ [])
   (next : ∀ cp,l.length <= cp -> cp <= maxL -> ∃ n,LoopN kD ws body Q n ((t,.ms (nextId H) 0 l.length cp sz) :: e) ((nextId H,.arr sz cp l) :: hset H j .gone))

section
variable (F : Nat -> List AV -> Heap -> AV -> Heap -> Prop) (kD : AV -> Prop) (L : Lay)

def kR (dst : Option Nat) (A : AV) (e : Env) (k : Env -> Prop) : Prop :=
 match dst with
 | some d=>k ((d,A) :: e)
 | none=>k e

def Z4 : List Oper -> Nat -> (Nat -> Prop) -> Prop
 | [],_,_=>False
 | o :: _,0,k=>match o.dst with | some d=>k d | none=>False
 | _ :: l,n + 1,k=>Z4 l n k

def jo (ops : List Oper) (g : Option (Nat × Bool)) (e : Env) (yes no : Env -> Prop) : Prop :=
 match g with
 | none=>yes e
 | some (j,b)=>Z4 ops j fun d=>yc e d fun A=>match A,b with
   | .tt,true=>yes e
   | .tt,false=>no e
   | .ff,true=>no e
   | .ff,false=>yes e
   | .bool x,true=>(x = true -> yes ((d,.tt) :: e)) /\ (x = false -> no ((d,.ff) :: e))
   | .bool x,false=>(x = true -> no ((d,.tt) :: e)) /\ (x = false -> yes ((d,.ff) :: e))
   | .dec p,true=>(p -> yes ((d,.tt) :: e)) /\ (¬ p -> no ((d,.ff) :: e))
   | .dec p,false=>(p -> no ((d,.tt) :: e)) /\ (¬ p -> yes ((d,.ff) :: e))
   | .dV [],_=>no e
   | _,_=>False

def uw (ops : List Oper) : List Oper -> Env -> Heap -> (Env -> Heap -> Prop) -> Prop
 | [],e,H,k=>k e H
 | o :: l,e,H,k=>jo ops o.guard e
     (fun e=>yR F kD L o.op e H (fun A H'=>kR o.dst A e fun e'=>uw ops l e' H' k) (fun H'=>match o.dst with | none=>uw ops l e H' k | some _=>False))
     (fun e=>kR o.dst (.dV []) e fun e'=>uw ops l e' H k)

end

def Fb : List Operand -> List Nat
 | []=>[]
 | .tmp t :: l=>t :: Fb l
 | _ :: l=>Fb l

def bK : Op -> List Operand
 | .move x | .assign x | .load _ x | .nilCheck x | .unOp _ _ x | .convert _ _ x | .makeInterface _ x | .box _ x | .extract x _ | .fieldAddr _ x _=>[x]
 | .pick a b d=>[a,b,d]
 | .store _ x y | .binOp _ _ x y _ | .makeSlice _ x y | .indexAddr _ x y | .index _ x y | .lookup _ x y _=>[x,y]
 | .typeAssert x _ _ _=>[x]
 | .mapUpdate _ x y z=>[x,y,z]
 | .build _ ps | .buildSlice _ _ ps=>ps.toList.map (·.2)
 | .makeFunc _ _ cap=>cap.toList
 | .slice _ x lo hi _=>x :: (lo.toList ++ hi.toList)
 | .call cl=>(match cl.callee with | .value f=>[f] | _=>[]) ++ cl.args.toList
 | _=>[]

def rQ (acc : List Nat) : List Edge -> Nat -> Nat
 | [],s=>s
 | e :: l,s=>rQ acc l (match Region.binds .any e with | true=>s ||| 2 ^ e.on ||| acc.getD e.on 0 | false=>s)

def wo : List Oper -> List Nat -> List Nat
 | [],acc=>acc
 | o :: l,acc=>wo l (acc ++ [rQ acc o.after.toList 0])

def zM : Op -> Bool
 | .move _ | .assign _ | .pick .. | .build .. | .buildSlice .. | .nilCheck _ | .binOp .. | .unOp .. | .convert .. | .makeInterface .. | .makeFunc .. | .makeSlice .. | .slice .. | .fieldAddr .. | .indexAddr .. | .index .. | .extract .. | .typeAssert ..=>true
 | .call c=>(match c.callee with | .builtin .len=>true | .builtin .max=>true | .builtin .min=>true | .builtin .append=>true | .value _=>true | _=>false)
 | _=>false

def bG : Op -> Bool
 | .load _ _=>true
 | _=>false

def Jc (op : Op) : Bool:=zM op || bG op

def defB (op : Op) : Bool:=match op with
 | .call c=>(match c.callee with | .builtin .append=>false | _=>zM op)
 | op=>zM op

def yV : Op -> Bool
 | .alloc _=>true
 | .makeMap _ _=>true
 | .call c=>(match c.callee with | .builtin .append=>true | _=>false)
 | _=>false

def jY : Op -> Bool
 | .alloc _=>true
 | .makeMap _ none=>true
 | _=>false

def DT : Op -> Bool
 | .call c=>(match c.callee with | .builtin .append=>true | _=>false)
 | _=>false

def dw (ops : List Oper) (o : Oper) : List Nat :=
 o.dst.toList ++ Fb (bK o.op) ++ (match o.guard with | some (g,_)=>(match ops[g]? with | some og=>og.dst.toList | none=>[]) | none=>[])

def l9 (ops : List Oper) (x y : Oper × Bool) : Bool :=
 (!x.2 && !y.2 && !jY y.1.op && !(bG x.1.op && (bG y.1.op || yV y.1.op)) && !(DT x.1.op && bG y.1.op && ops.all fun o=>!jY o.op)) ||
 (match x.1.dst with | some d=>(dw ops y.1).contains d | none=>false) ||
 (match y.1.dst with | some d=>(dw ops x.1).contains d | none=>false)

def Xf (ops : List Oper) (zm : List (Oper × Bool)) : Bool :=
 zm.zipIdx.all fun y=>!(jY y.1.1.op && !y.1.2) || ((match y.1.1.guard with | none=>true | some _=>false) && (match y.1.1.dst with
  | none=>false
  | some d=>zm.zipIdx.all fun x=>!Nat.blt x.2 y.2 || x.1.2 || bG x.1.1.op || ((wo ops []).getD y.2 0).testBit x.2 ||
    zm.zipIdx.all fun z=>!Nat.blt y.2 z.2 || !(dw ops z.1.1).contains d || ((wo ops []).getD z.2 0).testBit x.2))

def Jy (ops : List Oper) (mask : List Bool) : Bool :=
 Nat.beq mask.length ops.length && ((ops.zip mask).all fun x=>!x.2 || Jc x.1.op) &&
 (ops.zipIdx.all fun y=>y.1.after.toList.all fun e=>!Region.binds .any e || Nat.blt e.on y.2) && Xf ops (ops.zip mask) &&
 (let b:=wo ops []
 (ops.zip mask).zipIdx.all fun y=>(ops.zip mask).zipIdx.all fun x=>!Nat.blt x.2 y.2 || !l9 ops x.1 y.1 || (b.getD y.2 0).testBit x.2)

def vcallB : Op -> Bool
 | .call c=>(match c.callee with | .value _=>true | _=>false)
 | _=>false

def qV : List Nat -> Nat -> Bool
 | [],_=>false
 | x :: l,n=>match Nat.beq x n with | true=>true | false=>qV l n

def ug (fl : List Nat) (op : Op) : Bool:=vcallB op || (match qV fl 999,op with | false,.store _ _ _=>true | _,_=>false)

def NR (ops : List Oper) (fl : List Nat) (x y : (Oper × Bool) × Nat) : Bool :=
 qV fl x.2 && bG x.1.1.op && !x.1.2 && ug fl y.1.1.op && !y.1.2 && (match x.1.1.dst with | some d=>!(dw ops y.1.1).contains d | none=>true) && (match y.1.1.dst with | some d=>!(dw ops x.1.1).contains d | none=>true)

def Qb (ops : List Oper) (mask : List Bool) (fl : List Nat) : Bool :=
 Nat.beq mask.length ops.length && ((ops.zip mask).all fun x=>!x.2 || Jc x.1.op) &&
 (ops.zipIdx.all fun y=>y.1.after.toList.all fun e=>!Region.binds .any e || Nat.blt e.on y.2) && Xf ops (ops.zip mask) &&
 (let b:=wo ops []
 (ops.zip mask).zipIdx.all fun y=>(ops.zip mask).zipIdx.all fun x=>!Nat.blt x.2 y.2 || !l9 ops x.1 y.1 || (b.getD y.2 0).testBit x.2 || NR ops fl x y)

def ZT (ops : List Oper) (gl : List Nat) (x y : (Oper × Bool) × Nat) : Bool :=
 qV gl y.2 && bG y.1.1.op && !y.1.2 && !x.1.2 && !bG x.1.1.op && (ops.all fun o=>!jY o.op) && (match x.1.1.dst with | some d=>!(dw ops y.1.1).contains d | none=>true) && (match y.1.1.dst with | some d=>!(dw ops x.1.1).contains d | none=>true)

def Qc (ops : List Oper) (mask : List Bool) (fl gl : List Nat) : Bool :=
 Nat.beq mask.length ops.length && ((ops.zip mask).all fun x=>!x.2 || Jc x.1.op) &&
 (ops.zipIdx.all fun y=>y.1.after.toList.all fun e=>!Region.binds .any e || Nat.blt e.on y.2) && Xf ops (ops.zip mask) &&
 (let b:=wo ops []
 (ops.zip mask).zipIdx.all fun y=>(ops.zip mask).zipIdx.all fun x=>!Nat.blt x.2 y.2 || !l9 ops x.1 y.1 || (b.getD y.2 0).testBit x.2 || NR ops fl x y || ZT ops gl x y)

def rdyB (ops : List Oper) (ls : List Nat) (i : Nat) : Bool :=
 !ls.any (Nat.beq i) && (match ops[i]? with | some o=>o.after.toList.all fun e=>!Region.binds .any e || ls.any (Nat.beq e.on) | none=>false)

def YB (ops : List Oper) : Bool:=ops.zipIdx.all fun y=>y.1.after.toList.all fun e=>!Region.binds .any e || Nat.blt e.on y.2

def QC : List Nat -> (Nat -> Prop) -> Prop
 | [],_=>True
 | i :: l,f=>f i /\ QC l f

inductive eU (F : Nat -> List AV -> Heap -> AV -> Heap -> Prop) (f : Nat) (args : List AV) (k : AV -> Prop) : Prop where
 | pure (Bs : List AV) (R : AV) (hle : Iu args Bs) (hb : iK 0 Bs = true /\ dO 0 R = true) (h : F f Bs [] R []) (h' : k R)

section
variable (F : Nat -> List AV -> Heap -> AV -> Heap -> Prop) (kD : AV -> Prop) (L : Lay)

def yS (op : Op) (e : Env) (k : AV -> Prop) : Prop :=
 match op with
 | .call c=>(match c.callee with
   | .value f=>bV e f fun A=>(match A with
     | .fn g cap=>pR e c.args.toList fun As=>OC As cap fun Bs=>eU F g Bs k
     | _=>False)
   | .builtin .append=>pR e c.args.toList fun As=>fZ L .append c.argTypes.toList As [] fun A H'=>H' = [] /\ k A
   | .builtin b=>pR e c.args.toList fun As=>fZ L b c.argTypes.toList As [] fun A _=>k A
   | _=>False)
 | .makeSlice t l c=>bV e l fun A=>bV e c fun B=>L.bM t fun i=>(match i.desc,A,B with
   | .slice el,.int _ n,.int _ m=>L.bM el fun ei=>(0 <= n /\ n <= m /\ m * (ei.bytes : Int) <= 281474976710656 /\ m <= 9223372036854775807) /\
     (n.toNat = m.toNat /\ k (.sl (flat ei.zero) (List.replicate n.toNat ei.zero) .full))
   | _,_,_=>False)
 | op=>noNil op <| fV F (fun _=>True) L op e [] (fun A _=>k A) (fun _=>False)

def qX (ops : List Oper) : List (Oper × Bool) -> Env -> Heap -> (Env -> Heap -> Prop) -> Prop
 | [],e,H,k=>k e H
 | (o,nb) :: l,e,H,k=>jo ops o.guard e
   (fun e=>match nb with
    | true=>yS F L o.op e fun A=>kR o.dst A e fun e'=>qX ops l e' H k
    | false=>noNil o.op <| fV F (fun _=>True) L o.op e H (fun A H'=>kR o.dst A e fun e'=>qX ops l e' H' k) (fun H'=>match o.dst with | none=>qX ops l e H' k | some _=>False))
   (fun e=>kR o.dst (.dV []) e fun e'=>qX ops l e' H k)

def Og (H : Heap) : List (Nat × AV × AV) -> Prop -> Prop
 | [],k=>k
 | (t,A,R) :: pl,k=>(jE L t A H fun R'=>R' = R) /\ Og H pl k

def YF (fl : List Nat) (i : Nat) (op : Op) (e : Env) (A : AV) (pl : List (Nat × AV × AV)) (k : List (Nat × AV × AV) -> Prop) : Prop :=
 match qV fl i,op with
 | true,.load t x=>bV e x fun B=>k ((t,B,A) :: pl)
 | _,_=>k pl

def qO (ops : List Oper) (fl : List Nat) : Nat -> List (Oper × Bool) -> List (Nat × AV × AV) -> Env -> Heap -> (Env -> Heap -> Prop) -> Prop
 | _,[],_,e,H,k=>k e H
 | i,(o,nb) :: l,pl,e,H,k=>jo ops o.guard e
   (fun e=>match nb with
    | true=>yS F L o.op e fun A=>kR o.dst A e fun e'=>qO ops fl (i + 1) l pl e' H k
    | false=>noNil o.op <| fV F (fun _=>True) L o.op e H
      (fun A H'=>Og L H' (match ug fl o.op with | true=>pl | false=>[]) <| YF fl i o.op e A pl fun DJ=>kR o.dst A e fun e'=>qO ops fl (i + 1) l DJ e' H' k)
      (fun H'=>match o.dst with | none=>Og L H' (match ug fl o.op with | true=>pl | false=>[]) <| qO ops fl (i + 1) l pl e H' k | some _=>False))
   (fun e=>kR o.dst (.dV []) e fun e'=>qO ops fl (i + 1) l pl e' H k)

def XY (t : Nat) (A R : AV) : List Heap -> Prop -> Prop
 | [],k=>k
 | G :: hs,k=>(jE L t A G fun R'=>R' = R) /\ XY t A R hs k

def addG (gl : List Nat) (i : Nat) (op : Op) (e : Env) (A : AV) (hs : List Heap) (k : Prop) : Prop :=
 match qV gl i,op with
 | true,.load t x=>bV e x fun B=>XY L t B A hs k
 | _,_=>k

def oI (ops : List Oper) (fl gl : List Nat) : Nat -> List (Oper × Bool) -> List (Nat × AV × AV) -> List Heap -> Env -> Heap -> (Env -> Heap -> Prop) -> Prop
 | _,[],_,_,e,H,k=>k e H
 | i,(o,nb) :: l,pl,hs,e,H,k=>jo ops o.guard e
   (fun e=>match nb with
    | true=>yS F L o.op e fun A=>kR o.dst A e fun e'=>oI ops fl gl (i + 1) l pl hs e' H k
    | false=>noNil o.op <| fV F (fun _=>True) L o.op e H
      (fun A H'=>Og L H' (match ug fl o.op with | true=>pl | false=>[]) <| addG L gl i o.op e A hs <| YF fl i o.op e A pl fun DJ=>kR o.dst A e fun e'=>oI ops fl gl (i + 1) l DJ (match bG o.op with | true=>hs | false=>H :: hs) e' H' k)
      (fun H'=>match o.dst with | none=>Og L H' (match ug fl o.op with | true=>pl | false=>[]) <| oI ops fl gl (i + 1) l pl (H :: hs) e H' k | some _=>False))
   (fun e=>kR o.dst (.dV []) e fun e'=>oI ops fl gl (i + 1) l pl hs e' H k)

def Ho (ops : List Oper) : Nat -> List Nat -> Env -> Heap -> (Env -> Heap -> Prop) -> Prop
 | 0,_,e,H,k=>k e H
 | n + 1,ls,e,H,k=>QC ((List.range ops.length).filter (rdyB ops ls)) fun i=>(match ops[i]? with
   | some o=>jo ops o.guard e
     (fun e=>fV F (fun _=>True) L o.op e H (fun A H'=>kR o.dst A e fun e'=>Ho ops n (i :: ls) e' H' k) (fun H'=>match o.dst with | none=>Ho ops n (i :: ls) e H' k | some _=>False))
     (fun e=>kR o.dst (.dV []) e fun e'=>Ho ops n (i :: ls) e' H k)
   | none=>False)

mutual
def Uk (j : Nat) : AV -> Bool
 | .ptr k _ _=>Nat.beq k j
 | .fn _ cap=>RN j cap
 | .ag l=>RN j l
 | .dV l=>RN j l
 | .jm _ x=>Uk j x
 | _=>false
def RN (j : Nat) : List AV -> Bool
 | []=>false
 | x :: l=>match Uk j x with | true=>true | false=>RN j l
end

mutual
def nO (j : Nat) (B : AV) : AV -> AV
 | .ptr k p off=>match Nat.beq k j,p,off with | true,[],0=>.cp B | _,p,off=>.ptr k p off
 | .fn f cap=>.fn f (xY j B cap)
 | .ag l=>.ag (xY j B l)
 | .dV l=>.dV (xY j B l)
 | .jm t x=>.jm t (nO j B x)
 | A=>A
def xY (j : Nat) (B : AV) : List AV -> List AV
 | []=>[]
 | x :: l=>nO j B x :: xY j B l
end

mutual
def F8 (j : Nat) (B : AV) : AV -> (AV -> Prop) -> Prop
 | .ptr k p off,c=>(match Nat.beq k j,p,off with | true,[],0=>c (.cp B) | _,p,off=>c (.ptr k p off))
 | .fn f cap,c=>Jr j B cap fun l=>c (.fn f l)
 | .ag l,c=>Jr j B l fun l=>c (.ag l)
 | .dV l,c=>Jr j B l fun l=>c (.dV l)
 | .jm t x,c=>F8 j B x fun y=>c (.jm t y)
 | A,c=>c A
def Jr (j : Nat) (B : AV) : List AV -> (List AV -> Prop) -> Prop
 | [],c=>c []
 | x :: l,c=>F8 j B x fun y=>Jr j B l fun m=>c (y :: m)
end

def Un (j : Nat) (B : AV) : Env -> (Env -> Prop) -> Prop
 | [],k=>k []
 | (t,A) :: e,k=>match Uk j A with
   | false=>Un j B e fun m=>k ((t,A) :: m)
   | true=>F8 j B A fun A'=>Un j B e fun m=>k ((t,A') :: m)

def P8 (j : Nat) (B : AV) : Heap -> (Heap -> Prop) -> Prop
 | [],k=>k []
 | (i,o) :: H,k=>match Nat.beq i j with
   | true=>P8 j B H fun G=>k ((i,.gone) :: G)
   | false=>match o with
     | .box A=>(match Uk j A with
       | false=>P8 j B H fun G=>k ((i,.box A) :: G)
       | true=>F8 j B A fun A'=>P8 j B H fun G=>k ((i,.box A') :: G))
     | o=>P8 j B H fun G=>k ((i,o) :: G)

def ZP : List Nat -> Env -> Heap -> (Env -> Heap -> Prop) -> Prop
 | [],e,H,k=>k e H
 | j :: js,e,H,k=>iI H j fun o=>match o with
   | .box A=>(nV A = true /\ strip A = A) /\ Un j A e fun e'=>P8 j A H fun H'=>ZP js e' H' k
   | _=>False

inductive aO (ops : List Oper) (e : Env) (H : Heap) (k : Env -> Heap -> Prop) : Prop where
 | mk (ex : ∃ mask : List Bool,Jy ops mask = true /\ qX F L ops (ops.zip mask) e H k)
 | all (hb : YB ops = true) (h : Ho F L ops ops.length [] e H k)
 | late (fl : List Nat) (ex : ∃ mask : List Bool,Qb ops mask fl = true /\ qO F L ops fl 0 (ops.zip mask) [] e H k)
 | both (fl gl : List Nat) (ex : ∃ mask : List Bool,Qc ops mask fl gl = true /\ oI F L ops fl gl 0 (ops.zip mask) [] [] e H k)
 | RQ (js : List Nat) (h : ZP js e H fun e' H'=>∃ mask : List Bool,Jy ops mask = true /\ qX F L ops (ops.zip mask) e' H' k)
end

section
variable (F : Nat -> List AV -> Heap -> AV -> Heap -> Prop) (kD : AV -> Prop) (L : Lay)

def ak : Code -> (AX -> Env -> Heap -> Prop) -> Env -> Heap -> Prop
 | .skip,Q,e,H=>Q .normal e H
 | .region _ ops d,Q,e,H=>(match d with
   | false=>uw F kD L ops.toList ops.toList e H fun e' H'=>Q .normal e' H'
   | true=>aO F L ops.toList e H fun e' H'=>Q .normal e' H')
 | .seq a b,Q,e,H=>ak a (fun x e' H'=>match x with | .normal=>ak b Q e' H' | x=>Q x e' H') e H
 | .cond c a b,Q,e,H=>bV e c fun A=>br A (ak a Q e H) (ak b Q e H)
 | .block i b,Q,e,H=>ak b (fun x e' H'=>match x with
   | .exit j=>(match Nat.beq j i with | true=>Q .normal e' H' | false=>Q (.exit j) e' H')
   | x=>Q x e' H') e H
 | .loop b,Q,e,H=>aK kD (writes b) (ak b) Q e H
 | .exit i,Q,e,H=>Q (.exit i) e H
 | .ret,Q,e,H=>Q .ret e H
 | .label _,Q,e,H=>Q .normal e H
 | _,_,_,_=>False

end
end Go.AL

namespace Go.AL

mutual
def Ok : AV -> Prop
 | .int k n=>uX k n
 | .str s=>s.length <= maxL
 | .sl _ l _=>l.length <= maxL /\ y5 l
 | .ag l=>y5 l
 | .dV l=>y5 l
 | .cp x=>Ok x
 | .jm _ x=>Ok x
 | _=>True
def y5 : List AV -> Prop
 | []=>True
 | x :: l=>Ok x /\ y5 l
end

mutual
theorem yw {w : World} {Im : Nat -> Nat -> Prop} : ∀ (A : AV) (cs : List Value),Rd w Im A cs -> Ok A
 | .bool _,_,_=>by simp only [Ok]
 | .tt,_,_=>by simp only [Ok]
 | .ff,_,_=>by simp only [Ok]
 | .dec _,_,_=>by simp only [Ok]
 | .int _ _,_,hr=>by simp only [Rd] at hr; simp only [Ok]; exact hr.2
 | .str _,_,hr=>by simp only [Rd] at hr; simp only [Ok]; exact hr.2
 | .dN,_,_=>by simp only [Ok]
 | .jm t x,cs,hr=>by simp only [Rd] at hr; obtain ⟨v,rfl,h2,h3⟩:=hr; simp only [Ok]; exact yw x _ h3
 | .aG,_,_=>by simp only [Ok]
 | .sl sz l .no,cs,hr=>by
   simp only [Rd] at hr
   simp only [Ok]
   obtain ⟨h0,⟨rfl,rfl⟩ | ⟨a,cap,rfl,_,_,_,h⟩⟩:=hr
   ·exact ⟨h0,by simp only [y5]⟩
   ·exact ⟨h0,YR l _ h⟩
 | .sl sz l .full,cs,hr=>by simp only [Rd] at hr
 | .sl sz l (.own _),cs,hr=>by simp only [Rd] at hr
 | .ms _ _ _ _ _,_,_=>by simp only [Ok]
 | .ag l,cs,hr=>by simp only [Rd] at hr; simp only [Ok]; exact YQ l cs hr
 | .dV _,_,hr=>by simp only [Rd] at hr
 | .ptr _ _ _,_,_=>by simp only [Ok]
 | .cp x,cs,hr=>by simp only [Rd] at hr; obtain ⟨a,ds,rfl,_,_,h⟩:=hr; simp only [Ok]; exact yw x _ h
 | .gK,_,_=>by simp only [Ok]
 | .fn _ _,_,_=>by simp only [Ok]
 | .aH,_,_=>by simp only [Ok]
 | .mp _,_,_=>by simp only [Ok]
 | .gs _ _,_,_=>by simp only [Ok]
 | .bm _ _,_,_=>by simp only [Ok]
 | .iQ,_,_=>by simp only [Ok]
 | .und,_,_=>by simp only [Ok]
theorem YQ {w : World} {Im : Nat -> Nat -> Prop} : ∀ (l : List AV) (cs : List Value),lN w Im l cs -> y5 l
 | [],_,_=>by simp only [y5]
 | x :: l,cs,hr=>by
   simp only [lN] at hr
   obtain ⟨c,d,rfl,h2,h3⟩:=hr
   simp only [y5]
   exact ⟨yw x _ h2,YQ l _ h3⟩
theorem YR {w : World} {Im : Nat -> Nat -> Prop} {sz b : Nat} : ∀ (l : List AV) (off : Nat),sN w Im sz b l off -> y5 l
 | [],_,_=>by simp only [y5]
 | x :: l,off,hr=>by
   simp only [sN] at hr
   obtain ⟨⟨cs,h1,h2,h3⟩,h4⟩:=hr
   simp only [y5]
   exact ⟨yw x _ h3,YR l _ h4⟩
end

mutual
theorem SL {c : Cx} : ∀ (A : AV) (cs : List Value),VR c A cs -> Ok A
 | .bool _,_,_=>by simp only [Ok]
 | .tt,_,_=>by simp only [Ok]
 | .ff,_,_=>by simp only [Ok]
 | .dec _,_,_=>by simp only [Ok]
 | .int _ _,_,hr=>by simp only [VR] at hr; exact yw _ _ hr
 | .str _,_,hr=>by simp only [VR] at hr; exact yw _ _ hr
 | .dN,_,_=>by simp only [Ok]
 | .jm t x,cs,hr=>by simp only [VR] at hr; obtain ⟨v,rfl,h2,h3⟩:=hr; simp only [Ok]; exact SL x _ h3
 | .aG,_,_=>by simp only [Ok]
 | .sl sz l .no,cs,hr=>by simp only [VR] at hr; exact yw _ _ hr
 | .sl sz l .full,cs,hr=>by simp only [VR] at hr; exact yw (.sl sz l .no) _ hr.1
 | .sl sz l (.own _),cs,hr=>by simp only [VR] at hr; exact yw (.sl sz l .no) _ hr.2.1
 | .ms _ _ _ _ _,_,_=>by simp only [Ok]
 | .ag l,cs,hr=>by simp only [VR] at hr; simp only [Ok]; exact YL l cs hr
 | .dV _,_,hr=>by simp only [VR,Rd] at hr
 | .ptr _ _ _,_,_=>by simp only [Ok]
 | .cp x,cs,hr=>by simp only [VR] at hr; exact yw _ _ hr
 | .gK,_,_=>by simp only [Ok]
 | .fn _ _,_,_=>by simp only [Ok]
 | .aH,_,_=>by simp only [Ok]
 | .mp _,_,_=>by simp only [Ok]
 | .gs _ _,_,_=>by simp only [Ok]
 | .bm _ _,_,_=>by simp only [Ok]
 | .iQ,_,_=>by simp only [Ok]
 | .und,_,_=>by simp only [Ok]
theorem YL {c : Cx} : ∀ (l : List AV) (cs : List Value),lT c l cs -> y5 l
 | [],_,_=>by simp only [y5]
 | x :: l,cs,hr=>by
   simp only [lT] at hr
   obtain ⟨a,d,rfl,h2,h3⟩:=hr
   simp only [y5]
   exact ⟨SL x _ h2,YL l _ h3⟩
end

theorem VA_ok {c : Cx} : ∀ (l : List AV) (vs : List Value),VA c l vs -> y5 l
 | [],_,_=>by simp only [y5]
 | x :: l,vs,hr=>by
   simp only [VA] at hr
   obtain ⟨v,r,rfl,h2,h3,h4⟩:=hr
   simp only [y5]
   exact ⟨SL x _ h3,VA_ok l _ h4⟩

theorem Tj {c : Cx} {A : AV} {v : Value} (h : EV c A v) : Ok A:=by
 cases A <;> first
  | exact SL _ _ h.2
  | (simp only [Ok]; done)
  | (obtain ⟨vs,rfl,h2⟩:=h; simp only [Ok]; exact VA_ok _ _ h2)

theorem cells_one {v x : Value} (hs : v.cells = #[v]) (h : v.cells.toList = [x]) : v = x:=by
 rw [hs] at h; injection h

section
variable {c : Cx} {v : Value}

theorem gX {b : Bool} (h : VV c (.bool b) v) : v = .bool b:=by
 have:=h.2; simp only [VR,Rd] at this; exact cells_one (h.1.2 rfl) this
theorem wC (h : VV c .tt v) : v = .bool true:=by
 have:=h.2; simp only [VR,Rd] at this; exact cells_one (h.1.2 rfl) this
theorem wE (h : VV c .ff v) : v = .bool false:=by
 have:=h.2; simp only [VR,Rd] at this; exact cells_one (h.1.2 rfl) this
theorem kW {p : Prop} (h : VV c (.dec p) v) : ∃ b,v = .bool b /\ (b = true ↔ p):=by
 have:=h.2; simp only [VR,Rd] at this
 obtain ⟨b,h1,h2⟩:=this
 exact ⟨b,cells_one (h.1.2 rfl) h1,h2⟩
theorem VV_int {k : IntKind} {n : Int} (h : VV c (.int k n) v) : v = .int k n /\ uX k n:=by
 have:=h.2; simp only [VR,Rd] at this; exact ⟨cells_one (h.1.2 rfl) this.1,this.2⟩
theorem QD {s : List UInt8} (h : VV c (.str s) v) : v = .string ⟨s.toArray⟩ /\ s.length <= maxL:=by
 have:=h.2; simp only [VR,Rd] at this; exact ⟨cells_one (h.1.2 rfl) this.1,this.2⟩
theorem AU (h : VV c .dN v) : v = .nilIface:=by
 have:=h.2; simp only [VR,Rd] at this; exact cells_one (h.1.2 rfl) this
theorem xJ (h : VV c .aG v) : v = .slice none 0 0:=by
 have:=h.2; simp only [VR,Rd] at this; exact cells_one (h.1.2 rfl) this
theorem Ef (h : VV c .gK v) : v = .pointer none:=by
 have:=h.2; simp only [VR,Rd] at this; exact cells_one (h.1.2 rfl) this
theorem VV_nilm (h : VV c .iQ v) : v = .map none:=by
 have:=h.2; simp only [VR,Rd] at this; exact cells_one (h.1.2 rfl) this
theorem QE {t : Nat} {x : AV} (h : VV c (.jm t x) v) : ∃ u,v = .iface t u /\ VV c x u:=by
 have:=h.2; simp only [VR] at this
 obtain ⟨u,h1,h2,h3⟩:=this
 exact ⟨u,cells_one (h.1.2 rfl) h1,h2,h3⟩
theorem yY {k off : Nat} {p : List Nat} (h : VV c (.ptr k p off) v) : k < c.nx /\ v = .pointer (some ⟨c.ρ k,off,none⟩):=by
 have:=h.2; simp only [VR] at this; exact ⟨this.1,cells_one (h.1.2 rfl) this.2⟩
theorem Dv {k off len cap sz : Nat} (h : VV c (.ms k off len cap sz) v) : k < c.nx /\ v = .slice (some ⟨c.ρ k,off * sz,none⟩) len cap /\ len <= cap /\ cap <= maxL:=by
 have:=h.2; simp only [VR] at this; exact ⟨this.1,cells_one (h.1.2 rfl) this.2.1,this.2.2⟩
theorem VV_mp {k : Nat} (h : VV c (.mp k) v) : k < c.nx /\ v = .map (some (c.ρ k)):=by
 have:=h.2; simp only [VR] at this; exact ⟨this.1,cells_one (h.1.2 rfl) this.2⟩
theorem VV_bm {f k : Nat} (h : VV c (.bm f k) v) : k < c.nx /\ v = .func (.func f) #[.pointer (some ⟨c.ρ k,0,none⟩)] #[]:=by
 have:=h.2; simp only [VR] at this; exact ⟨this.1,cells_one (h.1.2 rfl) this.2⟩
theorem VV_gs {k len : Nat} (h : VV c (.gs k len) v) : k < c.nx /\ (∃ a n m,v = .slice a n m) /\ ∀ n,c.tp k = some n -> len <= n /\ (len = n -> v = .slice (c.tk k).1 n (c.tk k).2):=by
 have:=h.2; simp only [VR] at this
 obtain ⟨h1,⟨a,n,m,h2⟩,h3⟩:=this
 exact ⟨h1,⟨a,n,m,cells_one (h.1.2 rfl) h2⟩,fun n hn=>⟨(h3 n hn).1,fun e=>cells_one (h.1.2 rfl) ((h3 n hn).2 e)⟩⟩
theorem SK {x : AV} (h : VV c (.cp x) v) : ∃ a ds,v = .pointer (some a) /\ a.spot = none /\ jI c.w c.Im a.block a.off ds /\ Rd c.w c.Im x ds:=by
 have:=h.2; simp only [VR,Rd] at this
 obtain ⟨a,ds,h1,h2⟩:=this
 exact ⟨a,ds,cells_one (h.1.2 rfl) h1,h2⟩
theorem VV_fn {f : Nat} {cap : List AV} (h : VV c (.fn f cap) v) : ∃ vs : List Value,v = .func (.func f) #[] vs.toArray /\ VA c cap vs:=by
 have:=h.2; simp only [VR] at this
 obtain ⟨vs,h1,h2⟩:=this
 exact ⟨vs,cells_one (h.1.2 rfl) h1,h2⟩
theorem Hq {sz : Nat} {l : List AV} {tok : Tk} (h : VV c (.sl sz l tok) v) : l.length <= maxL /\ ((l = [] /\ v = .slice none 0 0) \/
  ∃ a cap,v = .slice (some a) l.length cap /\ l.length <= cap /\ cap <= maxL /\ (l ≠ [] -> a.spot = none) /\ sN c.w c.Im sz a.block l a.off):=by
 have hv:=h.1.2 rfl
 have key : Rd c.w c.Im (.sl sz l .no) v.cells.toList:=by
  have:=h.2
  cases tok with
  | no=>simpa only [VR] using this
  | full=>simp only [VR] at this; exact this.1
  | own k=>simp only [VR] at this; exact this.2.1
 simp only [Rd] at key
 refine ⟨key.1,?_⟩
 rcases key.2 with (⟨h1,h2⟩ | ⟨a,cap,h1,h2⟩)
 ·exact .inl ⟨h1,cells_one hv h2⟩
 ·exact .inr ⟨a,cap,cells_one hv h1,h2⟩
end

theorem dZ {c : Cx} {A : AV} {v : Value} (hA : dH A = false) (hv : v.cells = #[v]) (h : VR c A [v]) : VV c A v :=
 ⟨⟨(fun h=>by rw [hA] at h; cases h),fun _=>hv⟩,by rw [hv]; exact h⟩

theorem bg {c : Cx} {A : AV} {v : Value} (h : VV c A v) : EV c A v:=by
 cases A <;> first
  | exact h
  | trivial
  | (have:=h.2; simp only [VR,Rd] at this)

def bF : Operand -> Bool
 | .const (.int k n)=>decide (k.min <= n) && decide (n <= k.max)
 | .const (.string s)=>decide (s.data.size <= 1000000)
 | _=>true

def gJ (c : Cx) (e : Env) (a : Act) : Prop:=∀ t A,dQ e t = some A -> EV c A (a.tmps.getD t undef)

theorem KW {c : Cx} {v : Value} {k : AV -> Prop} (hv : bF (.const v) = true) (h : Gq v k) : ∃ A,VV c A v /\ k A:=by
 unfold Gq at h
 split at h
 ·exact ⟨_,dZ rfl rfl (by simp only [VR,Rd]),h⟩
 ·exact ⟨_,dZ rfl rfl (by simp only [VR,Rd]),h⟩
 ·refine ⟨_,dZ rfl rfl ?_,h⟩
  simp only [VR,Rd]
  simp only [bF,Bool.and_eq_true,decide_eq_true_eq] at hv
  exact ⟨trivial,hv⟩
 ·refine ⟨_,dZ rfl rfl ?_,h⟩
  simp only [VR,Rd]
  simp only [bF,decide_eq_true_eq] at hv
  refine ⟨by simp,?_⟩
  rw [Array.length_toList]; unfold maxL; omega
 ·exact ⟨_,dZ rfl rfl (by simp only [VR,Rd]),h⟩
 ·exact ⟨_,dZ rfl rfl (by simp only [VR,Rd]),h⟩
 ·exact ⟨_,dZ rfl rfl (by simp only [VR,Rd]),h⟩
 ·exact ⟨_,dZ rfl rfl (by simp only [VR,Rd]),h⟩
 ·exact ⟨_,dZ rfl rfl (by simp only [VR,Rd]),h⟩
 ·exact h.elim

theorem aW {c : Cx} {e : Env} {a : Act} {x : Operand} {k : AV -> Prop} (he : gJ c e a) (hx : bF x = true) (h : bV e x k) : ∃ A,EV c A (a.eval x) /\ k A:=by
 unfold bV at h
 split at h
 ·obtain ⟨A,h1,h2⟩:=gW.1 h
  exact ⟨A,he _ _ h1,h2⟩
 ·obtain ⟨A,h1,h2⟩:=KW (c:=c) hx h
  exact ⟨A,bg h1,h2⟩
 ·refine ⟨_,bg (dZ (v:=.func (.func _) #[] #[]) rfl rfl ?_),h⟩
  simp only [VR,VA]
  exact ⟨[],rfl,rfl⟩
 ·exact h.elim

def Bc (c : Cx) : List AV -> List Value -> Prop
 | [],vs=>vs = []
 | x :: l,vs=>∃ v r,vs = v :: r /\ EV c x v /\ Bc c l r

theorem mJ {c : Cx} {e : Env} {a : Act} (he : gJ c e a) : ∀ {l : List Operand} {k : List AV -> Prop},l.all bF = true -> pR e l k ->
  ∃ As,Bc c As (l.map a.eval) /\ k As
 | [],k,_,h=>⟨[],rfl,h⟩
 | x :: l,k,hl,h=>by
   simp only [List.all_cons,Bool.and_eq_true] at hl
   obtain ⟨A,h1,h2⟩:=aW he hl.1 h
   obtain ⟨As,h3,h4⟩:=mJ he hl.2 h2
   exact ⟨A :: As,⟨_,_,rfl,h1,h3⟩,h4⟩

end Go.AL

namespace Go.AL

theorem oQ (k : IntKind) (n : Int) : uX k (k.wrap n):=by
 unfold uX IntKind.wrap IntKind.min IntKind.max
 have h0:=Int.emod_nonneg n (b:=(2 ^ k.bits : Int)) (by cases k <;> simp [IntKind.bits])
 have h1:=Int.emod_lt_of_pos n (b:=(2 ^ k.bits : Int)) (by cases k <;> simp [IntKind.bits])
 cases k <;> simp [IntKind.bits,IntKind.signed] at * <;> first | omega | (split <;> omega)

theorem L6 {k : IntKind} {n : Int} (h : uX k n) : k.wrap n = n:=by
 unfold uX IntKind.min IntKind.max at h
 unfold IntKind.wrap
 cases k <;> simp [IntKind.bits,IntKind.signed] at * <;> first | omega | (split <;> omega)

theorem LM {k : IntKind} {a : Int} (h : uX k a) (n : Nat) : uX k (a.fdiv (2 ^ n)):=by
 have hp : (0 : Int) < 2 ^ n:=Int.pow_pos (by omega)
 have h1 : a.fdiv (2 ^ n) = a / (2 ^ n):=Int.fdiv_eq_ediv_of_nonneg a (Int.le_of_lt hp)
 rw [h1]
 unfold uX at *
 have hmin : k.min <= 0:=by cases k <;> simp [IntKind.min,IntKind.signed,IntKind.bits]
 have hmax : 0 <= k.max:=by cases k <;> simp [IntKind.max,IntKind.signed,IntKind.bits]
 by_cases ha : 0 <= a
 ·have h2 : 0 <= a / 2 ^ n:=Int.ediv_nonneg ha (Int.le_of_lt hp)
  have h3 : a / 2 ^ n <= a:=Int.ediv_le_self _ ha
  omega
 ·have h2 : a / 2 ^ n < 0:=Int.ediv_neg_of_neg_of_pos (by omega) hp
  have h3 : a <= a / 2 ^ n:=by
   have:=Int.le_ediv_of_mul_le hp (a:=a) (b:=a) (by
    have h5 : (1 : Int) <= 2 ^ n:=hp
    have : a * 2 ^ n <= a * 1:=Int.mul_le_mul_of_nonpos_left (by omega) h5
    omega)
   exact this
  omega

theorem YV {k : IntKind} {a b : Int} (h : uX k a) : uX k (a.tmod b):=by
 unfold uX at *
 have hmin : k.min <= 0:=by cases k <;> simp [IntKind.min,IntKind.signed,IntKind.bits]
 have hmax : 0 <= k.max:=by cases k <;> simp [IntKind.max,IntKind.signed,IntKind.bits]
 have h1 : (a.tmod b).natAbs <= a.natAbs:=by
  rw [Int.natAbs_tmod]; exact Nat.mod_le _ _
 rcases Int.le_total 0 a with ha | ha
 ·have : 0 <= a.tmod b:=Int.tmod_nonneg _ ha
  omega
 ·have : a.tmod b <= 0:=by
   have h2:=Int.tmod_nonneg b (a:=-a) (by omega)
   rw [Int.neg_tmod] at h2; omega
  omega

section
variable {c : Cx} {P : Program}

theorem dM {kd : IntKind} {n : Int} (h : uX kd n) : VV c (.int kd n) (.int kd n):=dZ rfl rfl (by simp only [VR,Rd]; exact ⟨trivial,h⟩)
theorem JJ {s : List UInt8} (h : s.length <= maxL) : VV c (.str s) (.string ⟨s.toArray⟩):=dZ rfl rfl (by simp only [VR,Rd]; exact ⟨trivial,h⟩)
theorem iF {p : Prop} {b : Bool} (h : b = true ↔ p) : VV c (.dec p) (.bool b):=dZ rfl rfl (by simp only [VR,Rd]; exact ⟨b,rfl,h⟩)
theorem mM (b : Bool) : VV c (.bool b) (.bool b):=dZ rfl rfl (by simp only [VR,Rd])
theorem pV : VV c .tt (.bool true):=dZ rfl rfl (by simp only [VR,Rd])
theorem kK : VV c .ff (.bool false):=dZ rfl rfl (by simp only [VR,Rd])

theorem nG {kd : IntKind} {z : Int} {k : AV -> Prop} (h : arith kd z k) : ∃ R,VV c R (.int kd (kd.wrap z)) /\ k R:=by
 unfold arith at h
 split at h
 ·exact ⟨_,by rw [L6 h.1]; exact dM h.1,h.2⟩
 ·exact ⟨_,dM (oQ _ _),h⟩

theorem lV {A : AV} {k : AV -> Prop} {b : Bool} (hA : VV c A (.bool b)) (h : uU A k) : ∃ R,VV c R (.bool !b) /\ k R:=by
 unfold uU at h
 split at h
 ·have:=wC hA; simp at this; subst this; exact ⟨_,kK,h⟩
 ·have:=wE hA; simp at this; subst this; exact ⟨_,pV,h⟩
 ·have:=gX hA; simp at this; subst this; exact ⟨_,mM _,h⟩
 ·obtain ⟨b',h1,h2⟩:=kW hA; simp at h1; subst h1
  refine ⟨_,iF ?_,h⟩
  rw [<- h2]; simp
 ·exact h.elim

theorem Dn {x : AV} {k : AV -> Prop} {v : Value} (hx : VV c x v) (h : GN x k) : ∃ b,v = .bool b /\ VV c x (.bool b) /\ k x:=by
 unfold GN at h
 split at h
 ·have:=wC hx; subst this; exact ⟨_,rfl,hx,h⟩
 ·have:=wE hx; subst this; exact ⟨_,rfl,hx,h⟩
 ·have:=gX hx; subst this; exact ⟨_,rfl,hx,h⟩
 ·obtain ⟨b',h1,h2⟩:=kW hx; subst h1; exact ⟨_,rfl,hx,h⟩
 ·exact h.elim

theorem BF {A : AV} {k : AV -> Prop} {v : Value} (hA : VV c A v) (h : uU A k) : ∃ b,v = .bool b:=by
 unfold uU at h
 split at h
 ·exact ⟨_,wC hA⟩
 ·exact ⟨_,wE hA⟩
 ·exact ⟨_,gX hA⟩
 ·obtain ⟨b',h1,_⟩:=kW hA; exact ⟨_,h1⟩
 ·exact h.elim

theorem Jv {A B : AV} {k : AV -> Prop} {v u : Value} (hA : VV c A v) (hB : VV c B u) (h : ZV A B k) :
  ∃ a b R,v = .bool a /\ u = .bool b /\ VV c R (.bool (a == b)) /\ k R:=by
 unfold ZV at h
 split at h
 ·obtain rfl:=wC hA
  obtain ⟨b,rfl,h2,h3⟩:=Dn hB h
  exact ⟨true,b,_,rfl,rfl,by simpa using h2,h3⟩
 ·obtain rfl:=wC hB
  obtain ⟨b,rfl,h2,h3⟩:=Dn hA h
  exact ⟨b,true,_,rfl,rfl,by simpa using h2,h3⟩
 ·obtain rfl:=wE hA
  obtain ⟨b,rfl⟩:=BF hB h
  obtain ⟨R,h2,h3⟩:=lV hB h
  exact ⟨false,b,_,rfl,rfl,by simpa using h2,h3⟩
 ·obtain rfl:=wE hB
  obtain ⟨b,rfl⟩:=BF hA h
  obtain ⟨R,h2,h3⟩:=lV hA h
  exact ⟨b,false,_,rfl,rfl,by simpa using h2,h3⟩
 ·obtain rfl:=gX hA
  obtain rfl:=gX hB
  exact ⟨_,_,_,rfl,rfl,iF (by simp),h⟩
 ·obtain ⟨a,rfl,ha⟩:=kW hA
  obtain ⟨b,rfl,hb⟩:=kW hB
  refine ⟨_,_,_,rfl,rfl,iF ?_,h⟩
  rw [<- ha,<- hb]; cases a <;> cases b <;> simp
 ·obtain ⟨a,rfl,ha⟩:=kW hA
  obtain rfl:=gX hB
  refine ⟨_,_,_,rfl,rfl,iF ?_,h⟩
  rw [<- ha]; rename_i b; cases a <;> cases b <;> simp
 ·obtain rfl:=gX hA
  obtain ⟨b,rfl,hb⟩:=kW hB
  refine ⟨_,_,_,rfl,rfl,iF ?_,h⟩
  rw [<- hb]; rename_i a _ _; cases a <;> cases b <;> simp
 ·exact h.elim

theorem CW {A B : AV} {k : AV -> Prop} {v u : Value} (hA : VV c A v) (hB : VV c B u) (h : CX A B k) :
  ∃ b R,((v = .nilIface /\ u = .nilIface /\ b = true) \/ (v = .nilIface /\ (∃ t x,u = .iface t x) /\ b = false) \/ ((∃ t x,v = .iface t x) /\ u = .nilIface /\ b = false)) /\ VV c R (.bool b) /\ k R:=by
 unfold CX at h
 split at h
 ·exact ⟨true,_,.inl ⟨AU hA,AU hB,rfl⟩,pV,h⟩
 ·obtain ⟨x,h1,_⟩:=QE hB
  exact ⟨false,_,.inr (.inl ⟨AU hA,⟨_,_,h1⟩,rfl⟩),kK,h⟩
 ·obtain ⟨x,h1,_⟩:=QE hA
  exact ⟨false,_,.inr (.inr ⟨⟨_,_,h1⟩,AU hB,rfl⟩),kK,h⟩
 ·exact h.elim

theorem zL {A B : AV} {k : AV -> Prop} {v u : Value} (hA : VV c A v) (hB : VV c B u) (h : vH A B k) :
  ∃ b R a,v = .pointer a /\ u = .pointer none /\ b = a.isNone /\ VV c R (.bool b) /\ k R:=by
 unfold vH at h
 split at h
 ·exact ⟨true,_,none,Ef hA,Ef hB,rfl,pV,h⟩
 ·obtain ⟨a,ds,h1,_⟩:=SK hA
  exact ⟨false,_,some a,h1,Ef hB,rfl,kK,h⟩
 ·exact ⟨false,_,_,(yY hA).2,Ef hB,rfl,kK,h⟩
 ·exact h.elim

end
end Go.AL

namespace Go.AL

theorem jl {α : Type} {k : α -> Prop} : ∀ {l : List α} {i : Nat},qw l i k ↔ ∃ x,l[i]? = some x /\ k x
 | [],i=>by simp [qw]
 | x :: l,0=>by simp [qw]
 | x :: l,i + 1=>by simp only [qw,List.getElem?_cons_succ]; exact jl

theorem qE {k : List AV -> Prop} {y : AV} : ∀ {l : List AV} {i : Nat},jr l i y k -> i < l.length /\ k (l.set i y)
 | [],i,h=>by simp [jr] at h
 | x :: l,0,h=>by simpa [jr] using h
 | x :: l,i + 1,h=>by
   simp only [jr] at h
   have:=qE h
   exact ⟨by simp; exact this.1,by simpa using this.2⟩

theorem wP {k : List Nat -> Prop} {x : Nat} : ∀ {l : List Nat},IW l x k ↔ k (l ++ [x])
 | []=>Iff.rfl
 | y :: l=>by simp only [IW]; exact wP

theorem G7 {k : List AV -> Prop} {m : List AV} : ∀ {l : List AV},OC l m k ↔ k (l ++ m)
 | []=>Iff.rfl
 | y :: l=>by simp only [OC]; exact G7

theorem EY {k : List AV -> Prop} {z : AV} : ∀ {n : Nat},J5 z n k ↔ k (List.replicate n z)
 | 0=>Iff.rfl
 | n + 1=>by simp only [J5]; exact EY

theorem bI {a b : Nat} {k : Prop} : kJ a b k ↔ a = b /\ k:=by
 unfold kJ
 cases h : Nat.beq a b with
 | true=>simp [Nat.eq_of_beq_eq_true h]
 | false=>simp [gU h]

theorem vg {A : AV} {k : Prop} : ED A k ↔ isVal A = true /\ k:=by
 unfold ED
 cases isVal A <;> simp

def DN : AV -> List Nat -> Option AV
 | A,[]=>some A
 | .ag l,i :: p=>match l[i]? with | some x=>DN x p | none=>none
 | _,_ :: _=>none

theorem lu {k : AV -> Prop} : ∀ {p : List Nat} {A : AV},vM A p k ↔ ∃ x,DN A p = some x /\ k x
 | [],A=>by simp [vM,DN]
 | i :: p,A=>by
   cases A with
   | ag l =>
     simp only [vM,DN,jl]
     constructor
     ·rintro ⟨x,h1,h2⟩
      obtain ⟨y,h3,h4⟩:=lu.1 h2
      exact ⟨y,by simp only [h1]; exact h3,h4⟩
     ·rintro ⟨y,h3,h4⟩
      cases hx : l[i]? with
      | none=>simp [hx] at h3
      | some x=>simp only [hx] at h3; exact ⟨x,rfl,lu.2 ⟨y,h3,h4⟩⟩
   | _=>simp [vM,DN]

theorem sD {c : Cx} : ∀ {l : List AV} {cs : List Value} {i : Nat} {x : AV},lT c l cs -> l[i]? = some x ->
  ∃ pre xs post,cs = pre ++ xs ++ post /\ pre.length = iJ (l.take i) /\ VR c x xs /\ ∀ y ys,VR c y ys -> lT c (l.set i y) (pre ++ ys ++ post)
 | [],_,_,_,_,h=>by simp at h
 | z :: l,cs,0,x,hr,h=>by
   simp only [lT] at hr
   obtain ⟨a,d,rfl,h2,h3⟩:=hr
   obtain rfl : z = x:=by simpa using h
   refine ⟨[],a,d,by simp,by simp [iJ],h2,fun y ys hy=>?_⟩
   simp only [List.nil_append,List.set_cons_zero,lT]
   exact ⟨ys,d,rfl,hy,h3⟩
 | z :: l,cs,i + 1,x,hr,h=>by
   simp only [lT] at hr
   obtain ⟨a,d,rfl,h2,h3⟩:=hr
   obtain ⟨pre,xs,post,rfl,h5,h6,h7⟩:=sD h3 (by simpa using h : l[i]? = some x)
   refine ⟨a ++ pre,xs,post,by simp,by simp [iJ,gy _ _ h2,h5],h6,fun y ys hy=>?_⟩
   simp only [List.set_cons_succ,lT]
   exact ⟨a,pre ++ ys ++ post,by simp,h2,h7 y ys hy⟩

theorem Eh {c : Cx} : ∀ {p : List Nat} {A x : AV} {cs : List Value},VR c A cs -> DN A p = some x ->
  ∃ pre xs post,cs = pre ++ xs ++ post /\ pre.length = Fe A p /\ VR c x xs
 | [],A,x,cs,hr,h=>by
   obtain rfl : A = x:=by simpa [DN] using h
   exact ⟨[],cs,[],by simp,by cases A <;> simp [Fe],hr⟩
 | i :: p,A,x,cs,hr,h=>by
   cases A with
   | ag l =>
     simp only [DN] at h
     cases hx : l[i]? with
     | none=>simp [hx] at h
     | some y =>
       simp only [hx] at h
       simp only [VR] at hr
       obtain ⟨pre,ys,post,rfl,h2,h3,_⟩:=sD hr hx
       obtain ⟨pre',xs,post',rfl,h5,h6⟩:=Eh h3 h
       exact ⟨pre ++ pre',xs,post' ++ post,by simp,by simp only [List.length_append,Fe,hx,h2,h5],h6⟩
   | _=>simp [DN] at h

theorem qC {c : Cx} {k : AV -> Prop} {B : AV} {bs : List Value} (hB : VR c B bs) : ∀ {p : List Nat} {A : AV} {cs : List Value},VR c A cs -> zl A p B k ->
  ∃ A' x pre xs post,DN A p = some x /\ cs = pre ++ xs ++ post /\ pre.length = Fe A p /\ VR c x xs /\ VR c A' (pre ++ bs ++ post) /\ k A'
 | [],A,cs,hr,h=>by
   have h' : k B:=by cases A <;> simpa [zl] using h
   exact ⟨B,A,[],cs,[],by simp [DN],by simp,by cases A <;> simp [Fe],hr,by simpa using hB,h'⟩
 | i :: p,A,cs,hr,h=>by
   cases A with
   | ag l =>
     simp only [zl,jl] at h
     obtain ⟨x,hx,h⟩:=h
     simp only [VR] at hr
     obtain ⟨pre,ys,post,rfl,h2,h3,h4⟩:=sD hr hx
     obtain ⟨x',z,pre',xs,post',h5,rfl,h7,h8,h9,h10⟩:=qC hB h3 h
     have h11:=qE h10
     refine ⟨.ag (l.set i x'),z,pre ++ pre',xs,post' ++ post,by simp only [DN,hx,h5],by simp,by simp only [List.length_append,Fe,hx,h2,h7],h8,?_,h11.2⟩
     simp only [VR]
     have:=h4 x' _ h9
     simpa using this
   | _=>simp [zl] at h

theorem aU {c : Cx} {A : AV} {cs : List Value} (h : VR c A cs) (hA : dH A = false) : ∀ u ∈ cs,u.oneCell' = true:=by
 cases A with
 | ag l=>simp [dH] at hA
 | dec p=>simp only [VR,Rd] at h; obtain ⟨b,rfl,_⟩:=h; simp [Value.oneCell']
 | sl sz l tok =>
   cases tok with
   | no=>simp only [VR,Rd] at h; obtain ⟨_,⟨_,rfl⟩ | ⟨a,cap,rfl,_⟩⟩:=h <;> simp [Value.oneCell']
   | full=>simp only [VR,Rd] at h; obtain ⟨⟨_,⟨_,rfl⟩ | ⟨a,cap,rfl,_⟩⟩,_⟩:=h <;> simp [Value.oneCell']
   | own k=>simp only [VR,Rd] at h; obtain ⟨_,⟨_,⟨_,rfl⟩ | ⟨a,cap,rfl,_⟩⟩,_⟩:=h <;> simp [Value.oneCell']
 | jm t x=>simp only [VR] at h; obtain ⟨v,rfl,_⟩:=h; simp [Value.oneCell']
 | cp x=>simp only [VR,Rd] at h; obtain ⟨a,ds,rfl,_⟩:=h; simp [Value.oneCell']
 | fn f cap=>simp only [VR] at h; obtain ⟨vs,rfl,_⟩:=h; simp [Value.oneCell']
 | dV l=>simp only [VR,Rd] at h
 | und=>simp only [VR,Rd] at h
 | ptr=>simp only [VR] at h; obtain ⟨_,rfl⟩:=h; simp [Value.oneCell']
 | ms=>simp only [VR] at h; obtain ⟨_,rfl,_⟩:=h; simp [Value.oneCell']
 | mp=>simp only [VR] at h; obtain ⟨_,rfl⟩:=h; simp [Value.oneCell']
 | gs=>simp only [VR] at h; obtain ⟨_,⟨_,_,_,rfl⟩,_⟩:=h; simp [Value.oneCell']
 | bm=>simp only [VR] at h; obtain ⟨_,rfl⟩:=h; simp [Value.oneCell']
 | int=>simp only [VR,Rd] at h; obtain ⟨rfl,_⟩:=h; simp [Value.oneCell']
 | str=>simp only [VR,Rd] at h; obtain ⟨rfl,_⟩:=h; simp [Value.oneCell']
 | _=>simp only [VR,Rd] at h; subst h; simp [Value.oneCell']

mutual
theorem pW {c : Cx} : ∀ (A : AV) (cs : List Value),VR c A cs -> ∀ u ∈ cs,u.oneCell' = true
 | .ag l,cs,h=>by simp only [VR] at h; exact Dx l cs h
 | .bool _,_,h=>aU h rfl
 | .tt,_,h=>aU h rfl
 | .ff,_,h=>aU h rfl
 | .dec _,_,h=>aU h rfl
 | .int _ _,_,h=>aU h rfl
 | .str _,_,h=>aU h rfl
 | .dN,_,h=>aU h rfl
 | .jm _ _,_,h=>aU h rfl
 | .aG,_,h=>aU h rfl
 | .sl _ _ _,_,h=>aU h rfl
 | .ms _ _ _ _ _,_,h=>aU h rfl
 | .dV _,_,h=>aU h rfl
 | .ptr _ _ _,_,h=>aU h rfl
 | .cp _,_,h=>aU h rfl
 | .gK,_,h=>aU h rfl
 | .fn _ _,_,h=>aU h rfl
 | .aH,_,h=>aU h rfl
 | .mp _,_,h=>aU h rfl
 | .gs _ _,_,h=>aU h rfl
 | .bm _ _,_,h=>aU h rfl
 | .iQ,_,h=>aU h rfl
 | .und,_,h=>aU h rfl
theorem Dx {c : Cx} : ∀ (l : List AV) (cs : List Value),lT c l cs -> ∀ u ∈ cs,u.oneCell' = true
 | [],_,h=>by simp only [lT] at h; subst h; simp
 | x :: l,cs,h=>by
   simp only [lT] at h
   obtain ⟨a,d,rfl,h2,h3⟩:=h
   intro u hu
   rcases List.mem_append.1 hu with hu | hu
   ·exact pW x a h2 u hu
   ·exact Dx l d h3 u hu
end

section
variable {P : Program} {t : Nat} {i : TI}

theorem pY.under (h : pY P t i) : ∃ d,P.underlying t = some d /\ descOf P d = i.desc:=by
 have:=h.desc
 cases hd : P.underlying t with
 | none=>simp [hd] at this
 | some d=>simp [hd] at this; exact ⟨d,rfl,this⟩

theorem pY.I8 (h : pY P t i) (w : World) : (isAgg t).run P w = .ok (dH i.zero) w:=by
 obtain ⟨d,h1,h2⟩:=h.under
 rw [<- h.agg,<- h2]
 unfold isAgg
 simp only [Sem.run_bind,run_underlying h1,Result.andThen_ok]
 cases d <;> rfl

theorem pY.o7 (h : pY P t i) (w : World) : (sizeOf t).run P w = .ok (flat i.zero) w:=by
 obtain ⟨x,v,h1,h2,_⟩:=h.info
 unfold sizeOf typeInfo
 simp [h1,h2]

theorem pY.zq (h : pY P t i) (w : World) : ∃ v,(zeroValue t).run P w = .ok v w /\ eH i.zero v /\ ∀ w Im,Rd w Im i.zero v.cells.toList:=by
 obtain ⟨x,v,h1,h2,h3,h4,h5,h6⟩:=h.info
 refine ⟨v,?_,h5,h6⟩
 unfold zeroValue typeInfo
 simp [h1,h4]
end

theorem jw {P : Program} {L : Lay} {t : Nat} {x : AV} {k : Prop} (hL : dR P L) (h : yO L t x k) :
  isVal x = true /\ ∃ i,pY P t i /\ flat x = flat i.zero /\ dH x = dH i.zero /\ k:=by
 unfold yO at h
 obtain ⟨hv,h⟩:=vg.1 h
 refine ⟨hv,?_⟩
 obtain ⟨i,hi,h⟩:=Lay.bn hL h
 refine ⟨i,hi,?_⟩
 cases hb : Nat.beq (flat x) (flat i.zero) with
 | false=>simp [hb] at h
 | true =>
   simp only [hb] at h
   refine ⟨Nat.eq_of_beq_eq_true hb,?_⟩
   cases h1 : dH x <;> cases h2 : dH i.zero <;> simp [h1,h2] at h ⊢ <;> exact h

theorem qF {P : Program} {c : Cx} {t : Nat} {i : TI} {x : AV} {cs : List Value} {b off : Nat} (hT : pY P t i) (hf : flat x = flat i.zero) (ha : dH x = dH i.zero)
  (hr : VR c x cs) (hc : ∀ j v,cs[j]? = some v -> c.w.cell? ⟨b,off + j,none⟩ = some v) : (loadVar t ⟨b,off,none⟩).run P c.w = .ok (mkV x cs) c.w:=by
 unfold loadVar
 simp only [Sem.run_bind,hT.I8,Result.andThen_ok]
 cases hz : dH i.zero with
 | true =>
   have hl : cs.length = flat i.zero:=(gy _ _ hr).trans hf
   have:=run_loadCells_list (P:=P) c.w ⟨b,off,none⟩ cs (fun j v hj=>by
    have:=hc j v hj
    unfold Addr.add; split
    ·rename_i h0; subst h0; simpa using this
    ·simpa using this)
   simp only [if_true,Sem.run_bind,hT.o7,Result.andThen_ok,<- hl,this,Sem.run_pure]
   rw [hz] at ha
   cases x <;> simp [dH] at ha
   rfl
 | false =>
   obtain ⟨v,rfl,hv⟩:=nJ hr (by rw [ha,hz])
   have:=hc 0 v rfl
   simp only [Nat.add_zero] at this
   simp only [Bool.false_eq_true,if_false,run_load,this]
   rw [hz] at ha
   have : mkV x [v] = v:=by cases x <;> simp [dH] at ha <;> rfl
   rw [this]

theorem tq {P : Program} {w : World} {t : Nat} {i : TI} {v : Value} {b off : Nat} {cur : Array Value} {ty : Nat} (hT : pY P t i) (hf : v.cells.size = flat i.zero)
  (hg : w.heap[b]? = some (.cells cur ty)) (hl : off + v.cells.size <= cur.size) (h1 : ∀ u ∈ v.cells.toList,u.oneCell' = true) :
  (storeVar t ⟨b,off,none⟩ v).run P w = .ok () (w.setRow b (cur.toList.take off ++ v.cells.toList ++ cur.toList.drop (off + v.cells.size)).toArray):=by
 unfold storeVar
 have:=run_storeCells_at P b off ty v.cells.toList 0 cur w hg (by simpa using hl) h1
 simp only [Nat.add_zero,Array.length_toList] at this
 simp only [Sem.run_bind,hT.o7,Result.andThen_ok,hf,ne_eq,not_true_eq_false,if_false]
 rw [hf] at this
 exact this

theorem cell_of_heap {w : World} {b o : Nat} {cs : Array Value} {ty : Nat} {fr : Nat × Nat} (h : w.heap[b]? = some (.cells cs ty fr)) : w.cell? ⟨b,o,none⟩ = cs[o]?:=by
 simp [World.cell?,h]

theorem nR {c : Cx} {A : AV} {v : Value} (h : EV c A v) (hv : isVal A = true) : VV c A v:=by
 cases A <;> first | exact h | (simp [isVal] at hv)

end Go.AL

namespace Go.AL

theorem sG {c d : Cx} (h : c.Le d) {sz : Nat} : ∀ {l : List AV} {cs : List Value},LH c sz l cs -> LH d sz l cs
 | [],_,_=>trivial
 | x :: l,cs,hr=>by
   obtain ⟨a,e,h1,h2,h3,h4⟩:=hr
   exact ⟨a,e,h1,h2,eu h.im _ _ h3,sG h h4⟩

theorem AY {c d : Cx} (h : c.Le d) : ∀ {l : List (AV × AV)} {es : List MapEntry},Dw c l es -> Dw d l es
 | [],_,hr=>hr
 | (x,y) :: l,es,hr=>by
   obtain ⟨e,r,h1,h2,h3,h4⟩:=hr
   exact ⟨e,r,h1,oJ h h2,oJ h h3,AY h h4⟩

theorem nK {c d : Cx} (h : c.Le d) {k : Nat} {o : HO} (hk : k < c.nx) (ht : d.tk k = c.tk k)
  (hb : ∀ b,aQ c (k,o) = some b -> d.w.heap[b]? = c.w.heap[b]? /\ ∀ x,d.Im b x -> c.Im b x) (ho : o.Ok c k) : o.Ok d k:=by
 cases o with
 | box A =>
   obtain ⟨cs,ty,h1,h2,h3⟩:=ho
   have:=hb (c.ρ k) rfl
   refine ⟨cs,ty,?_,oK h _ _ h2,?_⟩
   ·rw [h.ρ k hk,this.1,h1]
   ·rw [h.ρ k hk]; exact fun x hx=>h3 x (this.2 x hx)
 | arr sz cap l =>
   obtain ⟨cs,ty,h1,h2,h3,h4,h5,h6⟩:=ho
   have:=hb (c.ρ k) rfl
   refine ⟨cs,ty,?_,h2,h3,h4,sG h h5,?_⟩
   ·rw [h.ρ k hk,this.1,h1]
   ·rw [h.ρ k hk]; exact fun x hx=>h6 x (this.2 x hx)
 | tok sz top =>
   simp only [HO.Ok,ht] at ho ⊢
   by_cases he : (c.tk k).2 = top
   ·exact .inl he
   ·rcases ho with ho | ⟨b,cs,ty,h1,h2,h3,h4,h5,h6⟩
    ·exact .inl ho
    ·have:=hb b (by simp [aQ,he,h1])
     exact .inr ⟨b,cs,ty,h1,by rw [this.1,h2],h3,h4,h5,fun x hx hi=>h6 x hx (this.2 x hi)⟩
 | dU sh es =>
   obtain ⟨ents,clock,h1,h2,h3⟩:=ho
   have:=hb (c.ρ k) rfl
   refine ⟨ents,clock,?_,AY h h2,h3⟩
   rw [h.ρ k hk,this.1,h1]
 | iT sz l =>
   simp only [HO.Ok,ht] at ho ⊢
   rcases ho with ho | ⟨b,cs,ty,h1,h2,h3,h4,h5,h6,h7⟩
   ·exact .inl ho
   ·have:=hb b (by simp [aQ,h1])
    exact .inr ⟨b,cs,ty,h1,by rw [this.1,h2],h3,h4,h5,sG h h6,fun x hx=>h7 x (this.2 x hx)⟩
 | gone=>trivial

theorem YX {c : Cx} {k : Nat} {o : HO} (ho : o.Ok c k) {b : Nat} (hb : aQ c (k,o) = some b) : b < c.w.heap.size:=by
 have key : ∀ {x : Obj},c.w.heap[b]? = some x -> b < c.w.heap.size:=fun h=>(Array.getElem?_eq_some_iff.1 h).1
 cases o with
 | box A=>obtain ⟨cs,ty,h1,_⟩:=ho; simp [aQ] at hb; subst hb; exact key h1
 | arr sz cap l=>obtain ⟨cs,ty,h1,_⟩:=ho; simp [aQ] at hb; subst hb; exact key h1
 | tok sz top =>
   simp only [aQ] at hb
   split at hb
   ·simp at hb
   ·rcases ho with ho | ⟨b',cs,ty,h1,h2,_⟩
    ·contradiction
    ·simp [h1] at hb; subst hb; exact key h2
 | dU sh es=>obtain ⟨ents,clock,h1,_⟩:=ho; simp [aQ] at hb; subst hb; exact key h1
 | iT sz l =>
   rcases ho with ⟨h1,_⟩ | ⟨b',cs,ty,h1,h2,_⟩
   ·simp [aQ,h1] at hb
   ·simp [aQ,h1] at hb; subst hb; exact key h2
 | gone=>simp [aQ] at hb

theorem HR.vY {c : Cx} {H : Heap} (h : HR c H) {x : Nat × HO} (hx : x ∈ H) {b : Nat} (hb : aQ c x = some b) : b < c.w.heap.size :=
 YX (h.ok x hx) hb

theorem jS {c d : Cx} {x : Nat × HO} (hρ : d.ρ x.1 = c.ρ x.1) (ht : d.tk x.1 = c.tk x.1) : aQ d x = aQ c x:=by
 unfold aQ; rw [hρ,ht]

theorem jX {α : Type} {R : α -> α -> Prop} : ∀ {l : List α},l.Pairwise R -> ∀ {S : α -> α -> Prop},(∀ x ∈ l,∀ y ∈ l,R x y -> S x y) -> l.Pairwise S
 | [],_,_,_=>.nil
 | x :: l,h,S,hS=>by
   rw [List.pairwise_cons] at h ⊢
   exact ⟨fun y hy=>hS x (by simp) y (by simp [hy]) (h.1 y hy),jX h.2 fun a ha b hb=>hS a (by simp [ha]) b (by simp [hb])⟩

theorem Tr.keep {c d : Cx} {H : Heap} (hr : HR c H) (le : c.Le d) (hnx : d.nx = c.nx) (htp : d.tp = c.tp) (htk : d.tk = c.tk)
  (os : d.w.os = c.w.os) (tape : d.w.tape = c.w.tape) (output : d.w.output = c.w.output) (size : c.w.heap.size <= d.w.heap.size)
  (fr : ∀ b,b < c.w.heap.size -> d.w.heap[b]? = c.w.heap[b]?) (im : ∀ b o,d.Im b o -> c.Im b o \/ (c.w.heap.size <= b /\ b < d.w.heap.size)) : Tr c H d H:=by
 have hbk : ∀ x ∈ H,aQ d x = aQ c x:=fun x hx=>jS (le.ρ _ (by rw [hr.nx]; exact bH hr.ids x hx)) (by rw [htk])
 refine ⟨⟨hnx.trans hr.nx,htp.trans hr.tp,hr.ids,fun b o h=>?_,fun x hx=>?_,?_⟩,le,os,tape,output,size,fun b hb _=>fr b hb,fun y hy b hb=>.inr ⟨y,hy,by rw [<- hbk y hy]; exact hb⟩,fun b o h=>(im b o h).imp id (fun h=>.inl h.1)⟩
 ·rcases im b o h with h | h
  ·have:=hr.im b o h; omega
  ·exact h.2
 ·refine nK le (by rw [hr.nx]; exact bH hr.ids x hx) (by rw [htk]) (fun b hb=>?_) (hr.ok x hx)
  have hlt:=hr.vY hx hb
  exact ⟨fr b hlt,fun o ho=>(im b o ho).resolve_right (by omega)⟩
 ·exact jX hr.apart fun x hx y hy h b hb=>by rw [hbk y hy]; rw [hbk x hx] at hb; exact h b hb

def Cx.alloc (c : Cx) (o : Obj) : Cx:={ c with w:=c.w.alloc o,Im:=fun b x=>c.Im b x \/ b = c.w.heap.size }

theorem fH (w : World) (o : Obj) {b : Nat} (h : b < w.heap.size) : (w.alloc o).heap[b]? = w.heap[b]?:=by
 show (w.heap.push o)[b]? = _
 rw [Array.getElem?_push,if_neg (by omega)]
theorem alloc_heap_new (w : World) (o : Obj) : (w.alloc o).heap[w.heap.size]? = some o:=by
 show (w.heap.push o)[_]? = _
 simp

theorem jc {w w' : World} {b o : Nat} (h : w'.heap[b]? = w.heap[b]?) : w'.cell? ⟨b,o,none⟩ = w.cell? ⟨b,o,none⟩:=by
 simp [World.cell?,h]

theorem Tr.alloc {c : Cx} {H : Heap} (hr : HR c H) (o : Obj) : Tr c H (c.alloc o) H:=by
 refine Tr.keep hr ⟨fun b x h=>⟨.inl h,?_⟩,Nat.le_refl _,fun _ _=>rfl,fun _ _ _ h=>.inl ⟨h,rfl⟩⟩ rfl rfl rfl rfl rfl rfl (by simp [Cx.alloc]) (fun b hb=>fH _ _ hb) (fun b x h=>?_)
 ·exact jc (fH _ _ (hr.im b x h))
 ·rcases h with h | h
  ·exact .inl h
  ·subst h; exact .inr ⟨Nat.le_refl _,by simp [Cx.alloc]⟩

theorem Tr.drew {c : Cx} {H : Heap} (hr : HR c H) : Tr c H { c with w:=c.w.drew } H :=
 Tr.keep hr ⟨fun _ _ h=>⟨h,rfl⟩,Nat.le_refl _,fun _ _=>rfl,fun _ _ _ h=>.inl ⟨h,rfl⟩⟩ rfl rfl rfl rfl rfl rfl (Nat.le_refl _) (fun _ _=>rfl) (fun _ _ h=>.inl h)

def Cx.push (c : Cx) (o : Obj) (H : Heap) : Cx :=
 { c with w:=c.w.alloc o,ρ:=fun k=>if k = c.nx then c.w.heap.size else c.ρ k,nx:=c.nx + 1,tp:=dD H }

theorem jV {H : Heap} {i k : Nat} {o : HO} (h : i ≠ k) : dD ((i,o) :: H) k = dD H k:=by
 unfold dD
 simp only [hget]
 cases hb : Nat.beq i k with
 | true=>exact absurd (Nat.eq_of_beq_eq_true hb) h
 | false=>rfl

theorem sU {H : Heap} {i : Nat} {o : HO} : dD ((i,o) :: H) i = (match o with | .tok _ n=>some n | .iT _ l=>some l.length | _=>none):=by
 unfold dD
 simp only [hget,Nat.beq_refl]
 cases o <;> rfl

theorem J6 {c : Cx} {H : Heap} (hr : HR c H) (o : Obj) (ho : HO) : c.Le (c.push o ((nextId H,ho) :: H)):=by
 refine ⟨fun b x h=>⟨h,jc (fH _ _ (hr.im b x h))⟩,Nat.le_succ _,fun k hk=>?_,fun k n hk hn=>?_⟩
 ·simp only [Cx.push]; rw [if_neg (by omega)]
 ·refine .inl ⟨?_,rfl⟩
  have : nextId H ≠ k:=by rw [<- hr.nx]; omega
  simp only [Cx.push] at hn
  rw [jV this] at hn
  rw [hr.tp]; exact hn

theorem vkρ {c : Cx} {H : Heap} (hr : HR c H) (o : Obj) (G : Heap) : (c.push o G).ρ (nextId H) = c.w.heap.size:=by simp only [Cx.push]; rw [if_pos hr.nx.symm]

theorem Tr.push {c : Cx} {H : Heap} (hr : HR c H) (o : Obj) (ho : HO) (hblk : ∀ d : Cx,aQ d (nextId H,ho) = some (d.ρ (nextId H)))
  (hok : ho.Ok (c.push o ((nextId H,ho) :: H)) (nextId H)) : Tr c H (c.push o ((nextId H,ho) :: H)) ((nextId H,ho) :: H):=by
 have hlt : ∀ x ∈ H,x.1 < c.nx:=fun x hx=>by rw [hr.nx]; exact bH hr.ids x hx
 have le:=J6 hr o ho
 have hbk : ∀ x ∈ H,aQ (c.push o ((nextId H,ho) :: H)) x = aQ c x:=fun x hx=>jS (le.ρ _ (hlt x hx)) rfl
 have hρ : (c.push o ((nextId H,ho) :: H)).ρ (nextId H) = c.w.heap.size:=by simp only [Cx.push]; rw [if_pos hr.nx.symm]
 refine ⟨⟨?_,rfl,?_,?_,?_,?_⟩,le,rfl,rfl,rfl,by simp [Cx.push],fun b hb _=>fH _ _ hb,?_,fun b x h=>.inl h⟩
 ·simp only [Cx.push,nextId,hr.nx]
 ·exact ⟨fun x hx=>bH hr.ids x hx,hr.ids⟩
 ·intro b x h
  have:=hr.im b x h
  simp only [Cx.push,World.size_alloc]; omega
 ·intro x hx
  rcases List.mem_cons.1 hx with rfl | hx
  ·exact hok
  ·refine nK le (hlt x hx) rfl (fun b hb=>?_) (hr.ok x hx)
   exact ⟨fH _ _ (hr.vY hx hb),fun y hy=>hy⟩
 ·rw [List.pairwise_cons]
  constructor
  ·intro y hy b hb hb'
   rw [hblk,hρ] at hb
   rw [hbk y hy] at hb'
   have:=hr.vY hy hb'
   simp at hb; omega
  ·exact jX hr.apart fun x hx y hy h b hb=>by rw [hbk y hy]; rw [hbk x hx] at hb; exact h b hb
 ·intro y hy b hb
  rcases List.mem_cons.1 hy with rfl | hy
  ·rw [hblk,hρ] at hb; simp at hb; exact .inl (by omega)
  ·rw [hbk y hy] at hb; exact .inr ⟨y,hy,hb⟩

end Go.AL

namespace Go.AL

theorem fO {R : Nat × HO -> Nat × HO -> Prop} : ∀ {H : Heap},ay H -> (∀ x ∈ H,∀ y ∈ H,x.1 ≠ y.1 -> R x y) -> H.Pairwise R
 | [],_,_=>.nil
 | (i,o) :: H,hi,h=>by
   simp only [ay] at hi
   rw [List.pairwise_cons]
   exact ⟨fun y hy=>h _ (by simp) y (by simp [hy]) (by have:=hi.1 y hy; simp; omega),fO hi.2 fun x hx y hy=>h x (by simp [hx]) y (by simp [hy])⟩

theorem zH {R : Nat × HO -> Nat × HO -> Prop} (hs : ∀ x y,R x y -> R y x) : ∀ {H : Heap},H.Pairwise R -> ∀ x ∈ H,∀ y ∈ H,x.1 ≠ y.1 -> R x y
 | [],_,x,hx,_,_,_=>by simp at hx
 | z :: H,h,x,hx,y,hy,hn=>by
   rw [List.pairwise_cons] at h
   rcases List.mem_cons.1 hx with ex | ex <;> rcases List.mem_cons.1 hy with ey | ey
   ·subst ex; subst ey; exact absurd rfl hn
   ·subst ex; exact h.1 y ey
   ·subst ey; exact hs _ _ (h.1 x ex)
   ·exact zH hs h.2 x ex y ey hn

theorem HR.apart' {c : Cx} {H : Heap} (h : HR c H) {x y : Nat × HO} (hx : x ∈ H) (hy : y ∈ H) (hn : x.1 ≠ y.1) {b : Nat} (hb : aQ c x = some b) : aQ c y ≠ some b :=
 zH (R:=fun x y=>∀ b,aQ c x = some b -> aQ c y ≠ some b) (fun _ _ h b hb hb'=>h b hb' hb) h.apart x hx y hy hn b hb

theorem iH : ∀ {H : Heap} {k : Nat} {o' : HO} {x : Nat × HO},ay H -> x ∈ hset H k o' -> x = (k,o') \/ (x ∈ H /\ x.1 ≠ k)
 | [],_,_,_,_,h=>by simp [hset] at h
 | (i,o) :: H,k,o',x,hi,h=>by
   simp only [ay] at hi
   simp only [hset] at h
   cases hb : Nat.beq i k with
   | true =>
     have e:=Nat.eq_of_beq_eq_true hb
     rw [hb] at h
     rcases List.mem_cons.1 h with h | h
     ·exact .inl (by rw [h,e])
     ·exact .inr ⟨List.mem_cons_of_mem _ h,by have:=hi.1 x h; omega⟩
   | false =>
     rw [hb] at h
     rcases List.mem_cons.1 h with h | h
     ·exact .inr ⟨by rw [h]; exact List.mem_cons_self,by rw [h]; exact gU hb⟩
     ·exact (iH hi.2 h).imp id fun h=>⟨List.mem_cons_of_mem _ h.1,h.2⟩

theorem zO : ∀ {H : Heap} {k : Nat} {o' : HO} {x : Nat × HO},x ∈ hset H k o' -> ∃ y ∈ H,y.1 = x.1
 | [],_,_,_,h=>by simp [hset] at h
 | (i,o) :: H,k,o',x,h=>by
   simp only [hset] at h
   cases hb : Nat.beq i k with
   | true =>
     rw [hb] at h
     rcases List.mem_cons.1 h with rfl | h
     ·exact ⟨(i,o),List.mem_cons_self,rfl⟩
     ·exact ⟨x,List.mem_cons_of_mem _ h,rfl⟩
   | false =>
     rw [hb] at h
     rcases List.mem_cons.1 h with rfl | h
     ·exact ⟨(i,o),List.mem_cons_self,rfl⟩
     ·obtain ⟨y,hy,he⟩:=zO h; exact ⟨y,by simp [hy],he⟩

theorem pG : ∀ {H : Heap} {k : Nat} {o' : HO},ay H -> ay (hset H k o')
 | [],_,_,h=>h
 | (i,o) :: H,k,o',h=>by
   simp only [ay] at h
   simp only [hset]
   cases Nat.beq i k with
   | true=>exact ⟨h.1,h.2⟩
   | false =>
     refine ⟨fun x hx=>?_,pG h.2⟩
     obtain ⟨y,hy,he⟩:=zO hx
     have:=h.1 y hy; omega

theorem vI : ∀ {H : Heap} {k : Nat} {o' : HO},nextId (hset H k o') = nextId H
 | [],_,_=>rfl
 | (i,o) :: H,k,o'=>by
   simp only [hset]
   cases Nat.beq i k <;> rfl

theorem tN : ∀ {H : Heap} {k j : Nat} {o' : HO},j ≠ k -> hget (hset H k o') j = hget H j
 | [],_,_,_,_=>rfl
 | (i,o) :: H,k,j,o',h=>by
   simp only [hset]
   cases hb : Nat.beq i k with
   | true =>
     obtain rfl:=Nat.eq_of_beq_eq_true hb
     simp only [hget]
     cases hc : Nat.beq i j with
     | true=>exact absurd (Nat.eq_of_beq_eq_true hc).symm h
     | false=>rfl
   | false =>
     simp only [hget]
     cases Nat.beq i j with
     | true=>rfl
     | false=>exact tN h

theorem ku : ∀ {H : Heap} {k : Nat} {o o' : HO},hget H k = some o -> hget (hset H k o') k = some o'
 | [],_,_,_,h=>by simp [hget] at h
 | (i,x) :: H,k,o,o',h=>by
   simp only [hset]
   cases hb : Nat.beq i k with
   | true=>simp only [hget]; rw [hb]
   | false =>
     simp only [hget] at h ⊢
     rw [hb] at h ⊢
     exact ku h

theorem Tr.set {c d : Cx} {H : Heap} {k : Nat} {o o' : HO} (hr : HR c H) (hk : hget H k = some o) (le : c.Le d) (hnx : d.nx = c.nx) (htp : d.tp = dD (hset H k o'))
  (htk : ∀ j,j ≠ k -> d.tk j = c.tk j) (os : d.w.os = c.w.os) (tape : d.w.tape = c.w.tape) (output : d.w.output = c.w.output) (size : c.w.heap.size <= d.w.heap.size)
  (fr : ∀ b,b < c.w.heap.size -> aQ c (k,o) ≠ some b -> d.w.heap[b]? = c.w.heap[b]?)
  (im : ∀ b x,d.Im b x -> c.Im b x \/ (c.w.heap.size <= b /\ b < d.w.heap.size) \/ aQ c (k,o) = some b)
  (hblk : ∀ b,aQ d (k,o') = some b -> c.w.heap.size <= b \/ aQ c (k,o) = some b) (hok : o'.Ok d k) : Tr c H d (hset H k o'):=by
 have hkm:=gZ hk
 have hlt : ∀ x ∈ H,x.1 < c.nx:=fun x hx=>by rw [hr.nx]; exact bH hr.ids x hx
 have hbk : ∀ x ∈ H,x.1 ≠ k -> aQ d x = aQ c x:=fun x hx hn=>jS (le.ρ _ (hlt x hx)) (htk _ hn)
 refine ⟨⟨?_,htp,pG hr.ids,?_,?_,?_⟩,le,os,tape,output,size,?_,?_,?_⟩
 ·rw [vI,hnx,hr.nx]
 ·intro b x h
  rcases im b x h with h | h | h
  ·have:=hr.im b x h; omega
  ·exact h.2
  ·have:=hr.vY hkm h; omega
 ·intro x hx
  rcases iH hr.ids hx with rfl | ⟨hx,hn⟩
  ·exact hok
  ·refine nK le (hlt x hx) (htk _ hn) (fun b hb=>?_) (hr.ok x hx)
   have hlt':=hr.vY hx hb
   have hne : aQ c (k,o) ≠ some b:=fun h=>hr.apart' hkm hx (fun e=>hn e.symm) h hb
   refine ⟨fr b hlt' hne,fun y hy=>?_⟩
   rcases im b y hy with h | h | h
   ·exact h
   ·omega
   ·exact absurd h hne
 ·refine fO (pG hr.ids) ?_
  intro x hx y hy hn b hb hb'
  rcases iH hr.ids hx with rfl | ⟨hx,hxn⟩ <;> rcases iH hr.ids hy with rfl | ⟨hy,hyn⟩
  ·exact hn rfl
  ·rw [hbk y hy hyn] at hb'
   rcases hblk b hb with h | h
   ·have:=hr.vY hy hb'; omega
   ·exact hr.apart' hkm hy (fun e=>hyn e.symm) h hb'
  ·rw [hbk x hx hxn] at hb
   rcases hblk b hb' with h | h
   ·have:=hr.vY hx hb; omega
   ·exact hr.apart' hkm hx (fun e=>hxn e.symm) h hb
  ·rw [hbk x hx hxn] at hb
   rw [hbk y hy hyn] at hb'
   exact hr.apart' hx hy hn hb hb'
 ·intro b hb hn
  exact fr b hb (hn _ hkm)
 ·intro y hy b hb
  rcases iH hr.ids hy with rfl | ⟨hy,hyn⟩
  ·exact (hblk b hb).imp id fun h=>⟨_,hkm,h⟩
  ·rw [hbk y hy hyn] at hb; exact .inr ⟨y,hy,hb⟩
 ·intro b x h
  rcases im b x h with h | h | h
  ·exact .inl h
  ·exact .inr (.inl h.1)
  ·exact .inr (.inr ⟨_,hkm,h⟩)

theorem jk {H : Heap} {k : Nat} {o o' : HO} (hk : hget H k = some o) (h1 : ∀ s n,o ≠ .tok s n) (h2 : ∀ s n,o' ≠ .tok s n)
  (h3 : ∀ s l,o ≠ .iT s l:=by intros; simp) (h4 : ∀ s l,o' ≠ .iT s l:=by intros; simp) : dD (hset H k o') = dD H:=by
 funext j
 unfold dD
 by_cases hj : j = k
 ·subst hj
  rw [ku hk,hk]
  cases o <;> cases o' <;> first | rfl | exact absurd rfl (h1 _ _) | exact absurd rfl (h2 _ _) | exact absurd rfl (h3 _ _) | exact absurd rfl (h4 _ _)
 ·rw [tN hj]

theorem Tr.write {c : Cx} {H : Heap} {k : Nat} {o o' : HO} {cur cs : Array Value} {ty : Nat} (hr : HR c H) (hk : hget H k = some o)
  (_hg : c.w.heap[c.ρ k]? = some (.cells cur ty)) (hb : ∀ d : Cx,aQ d (k,o) = some (d.ρ k)) (hb' : ∀ d : Cx,aQ d (k,o') = some (d.ρ k)) (him : ∀ x,¬ c.Im (c.ρ k) x)
  (h1 : ∀ s n,o ≠ .tok s n) (h2 : ∀ s n,o' ≠ .tok s n)
  (hok : o'.Ok { c with w:=c.w.setRow (c.ρ k) cs } k) : Tr c H { c with w:=c.w.setRow (c.ρ k) cs } (hset H k o'):=by
 have hother : ∀ b,b ≠ c.ρ k -> (c.w.setRow (c.ρ k) cs).heap[b]? = c.w.heap[b]?:=fun b hb=>setRow_other c.w _ b _ hb
 refine Tr.set hr hk ⟨fun b x h=>⟨h,?_⟩,Nat.le_refl _,fun _ _=>rfl,fun _ _ _ h=>.inl ⟨h,rfl⟩⟩ rfl ?_ (fun _ _=>rfl) rfl rfl rfl (by simp [World.setRow]) (fun b hb' hn=>hother b ?_) (fun b x h=>.inl h) (fun b h=>.inr ?_) hok
 ·exact jc (hother b (fun e=>him x (e ▸ h)))
 ·rw [jk hk h1 h2 (by rintro s l rfl; have:=hb { c with tk:=fun _=>(none,0) }; simp [aQ] at this) (by rintro s l rfl; have:=hb' { c with tk:=fun _=>(none,0) }; simp [aQ] at this)]; exact hr.tp
 ·intro e; exact hn (by rw [hb,e])
 ·rw [hb'] at h; rw [hb]; exact h

end Go.AL

namespace Go.AL

theorem Rt {c : Cx} {s : Nat} {cs : List Value} (h : VR c .aG cs) : Rd c.w c.Im (.sl s [] .no) cs:=by
 simp only [VR,Rd] at h ⊢
 exact ⟨by simp [maxL],.inl ⟨trivial,h⟩⟩

theorem sl_no {c : Cx} {s : Nat} {l : List AV} {t : Tk} {cs : List Value} (h : VR c (.sl s l t) cs) : Rd c.w c.Im (.sl s l .no) cs:=by
 cases t with
 | no=>simpa only [VR] using h
 | full=>simp only [VR] at h; exact h.1
 | own k=>simp only [VR] at h; exact h.2.1

theorem iE : ∀ {l m : List AV},bW l m -> l.length = m.length
 | [],[],_=>rfl
 | [],_ :: _,h=>by simp only [bW] at h
 | _ :: _,[],h=>by simp only [bW] at h
 | x :: l,y :: m,h=>by simp only [bW] at h; simp [iE h.2]

theorem Xc {A B : AV} (h : qY A B) : dH B = dH A:=by
 cases A with
 | ag l=>cases B <;> simp only [qY] at h <;> first | rfl | cases h
 | sl s l t=>cases B <;> first | rfl | (cases t <;> simp only [qY] at h <;> cases h)
 | _=>cases B <;> first | rfl | (simp only [qY] at h; cases h)

theorem Xe {A B : AV} (h : le0 A B) : dH B = dH A:=by
 cases A with
 | ag l=>cases B <;> simp only [le0] at h <;> first | rfl | cases h
 | sl s l t=>cases B <;> first | rfl | (cases t <;> simp only [le0] at h <;> cases h)
 | _=>cases B <;> first | rfl | (simp only [le0] at h; cases h)

theorem IY {A B : AV} {v : Value} (h : dH B = dH A) (hs : eH A v) : eH B v:=by
 unfold eH at *; rw [h]; exact hs

set_option maxHeartbeats 1600000 in
theorem dK {w : World} {Im : Nat -> Nat -> Prop} {A B : AV} {cs : List Value} (h1 : ∀ l,A ≠ .ag l) (h2 : ∀ t x,A ≠ .jm t x) (h3 : ∀ s l t,A ≠ .sl s l t) (h : qY A B) (hr : Rd w Im A cs) : Rd w Im B cs:=by
 cases A with
 | ag l=>exact absurd rfl (h1 l)
 | jm t x=>exact absurd rfl (h2 t x)
 | sl s l t=>exact absurd rfl (h3 s l t)
 | aG =>
   cases B with
   | sl s' l' t' =>
     cases t' with
     | no=>simp only [qY] at h; subst h; simp only [Rd] at hr ⊢; exact ⟨by simp [maxL],.inl ⟨trivial,hr⟩⟩
     | full=>simp only [qY] at h; cases h
     | own k=>simp only [qY] at h; cases h
   | aG=>exact hr
   | _=>simp only [qY] at h; cases h
 | tt =>
   cases B <;> simp only [qY] at h <;> first
    | exact hr
    | (subst h; exact hr)
    | (cases h; done)
    | (simp only [Rd] at hr ⊢; exact ⟨true,hr,by simpa using h⟩)
 | ff =>
   cases B <;> simp only [qY] at h <;> first
    | exact hr
    | (subst h; exact hr)
    | (cases h; done)
    | (simp only [Rd] at hr ⊢; exact ⟨false,hr,by simpa using h⟩)
 | bool x =>
   cases B <;> simp only [qY] at h <;> first
    | (subst h; exact hr)
    | (cases h; done)
    | (simp only [Rd] at hr ⊢; exact ⟨x,hr,h⟩)
 | dec p =>
   cases B with
   | bool b =>
     simp only [qY] at h
     simp only [Rd] at hr ⊢
     obtain ⟨b',h1,h2⟩:=hr
     rw [h1,Bool.eq_iff_iff.2 (h2.trans h)]
   | dec q =>
     simp only [qY] at h
     simp only [Rd] at hr ⊢
     obtain ⟨b',h1,h2⟩:=hr
     exact ⟨b',h1,h2.trans h⟩
   | tt =>
     simp only [qY] at h
     simp only [Rd] at hr ⊢
     obtain ⟨b',h1,h2⟩:=hr
     rw [h1,h2.2 h]
   | ff =>
     simp only [qY] at h
     simp only [Rd] at hr ⊢
     obtain ⟨b',h1,h2⟩:=hr
     cases b' with
     | true=>exact absurd (h2.1 rfl) h
     | false=>exact h1
   | _=>simp only [qY] at h; cases h
 | int k n =>
   cases B with
   | int k' n'=>simp only [qY] at h; obtain ⟨rfl,rfl⟩:=h; exact hr
   | _=>simp only [qY] at h; cases h
 | str k =>
   cases B with
   | str k'=>simp only [qY] at h; subst h; exact hr
   | _=>simp only [qY] at h; cases h
 | _=>cases B <;> simp only [qY] at h <;> first | exact hr | (cases h; exact hr) | (cases h; done)

mutual
theorem FI {w : World} {Im : Nat -> Nat -> Prop} : ∀ (A B : AV) (cs : List Value),qY A B -> Rd w Im A cs -> Rd w Im B cs
 | .ag l,B,cs,h,hr=>by
   cases B with
   | ag m =>
     simp only [qY] at h
     simp only [Rd] at hr ⊢
     exact Nr l m cs h hr
   | _=>simp only [qY] at h; cases h
 | .jm t x,B,cs,h,hr=>by
   cases B with
   | jm t' y =>
     simp only [qY] at h
     simp only [Rd] at hr ⊢
     obtain ⟨rfl,h⟩:=h
     obtain ⟨v,h1,h2,h3⟩:=hr
     exact ⟨v,h1,IY (Xc h) h2,FI x y _ h h3⟩
   | _=>simp only [qY] at h; cases h
 | .sl s l .full,B,cs,h,hr=>by simp only [Rd] at hr
 | .sl s l (.own k),B,cs,h,hr=>by simp only [Rd] at hr
 | .sl s l .no,B,cs,h,hr=>by
   cases B with
   | sl s' l' t' =>
     cases t' with
     | no =>
       simp only [qY] at h
       obtain ⟨rfl,h⟩:=h
       have hl:=iE h
       simp only [Rd] at hr ⊢
       rw [<- hl]
       refine ⟨hr.1,hr.2.imp ?_ ?_⟩
       ·rintro ⟨rfl,h2⟩
        exact ⟨List.eq_nil_of_length_eq_zero (by simpa using hl.symm),h2⟩
       ·rintro ⟨a,cap,h1,h2,h3,h4,h5⟩
        refine ⟨a,cap,h1,h2,h3,fun hne=>h4 fun e=>hne ?_,Ns l l' _ _ _ h h5⟩
        subst e; exact List.eq_nil_of_length_eq_zero (by simpa using hl.symm)
     | full=>simp only [qY] at h; cases h
     | own k=>simp only [qY] at h; cases h
   | _=>simp only [qY] at h; cases h
 | .bool _,_,_,h,hr=>dK (by simp) (by simp) (by simp) h hr
 | .tt,_,_,h,hr=>dK (by simp) (by simp) (by simp) h hr
 | .ff,_,_,h,hr=>dK (by simp) (by simp) (by simp) h hr
 | .dec _,_,_,h,hr=>dK (by simp) (by simp) (by simp) h hr
 | .int _ _,_,_,h,hr=>dK (by simp) (by simp) (by simp) h hr
 | .str _,_,_,h,hr=>dK (by simp) (by simp) (by simp) h hr
 | .dN,_,_,h,hr=>dK (by simp) (by simp) (by simp) h hr
 | .aG,_,_,h,hr=>dK (by simp) (by simp) (by simp) h hr
 | .ms _ _ _ _ _,_,_,h,hr=>dK (by simp) (by simp) (by simp) h hr
 | .dV _,_,_,h,hr=>dK (by simp) (by simp) (by simp) h hr
 | .ptr _ _ _,_,_,h,hr=>dK (by simp) (by simp) (by simp) h hr
 | .cp _,_,_,h,hr=>dK (by simp) (by simp) (by simp) h hr
 | .gK,_,_,h,hr=>dK (by simp) (by simp) (by simp) h hr
 | .fn _ _,_,_,h,hr=>dK (by simp) (by simp) (by simp) h hr
 | .aH,_,_,h,hr=>dK (by simp) (by simp) (by simp) h hr
 | .mp _,_,_,h,hr=>dK (by simp) (by simp) (by simp) h hr
 | .gs _ _,_,_,h,hr=>dK (by simp) (by simp) (by simp) h hr
 | .bm _ _,_,_,h,hr=>dK (by simp) (by simp) (by simp) h hr
 | .iQ,_,_,h,hr=>dK (by simp) (by simp) (by simp) h hr
 | .und,_,_,h,hr=>dK (by simp) (by simp) (by simp) h hr
theorem Nr {w : World} {Im : Nat -> Nat -> Prop} : ∀ (l m : List AV) (cs : List Value),bW l m -> lN w Im l cs -> lN w Im m cs
 | [],[],_,_,hr=>hr
 | [],_ :: _,_,h,_=>by simp only [bW] at h
 | _ :: _,[],_,h,_=>by simp only [bW] at h
 | x :: l,y :: m,cs,h,hr=>by
   simp only [bW] at h
   simp only [lN] at hr ⊢
   obtain ⟨a,d,h1,h2,h3⟩:=hr
   exact ⟨a,d,h1,FI x y a h.1 h2,Nr l m d h.2 h3⟩
theorem Ns {w : World} {Im : Nat -> Nat -> Prop} : ∀ (l m : List AV) (sz b off : Nat),bW l m -> sN w Im sz b l off -> sN w Im sz b m off
 | [],[],_,_,_,_,hr=>hr
 | [],_ :: _,_,_,_,h,_=>by simp only [bW] at h
 | _ :: _,[],_,_,_,h,_=>by simp only [bW] at h
 | x :: l,y :: m,sz,b,off,h,hr=>by
   simp only [bW] at h
   simp only [sN] at hr ⊢
   obtain ⟨⟨a,h1,h2,h3⟩,h4⟩:=hr
   exact ⟨⟨a,h1,h2,FI x y a h.1 h3⟩,Ns l m sz b _ h.2 h4⟩
end

theorem wH {c : Cx} {sz : Nat} : ∀ {l m : List AV} {cs : List Value},bW l m -> LH c sz l cs -> LH c sz m cs
 | [],[],_,_,h=>h
 | [],_ :: _,_,h,_=>by simp only [bW] at h
 | _ :: _,[],_,h,_=>by simp only [bW] at h
 | x :: l,y :: m,cs,h,hr=>by
   simp only [bW] at h
   obtain ⟨a,d,h1,h2,h3,h4⟩:=hr
   exact ⟨a,d,h1,h2,FI x y _ h.1 h3,wH h.2 h4⟩

theorem KC {w : World} {Im : Nat -> Nat -> Prop} {s : Nat} {l m : List AV} {cs : List Value} (h : bW l m) (hr : Rd w Im (.sl s l .no) cs) : Rd w Im (.sl s m .no) cs :=
 FI _ _ _ (by simp only [qY]; exact ⟨trivial,h⟩) hr

set_option maxHeartbeats 1600000 in
theorem dF {c : Cx} {A B : AV} {cs : List Value} (hA : dH A = false) (hI : ∀ t x,A ≠ .jm t x) (h : le0 A B) (hr : VR c A cs) : VR c B cs /\ dH B = false:=by
 cases A with
 | ag l=>cases hA
 | jm t x=>exact absurd rfl (hI t x)
 | sl s l t =>
   cases B with
   | sl s' l' t' =>
     cases t' with
     | no =>
       have h' : s = s' /\ bW l l':=by cases t <;> simpa only [le0] using h
       obtain ⟨e,h'⟩:=h'
       exact ⟨by simp only [VR]; exact e ▸ KC h' (sl_no hr),rfl⟩
     | full =>
       cases t with
       | full =>
         simp only [le0] at h
         obtain ⟨rfl,h⟩:=h
         simp only [VR] at hr ⊢
         exact ⟨⟨KC h hr.1,by rw [<- iE h]; exact hr.2⟩,rfl⟩
       | _=>simp only [le0] at h; cases h
     | own k' =>
       cases t with
       | own k =>
         simp only [le0] at h
         obtain ⟨rfl,h,rfl⟩:=h
         simp only [VR] at hr ⊢
         exact ⟨⟨hr.1,KC h hr.2.1,by rw [<- iE h]; exact hr.2.2⟩,rfl⟩
       | _=>simp only [le0] at h; cases h
   | _=>cases t <;> simp only [le0] at h <;> cases h
 | aG =>
   cases B with
   | sl s' l' t' =>
     cases t' with
     | no=>simp only [le0] at h; subst h; exact ⟨by simp only [VR]; exact Rt hr,rfl⟩
     | full =>
       simp only [le0] at h; subst h
       refine ⟨?_,rfl⟩
       simp only [VR]
       refine ⟨Rt hr,none,?_⟩
       simp only [VR,Rd] at hr
       simpa using hr
     | own k=>simp only [le0] at h; cases h
   | aG=>exact ⟨hr,rfl⟩
   | _=>simp only [le0] at h; cases h
 | tt =>
   cases B <;> simp only [le0] at h <;> first
    | exact ⟨hr,rfl⟩
    | (subst h; exact ⟨hr,rfl⟩)
    | (cases h; done)
    | (refine ⟨?_,rfl⟩; simp only [VR,Rd] at hr ⊢; exact ⟨true,hr,by simpa using h⟩)
 | ff =>
   cases B <;> simp only [le0] at h <;> first
    | exact ⟨hr,rfl⟩
    | (subst h; exact ⟨hr,rfl⟩)
    | (cases h; done)
    | (refine ⟨?_,rfl⟩; simp only [VR,Rd] at hr ⊢; exact ⟨false,hr,by simpa using h⟩)
 | bool x =>
   cases B <;> simp only [le0] at h <;> first
    | (subst h; exact ⟨hr,rfl⟩)
    | (cases h; done)
    | (refine ⟨?_,rfl⟩; simp only [VR,Rd] at hr ⊢; exact ⟨x,hr,h⟩)
 | dec p =>
   cases B with
   | bool b =>
     simp only [le0] at h
     simp only [VR,Rd] at hr ⊢
     obtain ⟨b',h1,h2⟩:=hr
     refine ⟨?_,rfl⟩
     rw [h1,Bool.eq_iff_iff.2 (h2.trans h)]
   | dec q =>
     simp only [le0] at h
     simp only [VR,Rd] at hr ⊢
     obtain ⟨b',h1,h2⟩:=hr
     exact ⟨⟨b',h1,h2.trans h⟩,rfl⟩
   | tt =>
     simp only [le0] at h
     simp only [VR,Rd] at hr ⊢
     obtain ⟨b',h1,h2⟩:=hr
     exact ⟨by rw [h1,h2.2 h],rfl⟩
   | ff =>
     simp only [le0] at h
     simp only [VR,Rd] at hr ⊢
     obtain ⟨b',h1,h2⟩:=hr
     refine ⟨?_,rfl⟩
     cases b' with
     | true=>exact absurd (h2.1 rfl) h
     | false=>exact h1
   | _=>simp only [le0] at h; cases h
 | int k n =>
   cases B with
   | int k' n'=>simp only [le0] at h; obtain ⟨rfl,rfl⟩:=h; exact ⟨hr,rfl⟩
   | _=>simp only [le0] at h; cases h
 | str k =>
   cases B with
   | str k'=>simp only [le0] at h; subst h; exact ⟨hr,rfl⟩
   | _=>simp only [le0] at h; cases h
 | _=>cases B <;> simp only [le0] at h <;> first | exact ⟨hr,rfl⟩ | (cases h; exact ⟨hr,rfl⟩) | (cases h; done)

mutual
theorem FK {c : Cx} : ∀ (A B : AV) (cs : List Value),le0 A B -> VR c A cs -> VR c B cs /\ dH B = dH A
 | .ag l,B,cs,h,hr=>by
   cases B with
   | ag m =>
     simp only [le0] at h
     simp only [VR] at hr ⊢
     exact ⟨RI l m cs h hr,rfl⟩
   | _=>simp only [le0] at h; cases h
 | .bool _,_,_,h,hr=>dF rfl (by simp) h hr
 | .tt,_,_,h,hr=>dF rfl (by simp) h hr
 | .ff,_,_,h,hr=>dF rfl (by simp) h hr
 | .dec _,_,_,h,hr=>dF rfl (by simp) h hr
 | .int _ _,_,_,h,hr=>dF rfl (by simp) h hr
 | .str _,_,_,h,hr=>dF rfl (by simp) h hr
 | .dN,_,_,h,hr=>dF rfl (by simp) h hr
 | .jm t x,B,cs,h,hr=>by
   cases B with
   | jm t' y =>
     simp only [le0] at h
     simp only [VR] at hr ⊢
     obtain ⟨rfl,h⟩:=h
     obtain ⟨v,h1,h2,h3⟩:=hr
     exact ⟨⟨v,h1,IY (Xe h) h2,(FK x y _ h h3).1⟩,rfl⟩
   | _=>simp only [le0] at h; cases h
 | .aG,_,_,h,hr=>dF rfl (by simp) h hr
 | .sl _ _ _,_,_,h,hr=>dF rfl (by simp) h hr
 | .ms _ _ _ _ _,_,_,h,hr=>dF rfl (by simp) h hr
 | .dV _,_,_,h,hr=>dF rfl (by simp) h hr
 | .ptr _ _ _,_,_,h,hr=>dF rfl (by simp) h hr
 | .cp _,_,_,h,hr=>dF rfl (by simp) h hr
 | .gK,_,_,h,hr=>dF rfl (by simp) h hr
 | .fn _ _,_,_,h,hr=>dF rfl (by simp) h hr
 | .aH,_,_,h,hr=>dF rfl (by simp) h hr
 | .mp _,_,_,h,hr=>dF rfl (by simp) h hr
 | .gs _ _,_,_,h,hr=>dF rfl (by simp) h hr
 | .bm _ _,_,_,h,hr=>dF rfl (by simp) h hr
 | .iQ,_,_,h,hr=>dF rfl (by simp) h hr
 | .und,_,_,h,hr=>dF rfl (by simp) h hr
theorem RI {c : Cx} : ∀ (l m : List AV) (cs : List Value),Iu l m -> lT c l cs -> lT c m cs
 | [],[],_,_,hr=>hr
 | [],_ :: _,_,h,_=>by simp only [Iu] at h
 | _ :: _,[],_,h,_=>by simp only [Iu] at h
 | x :: l,y :: m,cs,h,hr=>by
   simp only [Iu] at h
   simp only [lT] at hr ⊢
   obtain ⟨a,d,h1,h2,h3⟩:=hr
   exact ⟨a,d,h1,(FK x y a h.1 h2).1,RI l m d h.2 h3⟩
end

theorem BI {c : Cx} {A B : AV} {v : Value} (h : le0 A B) (hv : VV c A v) : VV c B v:=by
 obtain ⟨h1,h2⟩:=FK A B _ h hv.2
 exact ⟨⟨fun hb=>hv.1.1 (by rw [<- h2]; exact hb),fun hb=>hv.1.2 (by rw [<- h2]; exact hb)⟩,h1⟩

theorem Xd {c : Cx} : ∀ {l m : List AV} {vs : List Value},Iu l m -> VA c l vs -> VA c m vs
 | [],[],_,_,hr=>hr
 | [],_ :: _,_,h,_=>by simp only [Iu] at h
 | _ :: _,[],_,h,_=>by simp only [Iu] at h
 | x :: l,y :: m,vs,h,hr=>by
   simp only [Iu] at h
   simp only [VA] at hr ⊢
   obtain ⟨v,r,h1,h2,h3,h4⟩:=hr
   have:=BI h.1 ⟨h2,h3⟩
   exact ⟨v,r,h1,this.1,this.2,Xd h.2 h4⟩

theorem Xb {c : Cx} {A B : AV} {v : Value} (h : le A B) (hv : EV c A v) : EV c B v:=by
 cases A with
 | dV l =>
   cases B with
   | und=>trivial
   | dV m =>
     obtain ⟨vs,h1,h2⟩:=hv
     exact ⟨vs,h1,Xd h h2⟩
   | _=>simp only [le,le0] at h; cases h
 | und =>
   cases B with
   | und=>trivial
   | _=>simp only [le,le0] at h; cases h
 | _ =>
   have hv : VV c _ v:=hv
   cases B with
   | und=>trivial
   | _=>exact bg (BI h hv)

def Cx.cut (c : Cx) (G : Heap) : Cx:={ c with nx:=nextId G,tp:=dD G }

mutual
theorem Hu {c : Cx} {G : Heap} (htp : ∀ k n,dD G k = some n -> c.tp k = some n) : ∀ (A : AV) (cs : List Value),dO (nextId G) A = true -> VR c A cs -> VR (c.cut G) A cs
 | .bool _,_,_,hr=>by simp only [VR] at hr ⊢; exact hr
 | .tt,_,_,hr=>by simp only [VR] at hr ⊢; exact hr
 | .ff,_,_,hr=>by simp only [VR] at hr ⊢; exact hr
 | .dec _,_,_,hr=>by simp only [VR] at hr ⊢; exact hr
 | .int _ _,_,_,hr=>by simp only [VR] at hr ⊢; exact hr
 | .str _,_,_,hr=>by simp only [VR] at hr ⊢; exact hr
 | .dN,_,_,hr=>by simp only [VR] at hr ⊢; exact hr
 | .jm t x,cs,hb,hr=>by
   simp only [VR] at hr ⊢
   obtain ⟨v,h1,h2,h3⟩:=hr
   exact ⟨v,h1,h2,Hu htp x _ (by simpa only [dO] using hb) h3⟩
 | .aG,_,_,hr=>by simp only [VR] at hr ⊢; exact hr
 | .sl _ _ .no,_,_,hr=>by simp only [VR] at hr ⊢; exact hr
 | .sl _ _ .full,_,_,hr=>by simp only [VR] at hr ⊢; exact hr
 | .sl sz l (.own k),cs,hb,hr=>by
   simp only [VR] at hr ⊢
   obtain ⟨h1,h2,h3⟩:=hr
   simp only [dO] at hb
   exact ⟨Nat.le_of_ble_eq_true hb,h2,fun n hn=>h3 n (htp k n hn)⟩
 | .ms k _ _ _ _,_,hb,hr=>by
   simp only [VR] at hr ⊢
   simp only [dO] at hb
   exact ⟨Nat.le_of_ble_eq_true hb,hr.2⟩
 | .ag l,cs,hb,hr=>by
   simp only [VR] at hr ⊢
   exact SX htp l cs (by simpa only [dO] using hb) hr
 | .dV _,_,_,hr=>by simp only [VR] at hr ⊢; exact hr
 | .ptr k _ _,_,hb,hr=>by
   simp only [VR] at hr ⊢
   simp only [dO] at hb
   exact ⟨Nat.le_of_ble_eq_true hb,hr.2⟩
 | .cp x,cs,_,hr=>by simp only [VR] at hr ⊢; exact hr
 | .gK,_,_,hr=>by simp only [VR] at hr ⊢; exact hr
 | .fn f cap,cs,hb,hr=>by
   simp only [VR] at hr ⊢
   obtain ⟨vs,h1,h2⟩:=hr
   exact ⟨vs,h1,QI htp cap vs (by simpa only [dO] using hb) h2⟩
 | .aH,_,_,hr=>by simp only [VR] at hr ⊢; exact hr
 | .mp k,_,hb,hr=>by
   simp only [VR] at hr ⊢
   simp only [dO] at hb
   exact ⟨Nat.le_of_ble_eq_true hb,hr.2⟩
 | .bm f k,_,hb,hr=>by
   simp only [VR] at hr ⊢
   simp only [dO] at hb
   exact ⟨Nat.le_of_ble_eq_true hb,hr.2⟩
 | .gs k len,_,hb,hr=>by
   simp only [VR] at hr ⊢
   simp only [dO] at hb
   exact ⟨Nat.le_of_ble_eq_true hb,hr.2.1,fun n hn=>hr.2.2 n (htp k n hn)⟩
 | .iQ,_,_,hr=>by simp only [VR] at hr ⊢; exact hr
 | .und,_,_,hr=>by simp only [VR] at hr ⊢; exact hr
theorem SX {c : Cx} {G : Heap} (htp : ∀ k n,dD G k = some n -> c.tp k = some n) : ∀ (l : List AV) (cs : List Value),iK (nextId G) l = true -> lT c l cs -> lT (c.cut G) l cs
 | [],_,_,hr=>by simpa only [lT] using hr
 | x :: l,cs,hb,hr=>by
   simp only [lT] at hr ⊢
   simp only [iK] at hb
   obtain ⟨a,e,h1,h2,h3⟩:=hr
   cases hx : dO (nextId G) x with
   | false=>rw [hx] at hb; cases hb
   | true=>rw [hx] at hb; exact ⟨a,e,h1,Hu htp x _ hx h2,SX htp l _ hb h3⟩
theorem QI {c : Cx} {G : Heap} (htp : ∀ k n,dD G k = some n -> c.tp k = some n) : ∀ (l : List AV) (vs : List Value),iK (nextId G) l = true -> VA c l vs -> VA (c.cut G) l vs
 | [],_,_,hr=>by simpa only [VA] using hr
 | x :: l,vs,hb,hr=>by
   simp only [VA] at hr ⊢
   simp only [iK] at hb
   obtain ⟨v,r,h1,h2,h3,h4⟩:=hr
   cases hx : dO (nextId G) x with
   | false=>rw [hx] at hb; cases hb
   | true=>rw [hx] at hb; exact ⟨v,r,h1,h2,Hu htp x _ hx h3,QI htp l _ hb h4⟩
end

theorem Hr {c : Cx} {G : Heap} (htp : ∀ k n,dD G k = some n -> c.tp k = some n) {A : AV} {v : Value} (hb : dO (nextId G) A = true) (h : VV c A v) : VV (c.cut G) A v:=⟨h.1,Hu htp _ _ hb h.2⟩

theorem Ih {c : Cx} {G : Heap} (htp : ∀ k n,dD G k = some n -> c.tp k = some n) {A : AV} {v : Value} (hb : dO (nextId G) A = true) (h : EV c A v) : EV (c.cut G) A v:=by
 cases A <;> first
  | exact Hr htp hb h
  | trivial
  | (obtain ⟨vs,h1,h2⟩:=h; exact ⟨vs,h1,QI htp _ _ (by simpa only [dO] using hb) h2⟩)

theorem SS {c : Cx} {G : Heap} (htp : ∀ k n,dD G k = some n -> c.tp k = some n) : ∀ {l : List (AV × AV)} {es : List MapEntry},oH (nextId G) l = true -> Dw c l es -> Dw (c.cut G) l es
 | [],_,_,hr=>hr
 | (x,y) :: l,es,hb,hr=>by
   obtain ⟨e,r,h1,h2,h3,h4⟩:=hr
   simp only [oH] at hb
   cases hx : dO (nextId G) x with
   | false=>rw [hx] at hb; cases hb
   | true =>
     cases hy : dO (nextId G) y with
     | false=>rw [hx,hy] at hb; cases hb
     | true=>rw [hx,hy] at hb; exact ⟨e,r,h1,Hr htp hx h2,Hr htp hy h3,SS htp hb h4⟩

theorem Ee {H : Heap} {n : Nat} : ∀ {G : Heap},WkH H n G -> ∀ k o,(k,o) ∈ G -> ∃ o',hget H k = some o' /\ OZ o' o /\ (match o with | .dU _ es=>oH n es = true | o=>GR n o = true)
 | [],_,_,_,hm=>by simp at hm
 | (i,x) :: G,h,k,o,hm=>by
   simp only [WkH] at h
   rcases List.mem_cons.1 hm with hm | hm
   ·simp at hm
    obtain ⟨rfl,rfl⟩:=hm
    obtain ⟨o',h1,h2⟩:=dL.1 h.1
    exact ⟨o',h1,h2⟩
   ·exact Ee h.2 k o hm

theorem KE {o : HO} {s n : Nat} (h : OZ o (.tok s n)) : o = .tok s n:=by
 cases o <;> simp only [OZ] at h
 obtain ⟨rfl,rfl⟩:=h; rfl

theorem Nu {o : HO} {s : Nat} {l : List AV} (h : OZ o (.iT s l)) : ∃ l',o = .iT s l' /\ bW l' l:=by
 cases o <;> simp only [OZ] at h
 obtain ⟨rfl,h⟩:=h; exact ⟨_,rfl,h⟩

theorem QM.tp {H G : Heap} (h : QM H G) : ∀ k n,dD G k = some n -> dD H k = some n:=by
 intro k n hn
 unfold dD at hn ⊢
 cases hg : hget G k with
 | none=>simp [hg] at hn
 | some o =>
   rw [hg] at hn
   obtain ⟨o',h1,h2,_⟩:=Ee h.get k _ (gZ hg)
   cases o <;> simp at hn
   ·subst hn
    obtain rfl:=KE h2
    rw [h1]
   ·subst hn
    obtain ⟨l',rfl,h3⟩:=Nu h2
    rw [h1]; simp [iE h3]

theorem RH {c d : Cx} {k : Nat} {o' o : HO} (hρ : d.ρ = c.ρ) (ht : d.tk = c.tk) (h : OZ o' o) {b : Nat} (hb : aQ d (k,o) = some b) : aQ c (k,o') = some b:=by
 cases o with
 | gone=>simp [aQ] at hb
 | tok s n =>
   obtain rfl:=KE h
   simp only [aQ,ht] at hb ⊢; exact hb
 | _=>cases o' <;> simp only [OZ] at h <;> simp only [aQ,hρ,ht] at hb ⊢ <;> exact hb

theorem KF {c : Cx} : ∀ {l m : List (AV × AV)} {es : List MapEntry},Vx l m -> Dw c l es -> Dw c m es
 | [],[],_,_,h=>h
 | [],_ :: _,_,h,_=>by simp only [Vx] at h
 | _ :: _,[],_,h,_=>by simp only [Vx] at h
 | (x,v) :: l,(y,u) :: m,es,h,hr=>by
   simp only [Vx] at h
   obtain ⟨rfl,h1,h2⟩:=h
   obtain ⟨e,r,g1,g2,g3,g4⟩:=hr
   exact ⟨e,r,g1,g2,BI h1 g3,KF h2 g4⟩

theorem KG {sh : AV} : ∀ {l m : List (AV × AV)},Vx l m -> OU sh l -> OU sh m
 | [],[],_,h=>h
 | [],_ :: _,h,_=>by simp only [Vx] at h
 | _ :: _,[],h,_=>by simp only [Vx] at h
 | (x,v) :: l,(y,u) :: m,h,hr=>by
   simp only [Vx] at h
   obtain ⟨rfl,h1,h2⟩:=h
   exact ⟨hr.1,KG h2 hr.2⟩

theorem Tr.cut {c0 c : Cx} {H0 H G : Heap} (htr : Tr c0 H0 c H) (hw : QM H G) (hn : c0.nx <= nextId G) : Tr c0 H0 (c.cut G) G:=by
 have htp : ∀ k n,dD G k = some n -> c.tp k = some n:=fun k n h=>by rw [htr.hr.tp]; exact hw.tp k n h
 have hmem : ∀ x ∈ G,∃ o',(x.1,o') ∈ H /\ OZ o' x.2 /\ ∀ b,aQ (c.cut G) x = some b -> aQ c (x.1,o') = some b:=by
  rintro ⟨k,o⟩ hx
  obtain ⟨o',h1,h2,_⟩:=Ee hw.get k o hx
  exact ⟨o',gZ h1,h2,fun b hb=>RH (d:=c.cut G) rfl rfl h2 hb⟩
 refine ⟨⟨rfl,rfl,hw.ids,htr.hr.im,?_,?_⟩,⟨htr.le.im,hn,htr.le.ρ,fun k n hk h=>htr.le.tk k n hk (htp k n h)⟩,htr.os,htr.tape,htr.output,htr.size,htr.fr,?_,htr.ZK⟩
 ·rintro ⟨k,o⟩ hx
  obtain ⟨o',h1,h2,h3⟩:=Ee hw.get k o hx
  have hok:=htr.hr.tJ h1
  by_cases Ny : o = .gone
  ·subst Ny; trivial
  cases o' <;> cases o <;> simp only [OZ] at h2 <;> first | exact absurd rfl Ny | skip
  ·obtain ⟨cs,ty,g1,g2,g3⟩:=hok
   simp only [GR] at h3
   exact ⟨cs,ty,g1,Hu htp _ _ h3 (FK _ _ _ h2 g2).1,g3⟩
  ·obtain ⟨rfl,rfl,h2⟩:=h2
   obtain ⟨cs,ty,g1,g2,g3,g4,g5,g6⟩:=hok
   have hv : ∀ {sz : Nat} {l : List AV} {cs : List Value},LH c sz l cs -> LH (c.cut G) sz l cs:=by
    intro sz l
    induction l with
    | nil=>intros; trivial
    | cons x l ih=>rintro cs ⟨a,d,h1,h2,h3,h4⟩; exact ⟨a,d,h1,h2,h3,ih h4⟩
   exact ⟨cs,ty,g1,g2,by rw [<- iE h2]; exact g3,g4,hv (wH h2 g5),g6⟩
  ·obtain ⟨rfl,rfl⟩:=h2
   exact hok
  ·obtain ⟨rfl,h2⟩:=h2
   obtain ⟨ents,clock,g1,g2,g3,g4⟩:=hok
   exact ⟨ents,clock,g1,SS htp h3 (KF h2 g2),KG h2 g3,g4⟩
  ·obtain ⟨rfl,h2⟩:=h2
   have hv : ∀ {sz : Nat} {l : List AV} {cs : List Value},LH c sz l cs -> LH (c.cut G) sz l cs:=by
    intro sz l
    induction l with
    | nil=>intros; trivial
    | cons x l ih=>rintro cs ⟨a,d,h1,h2,h3,h4⟩; exact ⟨a,d,h1,h2,h3,ih h4⟩
   have hl:=iE h2
   rcases hok with ⟨g1,g2,g3⟩ | ⟨b,cs,ty,g1,g2,g3,g4,g5,g6,g7⟩
   ·subst g3; exact .inl ⟨g1,g2,List.length_eq_zero_iff.1 (by rw [<- hl]; rfl)⟩
   ·exact .inr ⟨b,cs,ty,g1,g2,g3,by rw [<- hl]; exact g4,g5,hv (wH h2 g6),g7⟩
 ·refine fO hw.ids fun x hx y hy hne b hb hb'=>?_
  obtain ⟨o1,h1,_,e1⟩:=hmem x hx
  obtain ⟨o2,h2,_,e2⟩:=hmem y hy
  exact htr.hr.apart' h1 h2 hne (e1 b hb) (e2 b hb')
 ·intro y hy b hb
  obtain ⟨o1,h1,_,e1⟩:=hmem y hy
  exact htr.own _ h1 b (e1 b hb)

theorem SH {e : Env} {n : Nat} : ∀ {E : Env},SI e n E -> ∀ t A,(t,A) ∈ E -> ∃ A',dQ e t = some A' /\ le A' A /\ dO n A = true
 | [],_,_,_,hm=>by simp at hm
 | (i,x) :: E,h,t,A,hm=>by
   simp only [SI] at h
   rcases List.mem_cons.1 hm with hm | hm
   ·simp at hm
    obtain ⟨rfl,rfl⟩:=hm
    obtain ⟨A',h1,h2⟩:=gW.1 h.1
    exact ⟨A',h1,h2⟩
   ·exact SH h.2 t A hm

theorem NV : ∀ {e : Env} {t : Nat} {A : AV},dQ e t = some A -> (t,A) ∈ e
 | [],_,_,h=>by simp [dQ] at h
 | (i,x) :: e,t,A,h=>by
   simp only [dQ] at h
   cases hb : Nat.beq i t with
   | true =>
     rw [hb] at h
     obtain rfl:=Nat.eq_of_beq_eq_true hb
     simp at h; subst h; simp
   | false=>rw [hb] at h; exact List.mem_cons_of_mem _ (NV h)

theorem WkE_all {c : Cx} {e E : Env} {G H : Heap} {a : Act} (he : gJ c e a) (hr : HR c H) (hw : QM H G) (h : SI e (nextId G) E) : ∀ t A,(t,A) ∈ E -> EV (c.cut G) A (a.tmps.getD t undef):=by
 intro t A hm
 obtain ⟨A',h1,h2,h3⟩:=SH h t A hm
 exact Ih (fun k n hn=>by rw [hr.tp]; exact hw.tp k n hn) h3 (Xb h2 (he t A' h1))

mutual
theorem zQ : ∀ (A : AV),qY A A
 | .bool _ | .tt | .ff | .dec _ | .str _ | .dN | .aG | .ms _ _ _ _ _ | .dV _ | .ptr _ _ _ | .cp _ | .gK | .fn _ _ | .aH | .mp _ | .gs _ _ | .bm _ _ | .iQ | .und=>by simp [qY]
 | .jm t x=>⟨rfl,zQ x⟩
 | .int _ _=>⟨rfl,rfl⟩
 | .sl _ l .no=>⟨rfl,aF l⟩
 | .sl _ l .full=>by simp [qY]
 | .sl _ l (.own _)=>by simp [qY]
 | .ag l=>aF l
theorem aF : ∀ (l : List AV),bW l l
 | []=>trivial
 | x :: l=>⟨zQ x,aF l⟩
end

mutual
theorem fG : ∀ (A : AV),le0 A A
 | .bool _ | .tt | .ff | .dec _ | .str _ | .dN | .aG | .ms _ _ _ _ _ | .dV _ | .ptr _ _ _ | .cp _ | .gK | .fn _ _ | .aH | .mp _ | .gs _ _ | .bm _ _ | .iQ | .und=>by simp [le0]
 | .jm t x=>⟨rfl,fG x⟩
 | .int _ _=>⟨rfl,rfl⟩
 | .sl _ l .no=>⟨rfl,aF l⟩
 | .sl _ l .full=>⟨rfl,aF l⟩
 | .sl _ l (.own _)=>⟨rfl,aF l,rfl⟩
 | .ag l=>aj l
theorem aj : ∀ (l : List AV),Iu l l
 | []=>trivial
 | x :: l=>⟨fG x,aj l⟩
end

theorem le_refl (A : AV) : le A A:=by
 cases A <;> first | exact fG _ | exact aj _ | trivial

mutual
theorem wF {c : Cx} : ∀ (A : AV) (cs : List Value),VR c A cs -> dO c.nx A = true
 | .bool _,_,_ | .tt,_,_ | .ff,_,_ | .dec _,_,_ | .int _ _,_,_ | .str _,_,_ | .dN,_,_ | .aG,_,_ | .cp _,_,_ | .gK,_,_ | .aH,_,_ | .iQ,_,_ | .und,_,_
 | .sl _ _ .no,_,_ | .sl _ _ .full,_,_=>rfl
 | .dV _,_,h=>by simp only [VR,Rd] at h
 | .jm t x,_,h=>by simp only [VR] at h; obtain ⟨v,_,_,h3⟩:=h; exact wF x _ h3
 | .sl _ _ (.own k),_,h=>by simp only [VR] at h; simpa [dO] using h.1
 | .ms _ _ _ _ _,_,h=>by simp only [VR] at h; simpa [dO] using h.1
 | .ptr _ _ _,_,h=>by simp only [VR] at h; simpa [dO] using h.1
 | .mp _,_,h=>by simp only [VR] at h; simpa [dO] using h.1
 | .gs _ _,_,h=>by simp only [VR] at h; simpa [dO] using h.1
 | .bm _ _,_,h=>by simp only [VR] at h; simpa [dO] using h.1
 | .ag l,_,h=>by simp only [VR] at h; exact SY l _ h
 | .fn _ cap,_,h=>by simp only [VR] at h; obtain ⟨vs,_,h2⟩:=h; exact YO cap _ h2
theorem SY {c : Cx} : ∀ (l : List AV) (cs : List Value),lT c l cs -> iK c.nx l = true
 | [],_,_=>rfl
 | x :: l,_,h=>by
   simp only [lT] at h
   obtain ⟨a,d,_,h2,h3⟩:=h
   simp only [iK,wF x _ h2,SY l _ h3]
theorem YO {c : Cx} : ∀ (l : List AV) (vs : List Value),VA c l vs -> iK c.nx l = true
 | [],_,_=>rfl
 | x :: l,_,h=>by
   simp only [VA] at h
   obtain ⟨v,r,_,_,h2,h3⟩:=h
   simp only [iK,wF x _ h2,YO l _ h3]
end

theorem Ej {c : Cx} : ∀ {l : List (AV × AV)} {es : List MapEntry},Dw c l es -> oH c.nx l = true
 | [],_,_=>rfl
 | (x,y) :: l,_,h=>by
   obtain ⟨e,r,_,h2,h3,h4⟩:=h
   simp only [oH,wF x _ h2.2,wF y _ h3.2,Ej h4]

theorem LD {H : Heap} {n : Nat} : ∀ {G : Heap},(∀ k o,(k,o) ∈ G -> ∃ o',hget H k = some o' /\ OZ o' o /\ (match o with | .dU _ es=>oH n es = true | o=>GR n o = true)) -> WkH H n G
 | [],_=>trivial
 | (i,x) :: G,h=>⟨dL.2 (h i x (by simp)),LD fun k o hm=>h k o (by simp [hm])⟩

theorem aJ : ∀ (l : List (AV × AV)),Vx l l
 | []=>trivial
 | (_,y) :: l=>⟨rfl,fG y,aJ l⟩

theorem zS (o : HO) : OZ o o:=by
 cases o with
 | box A=>exact fG A
 | arr=>exact ⟨rfl,rfl,aF _⟩
 | tok=>exact ⟨rfl,rfl⟩
 | dU=>exact ⟨rfl,aJ _⟩
 | iT=>exact ⟨rfl,aF _⟩
 | gone=>trivial

theorem HWk.to0 {c : Cx} {H G : Heap} (h : HWk H G) (hr : HR c H) : QM H G:=by
 cases h with
 | mk h1 h2=>exact ⟨h1,h2⟩
 | refl h =>
   subst h
   refine ⟨LD fun k o hm=>?_,hr.ids⟩
   have hok:=hr.ok _ hm
   refine ⟨o,mY hr.ids hm,zS o,?_⟩
   rw [<- hr.nx]
   cases o with
   | box A=>obtain ⟨cs,ty,_,h2,_⟩:=hok; exact wF _ _ h2
   | dU sh es=>obtain ⟨ents,clock,_,h2,_⟩:=hok; exact Ej h2
   | _=>rfl

end Go.AL
