/-
  A logic for calls of Go functions: values, weakening. Nothing is assumed.
-/
import Derived.Calls
import Derived.Laws.Sem
import Derived.Laws.World
import Derived.Defers
import Derived.Maps.Keyed
import Derived.Laws.AppendOwn
import Derived.Laws.MakeOwn

namespace Go.AL

def maxL : Nat:=9223372036854775807

inductive Tk where
 | no | full | own (k : Nat)
 deriving Inhabited

inductive AV where
 | bool (b : Bool) | tt | ff | dec (p : Prop)
 | int (k : IntKind) (n : Int)
 | str (s : List UInt8)
 | bH | jh (t : Nat) (x : AV)
 | aV | sl (sz : Nat) (l : List AV) (tok : Tk)
 | ms (k off len cap sz : Nat)
 | ag (l : List AV) | dA (l : List AV)
 | ptr (k : Nat) (path : List Nat) (off : Nat) | cp (x : AV) | fJ
 | fn (f : Nat) (cap : List AV) | aZ
 | mp (k : Nat) | jQ
 | gs (k len : Nat)
 | bm (f k : Nat)
 | und
 deriving Inhabited

def dn : AV -> Bool
 | .ag _=>true
 | _=>false

mutual
def flat : AV -> Nat
 | .ag l=>iD l
 | _=>1
def iD : List AV -> Nat
 | []=>0
 | x :: l=>flat x + iD l
end

def jo (w : World) (Im : Nat -> Nat -> Prop) (b off : Nat) (cs : List Value) : Prop :=
 ∀ j v,cs[j]? = some v -> w.cell? ⟨b,off + j,none⟩ = some v /\ Im b (off + j)

def rZ (k : IntKind) (n : Int) : Prop:=k.min <= n /\ n <= k.max

def dQ (A : AV) (v : Value) : Prop :=
 (dn A = true -> ∃ cs,v = .agg cs) /\ (dn A = false -> v.cells = #[v])

mutual
def Rd (w : World) (Im : Nat -> Nat -> Prop) : AV -> List Value -> Prop
 | .bool b,cs=>cs = [.bool b]
 | .tt,cs=>cs = [.bool true]
 | .ff,cs=>cs = [.bool false]
 | .dec p,cs=>∃ b,cs = [.bool b] /\ (b = true ↔ p)
 | .int k n,cs=>cs = [.int k n] /\ rZ k n
 | .str s,cs=>cs = [.string ⟨s.toArray⟩] /\ s.length <= maxL
 | .bH,cs=>cs = [.nilIface]
 | .jh t x,cs=>∃ v,cs = [.iface t v] /\ dQ x v /\ Rd w Im x v.cells.toList
 | .aV,cs=>cs = [.slice none 0 0]
 | .sl sz l .no,cs=>l.length <= maxL /\ ((l = [] /\ cs = [.slice none 0 0]) \/
   ∃ a cap,cs = [.slice (some a) l.length cap] /\ l.length <= cap /\ cap <= maxL /\ (l ≠ [] -> a.spot = none) /\ qG w Im sz a.block l a.off)
 | .cp x,cs=>∃ a ds,cs = [.pointer (some a)] /\ a.spot = none /\ jo w Im a.block a.off ds /\ Rd w Im x ds
 | .fJ,cs=>cs = [.pointer none]
 | .fn f cap,cs=>∃ vs,cs = [.func (.func f) #[] vs.toArray] /\ RJ w Im cap vs
 | .aZ,cs=>cs = [.nilFunc]
 | .jQ,cs=>cs = [.map none]
 | .ag l,cs=>kX w Im l cs
 | _,_=>False
def kX (w : World) (Im : Nat -> Nat -> Prop) : List AV -> List Value -> Prop
 | [],cs=>cs = []
 | x :: l,cs=>∃ c d,cs = c ++ d /\ Rd w Im x c /\ kX w Im l d
def qG (w : World) (Im : Nat -> Nat -> Prop) (sz b : Nat) : List AV -> Nat -> Prop
 | [],_=>True
 | x :: l,off=>(∃ cs,cs.length = sz /\ jo w Im b off cs /\ Rd w Im x cs) /\ qG w Im sz b l (off + sz)
def RJ (w : World) (Im : Nat -> Nat -> Prop) : List AV -> List Value -> Prop
 | [],vs=>vs = []
 | x :: l,vs=>∃ v r,vs = v :: r /\ dQ x v /\ Rd w Im x v.cells.toList /\ RJ w Im l r
end

structure Cx where
 w : World
 Im : Nat -> Nat -> Prop
 ρ : Nat -> Nat
 nx : Nat
 tk : Nat -> Option Addr × Nat
 tp : Nat -> Option Nat

mutual
def VR (c : Cx) : AV -> List Value -> Prop
 | .ptr k _ off,cs=>k < c.nx /\ cs = [.pointer (some ⟨c.ρ k,off,none⟩)]
 | .ms k off len cap sz,cs=>k < c.nx /\ cs = [.slice (some ⟨c.ρ k,off * sz,none⟩) len cap] /\ len <= cap /\ cap <= maxL
 | .sl sz l .full,cs=>Rd c.w c.Im (.sl sz l .no) cs /\ ∃ a,cs = [.slice a l.length l.length]
 | .sl sz l (.own k),cs=>k < c.nx /\ Rd c.w c.Im (.sl sz l .no) cs /\
   ∀ n,c.tp k = some n -> l.length <= n /\ (l.length = n -> cs = [.slice (c.tk k).1 n (c.tk k).2])
 | .mp k,cs=>k < c.nx /\ cs = [.map (some (c.ρ k))]
 | .bm f k,cs=>k < c.nx /\ cs = [.func (.func f) #[.pointer (some ⟨c.ρ k,0,none⟩)] #[]]
 | .gs k len,cs=>k < c.nx /\ (∃ a n m,cs = [.slice a n m]) /\ ∀ n,c.tp k = some n -> len <= n /\ (len = n -> cs = [.slice (c.tk k).1 n (c.tk k).2])
 | .fn f cap,cs=>∃ vs,cs = [.func (.func f) #[] vs.toArray] /\ VA c cap vs
 | .ag l,cs=>lg c l cs
 | .jh t x,cs=>∃ v,cs = [.iface t v] /\ dQ x v /\ VR c x v.cells.toList
 | A,cs=>Rd c.w c.Im A cs
def lg (c : Cx) : List AV -> List Value -> Prop
 | [],cs=>cs = []
 | x :: l,cs=>∃ a d,cs = a ++ d /\ VR c x a /\ lg c l d
def VA (c : Cx) : List AV -> List Value -> Prop
 | [],vs=>vs = []
 | x :: l,vs=>∃ v r,vs = v :: r /\ dQ x v /\ VR c x v.cells.toList /\ VA c l r
end

def VV (c : Cx) (A : AV) (v : Value) : Prop:=dQ A v /\ VR c A v.cells.toList

def EV (c : Cx) : AV -> Value -> Prop
 | .und,_=>True
 | .dA l,v=>∃ vs,v = .tuple vs /\ VA c l vs.toList
 | A,v=>VV c A v

theorem yx {w w' : World} {Im LP : Nat -> Nat -> Prop} (h : ∀ b o,Im b o -> LP b o /\ w'.cell? ⟨b,o,none⟩ = w.cell? ⟨b,o,none⟩)
  {b off : Nat} {cs : List Value} (hc : jo w Im b off cs) : jo w' LP b off cs:=by
 intro j v hj
 obtain ⟨h1,h2⟩:=hc j v hj
 exact ⟨(h _ _ h2).2.trans h1,(h _ _ h2).1⟩

mutual
theorem dN {w w' : World} {Im LP : Nat -> Nat -> Prop} (h : ∀ b o,Im b o -> LP b o /\ w'.cell? ⟨b,o,none⟩ = w.cell? ⟨b,o,none⟩) :
  ∀ (A : AV) (cs : List Value),Rd w Im A cs -> Rd w' LP A cs
 | .bool _,_,hr=>by simpa only [Rd] using hr
 | .tt,_,hr=>by simpa only [Rd] using hr
 | .ff,_,hr=>by simpa only [Rd] using hr
 | .dec _,_,hr=>by simpa only [Rd] using hr
 | .int _ _,_,hr=>by simpa only [Rd] using hr
 | .str _,_,hr=>by simpa only [Rd] using hr
 | .bH,_,hr=>by simpa only [Rd] using hr
 | .jh t x,cs,hr=>by
   simp only [Rd] at hr ⊢
   obtain ⟨v,h1,h2,h3⟩:=hr
   exact ⟨v,h1,h2,dN h x _ h3⟩
 | .aV,_,hr=>by simpa only [Rd] using hr
 | .sl sz l .no,cs,hr=>by
   simp only [Rd] at hr ⊢
   obtain ⟨h0,hr⟩:=hr
   refine ⟨h0,hr.imp id ?_⟩
   rintro ⟨a,cap,h1,h2,h3,h4,h5⟩
   exact ⟨a,cap,h1,h2,h3,h4,EJ h _ _ l _ h5⟩
 | .sl sz l .full,cs,hr=>by simp only [Rd] at hr
 | .sl sz l (.own _),cs,hr=>by simp only [Rd] at hr
 | .ms _ _ _ _ _,_,hr=>by simp only [Rd] at hr
 | .ag l,cs,hr=>by
   simp only [Rd] at hr ⊢
   exact LC h l cs hr
 | .dA _,_,hr=>by simp only [Rd] at hr
 | .ptr _ _ _,_,hr=>by simp only [Rd] at hr
 | .cp x,cs,hr=>by
   simp only [Rd] at hr ⊢
   obtain ⟨a,ds,h1,h2,h3,h4⟩:=hr
   exact ⟨a,ds,h1,h2,yx h h3,dN h x _ h4⟩
 | .fJ,_,hr=>by simpa only [Rd] using hr
 | .fn f cap,cs,hr=>by
   simp only [Rd] at hr ⊢
   obtain ⟨vs,h1,h2⟩:=hr
   exact ⟨vs,h1,LJ h cap vs h2⟩
 | .aZ,_,hr=>by simpa only [Rd] using hr
 | .mp _,_,hr=>by simp only [Rd] at hr
 | .jQ,_,hr=>by simpa only [Rd] using hr
 | .gs _ _,_,hr=>by simp only [Rd] at hr
 | .bm _ _,_,hr=>by simp only [Rd] at hr
 | .und,_,hr=>by simp only [Rd] at hr
theorem LC {w w' : World} {Im LP : Nat -> Nat -> Prop} (h : ∀ b o,Im b o -> LP b o /\ w'.cell? ⟨b,o,none⟩ = w.cell? ⟨b,o,none⟩) :
  ∀ (l : List AV) (cs : List Value),kX w Im l cs -> kX w' LP l cs
 | [],_,hr=>by simpa only [kX] using hr
 | x :: l,cs,hr=>by
   simp only [kX] at hr ⊢
   obtain ⟨c,d,h1,h2,h3⟩:=hr
   exact ⟨c,d,h1,dN h x _ h2,LC h l _ h3⟩
theorem EJ {w w' : World} {Im LP : Nat -> Nat -> Prop} (h : ∀ b o,Im b o -> LP b o /\ w'.cell? ⟨b,o,none⟩ = w.cell? ⟨b,o,none⟩) (sz b : Nat) :
  ∀ (l : List AV) (off : Nat),qG w Im sz b l off -> qG w' LP sz b l off
 | [],_,_=>by simp only [qG]
 | x :: l,off,hr=>by
   simp only [qG] at hr ⊢
   obtain ⟨⟨cs,h1,h2,h3⟩,h4⟩:=hr
   exact ⟨⟨cs,h1,yx h h2,dN h x _ h3⟩,EJ h sz b l _ h4⟩
theorem LJ {w w' : World} {Im LP : Nat -> Nat -> Prop} (h : ∀ b o,Im b o -> LP b o /\ w'.cell? ⟨b,o,none⟩ = w.cell? ⟨b,o,none⟩) :
  ∀ (l : List AV) (vs : List Value),RJ w Im l vs -> RJ w' LP l vs
 | [],_,hr=>by simpa only [RJ] using hr
 | x :: l,vs,hr=>by
   simp only [RJ] at hr ⊢
   obtain ⟨v,r,h1,h2,h3,h4⟩:=hr
   exact ⟨v,r,h1,h2,dN h x _ h3,LJ h l _ h4⟩
end

structure Cx.Le (c d : Cx) : Prop where
 im : ∀ b o,c.Im b o -> d.Im b o /\ d.w.cell? ⟨b,o,none⟩ = c.w.cell? ⟨b,o,none⟩
 nx : c.nx <= d.nx
 ρ : ∀ k,k < c.nx -> d.ρ k = c.ρ k
 tk : ∀ k n,k < c.nx -> d.tp k = some n -> (c.tp k = some n /\ d.tk k = c.tk k) \/ ∃ m,c.tp k = some m /\ m < n

mutual
theorem nG {c d : Cx} (h : c.Le d) : ∀ (A : AV) (cs : List Value),VR c A cs -> VR d A cs
 | .bool _,cs,hr=>by simp only [VR] at hr ⊢; exact dN h.im _ _ hr
 | .tt,_,hr=>by simp only [VR] at hr ⊢; exact dN h.im _ _ hr
 | .ff,_,hr=>by simp only [VR] at hr ⊢; exact dN h.im _ _ hr
 | .dec _,_,hr=>by simp only [VR] at hr ⊢; exact dN h.im _ _ hr
 | .int _ _,_,hr=>by simp only [VR] at hr ⊢; exact dN h.im _ _ hr
 | .str _,_,hr=>by simp only [VR] at hr ⊢; exact dN h.im _ _ hr
 | .bH,_,hr=>by simp only [VR] at hr ⊢; exact dN h.im _ _ hr
 | .jh t x,cs,hr=>by
   simp only [VR] at hr ⊢
   obtain ⟨v,h1,h2,h3⟩:=hr
   exact ⟨v,h1,h2,nG h x _ h3⟩
 | .aV,_,hr=>by simp only [VR] at hr ⊢; exact dN h.im _ _ hr
 | .sl _ _ .no,_,hr=>by simp only [VR] at hr ⊢; exact dN h.im _ _ hr
 | .sl _ _ .full,_,hr=>by simp only [VR] at hr ⊢; exact ⟨dN h.im _ _ hr.1,hr.2⟩
 | .sl sz l (.own k),cs,hr=>by
   simp only [VR] at hr ⊢
   obtain ⟨h1,h2,h3⟩:=hr
   refine ⟨Nat.lt_of_lt_of_le h1 h.nx,dN h.im _ _ h2,fun n hn=>?_⟩
   rcases h.tk k n h1 hn with ⟨h4,h5⟩ | ⟨m,h4,h5⟩
   ·rw [h5]; exact h3 n h4
   ·have:=(h3 m h4).1; exact ⟨by omega,fun e=>by omega⟩
 | .ms k _ _ _ _,_,hr=>by
   simp only [VR] at hr ⊢
   rw [h.ρ k hr.1]
   exact ⟨Nat.lt_of_lt_of_le hr.1 h.nx,hr.2⟩
 | .ag l,cs,hr=>by
   simp only [VR] at hr ⊢
   exact Lr h l cs hr
 | .dA _,_,hr=>by simp only [VR] at hr ⊢; exact dN h.im _ _ hr
 | .ptr k _ _,_,hr=>by
   simp only [VR] at hr ⊢
   rw [h.ρ k hr.1]
   exact ⟨Nat.lt_of_lt_of_le hr.1 h.nx,hr.2⟩
 | .cp x,cs,hr=>by simp only [VR] at hr ⊢; exact dN h.im _ _ hr
 | .fJ,_,hr=>by simp only [VR] at hr ⊢; exact dN h.im _ _ hr
 | .fn f cap,cs,hr=>by
   simp only [VR] at hr ⊢
   obtain ⟨vs,h1,h2⟩:=hr
   exact ⟨vs,h1,IW h cap vs h2⟩
 | .aZ,_,hr=>by simp only [VR] at hr ⊢; exact dN h.im _ _ hr
 | .mp k,_,hr=>by
   simp only [VR] at hr ⊢
   rw [h.ρ k hr.1]
   exact ⟨Nat.lt_of_lt_of_le hr.1 h.nx,hr.2⟩
 | .bm f k,_,hr=>by
   simp only [VR] at hr ⊢
   rw [h.ρ k hr.1]
   exact ⟨Nat.lt_of_lt_of_le hr.1 h.nx,hr.2⟩
 | .gs k len,_,hr=>by
   simp only [VR] at hr ⊢
   obtain ⟨h1,h2,h3⟩:=hr
   refine ⟨Nat.lt_of_lt_of_le h1 h.nx,h2,fun n hn=>?_⟩
   rcases h.tk k n h1 hn with ⟨h4,h5⟩ | ⟨m,h4,h5⟩
   ·rw [h5]; exact h3 n h4
   ·have:=(h3 m h4).1; exact ⟨by omega,fun e=>by omega⟩
 | .jQ,_,hr=>by simp only [VR] at hr ⊢; exact dN h.im _ _ hr
 | .und,_,hr=>by simp only [VR] at hr ⊢; exact dN h.im _ _ hr
theorem Lr {c d : Cx} (h : c.Le d) : ∀ (l : List AV) (cs : List Value),lg c l cs -> lg d l cs
 | [],_,hr=>by simpa only [lg] using hr
 | x :: l,cs,hr=>by
   simp only [lg] at hr ⊢
   obtain ⟨a,e,h1,h2,h3⟩:=hr
   exact ⟨a,e,h1,nG h x _ h2,Lr h l _ h3⟩
theorem IW {c d : Cx} (h : c.Le d) : ∀ (l : List AV) (vs : List Value),VA c l vs -> VA d l vs
 | [],_,hr=>by simpa only [VA] using hr
 | x :: l,vs,hr=>by
   simp only [VA] at hr ⊢
   obtain ⟨v,r,h1,h2,h3,h4⟩:=hr
   exact ⟨v,r,h1,h2,nG h x _ h3,IW h l _ h4⟩
end

theorem nD {c d : Cx} (h : c.Le d) {A : AV} {v : Value} (hv : VV c A v) : VV d A v:=⟨hv.1,nG h _ _ hv.2⟩

theorem iM {c d : Cx} (h : c.Le d) : ∀ {A : AV} {v : Value},EV c A v -> EV d A v:=by
 intro A v hv
 cases A <;> first
  | exact nD h hv
  | trivial
  | (obtain ⟨vs,h1,h2⟩:=hv; exact ⟨vs,h1,IW h _ _ h2⟩)

end Go.AL

namespace Go.AL

mutual
theorem bW {w : World} {Im : Nat -> Nat -> Prop} : ∀ (A : AV) (cs : List Value),Rd w Im A cs -> cs.length = flat A
 | .bool _,_,hr=>by simp only [Rd] at hr; subst hr; rfl
 | .tt,_,hr=>by simp only [Rd] at hr; subst hr; rfl
 | .ff,_,hr=>by simp only [Rd] at hr; subst hr; rfl
 | .dec _,_,hr=>by simp only [Rd] at hr; obtain ⟨b,rfl,_⟩:=hr; rfl
 | .int _ _,_,hr=>by simp only [Rd] at hr; obtain ⟨rfl,_⟩:=hr; rfl
 | .str _,_,hr=>by simp only [Rd] at hr; obtain ⟨rfl,_⟩:=hr; rfl
 | .bH,_,hr=>by simp only [Rd] at hr; subst hr; rfl
 | .jh t x,cs,hr=>by simp only [Rd] at hr; obtain ⟨v,rfl,_⟩:=hr; rfl
 | .aV,_,hr=>by simp only [Rd] at hr; subst hr; rfl
 | .sl sz l .no,cs,hr=>by
   simp only [Rd] at hr
   obtain ⟨_,⟨_,rfl⟩ | ⟨a,cap,rfl,_⟩⟩:=hr <;> rfl
 | .sl sz l .full,cs,hr=>by simp only [Rd] at hr
 | .sl sz l (.own _),cs,hr=>by simp only [Rd] at hr
 | .ms _ _ _ _ _,_,hr=>by simp only [Rd] at hr
 | .ag l,cs,hr=>by
   simp only [Rd] at hr
   simp only [flat]
   exact EH l cs hr
 | .dA _,_,hr=>by simp only [Rd] at hr
 | .ptr _ _ _,_,hr=>by simp only [Rd] at hr
 | .cp x,cs,hr=>by simp only [Rd] at hr; obtain ⟨a,ds,rfl,_⟩:=hr; rfl
 | .fJ,_,hr=>by simp only [Rd] at hr; subst hr; rfl
 | .fn _ _,_,hr=>by simp only [Rd] at hr; obtain ⟨_,rfl,_⟩:=hr; rfl
 | .aZ,_,hr=>by simp only [Rd] at hr; subst hr; rfl
 | .mp _,_,hr=>by simp only [Rd] at hr
 | .gs _ _,_,hr=>by simp only [Rd] at hr
 | .bm _ _,_,hr=>by simp only [Rd] at hr
 | .jQ,_,hr=>by simp only [Rd] at hr; subst hr; rfl
 | .und,_,hr=>by simp only [Rd] at hr
theorem EH {w : World} {Im : Nat -> Nat -> Prop} : ∀ (l : List AV) (cs : List Value),kX w Im l cs -> cs.length = iD l
 | [],_,hr=>by simp only [kX] at hr; subst hr; rfl
 | x :: l,cs,hr=>by
   simp only [kX] at hr
   obtain ⟨c,d,rfl,h2,h3⟩:=hr
   simp only [iD,List.length_append,bW x _ h2,EH l _ h3]
end

mutual
theorem fD {c : Cx} : ∀ (A : AV) (cs : List Value),VR c A cs -> cs.length = flat A
 | .bool _,_,hr=>by simp only [VR] at hr; exact bW _ _ hr
 | .tt,_,hr=>by simp only [VR] at hr; exact bW _ _ hr
 | .ff,_,hr=>by simp only [VR] at hr; exact bW _ _ hr
 | .dec _,_,hr=>by simp only [VR] at hr; exact bW _ _ hr
 | .int _ _,_,hr=>by simp only [VR] at hr; exact bW _ _ hr
 | .str _,_,hr=>by simp only [VR] at hr; exact bW _ _ hr
 | .bH,_,hr=>by simp only [VR] at hr; exact bW _ _ hr
 | .jh t x,cs,hr=>by simp only [VR] at hr; obtain ⟨v,rfl,_⟩:=hr; rfl
 | .aV,_,hr=>by simp only [VR] at hr; exact bW _ _ hr
 | .sl sz l .no,cs,hr=>by simp only [VR] at hr; exact bW _ _ hr
 | .sl sz l .full,cs,hr=>by simp only [VR] at hr; exact bW (.sl sz l .no) _ hr.1
 | .sl sz l (.own _),cs,hr=>by simp only [VR] at hr; exact bW (.sl sz l .no) _ hr.2.1
 | .ms _ _ _ _ _,_,hr=>by simp only [VR] at hr; obtain ⟨_,rfl,_⟩:=hr; rfl
 | .ag l,cs,hr=>by
   simp only [VR] at hr
   simp only [flat]
   exact Ez l cs hr
 | .dA _,_,hr=>by simp only [VR] at hr; exact bW _ _ hr
 | .ptr _ _ _,_,hr=>by simp only [VR] at hr; obtain ⟨_,rfl⟩:=hr; rfl
 | .cp x,cs,hr=>by simp only [VR] at hr; exact bW _ _ hr
 | .fJ,_,hr=>by simp only [VR] at hr; exact bW _ _ hr
 | .fn _ _,_,hr=>by simp only [VR] at hr; obtain ⟨_,rfl,_⟩:=hr; rfl
 | .aZ,_,hr=>by simp only [VR] at hr; exact bW _ _ hr
 | .mp _,_,hr=>by simp only [VR] at hr; obtain ⟨_,rfl⟩:=hr; rfl
 | .gs _ _,_,hr=>by simp only [VR] at hr; obtain ⟨_,⟨_,_,_,rfl⟩,_⟩:=hr; rfl
 | .bm _ _,_,hr=>by simp only [VR] at hr; obtain ⟨_,rfl⟩:=hr; rfl
 | .jQ,_,hr=>by simp only [VR] at hr; exact bW _ _ hr
 | .und,_,hr=>by simp only [VR] at hr; exact bW _ _ hr
theorem Ez {c : Cx} : ∀ (l : List AV) (cs : List Value),lg c l cs -> cs.length = iD l
 | [],_,hr=>by simp only [lg] at hr; subst hr; rfl
 | x :: l,cs,hr=>by
   simp only [lg] at hr
   obtain ⟨a,d,rfl,h2,h3⟩:=hr
   simp only [iD,List.length_append,fD x _ h2,Ez l _ h3]
end

def mkV (A : AV) (cs : List Value) : Value:=match A with
 | .ag _=>.agg cs.toArray
 | _=>cs.getD 0 default

theorem mD {c : Cx} {A : AV} {cs : List Value} (h : VR c A cs) (hA : dn A = false) : ∃ v,cs = [v] /\ v.cells = #[v]:=by
 cases A with
 | ag l=>simp [dn] at hA
 | dec p=>simp only [VR,Rd] at h; obtain ⟨b,rfl,_⟩:=h; exact ⟨_,rfl,rfl⟩
 | sl sz l tok =>
   cases tok with
   | no=>simp only [VR,Rd] at h; obtain ⟨_,⟨_,rfl⟩ | ⟨a,cap,rfl,_⟩⟩:=h <;> exact ⟨_,rfl,rfl⟩
   | full=>simp only [VR,Rd] at h; obtain ⟨⟨_,⟨_,rfl⟩ | ⟨a,cap,rfl,_⟩⟩,_⟩:=h <;> exact ⟨_,rfl,rfl⟩
   | own k=>simp only [VR,Rd] at h; obtain ⟨_,⟨_,⟨_,rfl⟩ | ⟨a,cap,rfl,_⟩⟩,_⟩:=h <;> exact ⟨_,rfl,rfl⟩
 | jh t x=>simp only [VR] at h; obtain ⟨v,rfl,_⟩:=h; exact ⟨_,rfl,rfl⟩
 | cp x=>simp only [VR,Rd] at h; obtain ⟨a,ds,rfl,_⟩:=h; exact ⟨_,rfl,rfl⟩
 | fn f cap=>simp only [VR] at h; obtain ⟨vs,rfl,_⟩:=h; exact ⟨_,rfl,rfl⟩
 | dA l=>simp only [VR,Rd] at h
 | und=>simp only [VR,Rd] at h
 | ptr=>simp only [VR] at h; obtain ⟨_,rfl⟩:=h; exact ⟨_,rfl,rfl⟩
 | ms=>simp only [VR] at h; obtain ⟨_,rfl,_⟩:=h; exact ⟨_,rfl,rfl⟩
 | mp=>simp only [VR] at h; obtain ⟨_,rfl⟩:=h; exact ⟨_,rfl,rfl⟩
 | gs=>simp only [VR] at h; obtain ⟨_,⟨_,_,_,rfl⟩,_⟩:=h; exact ⟨_,rfl,rfl⟩
 | bm=>simp only [VR] at h; obtain ⟨_,rfl⟩:=h; exact ⟨_,rfl,rfl⟩
 | int=>simp only [VR,Rd] at h; obtain ⟨rfl,_⟩:=h; exact ⟨_,rfl,rfl⟩
 | str=>simp only [VR,Rd] at h; obtain ⟨rfl,_⟩:=h; exact ⟨_,rfl,rfl⟩
 | _=>simp only [VR,Rd] at h; subst h; exact ⟨_,rfl,rfl⟩

theorem Qq {c : Cx} {A : AV} {cs : List Value} (h : VR c A cs) : (mkV A cs).cells.toList = cs:=by
 cases hA : dn A with
 | true=>cases A <;> simp [dn] at hA; simp [mkV,Value.cells]
 | false =>
   obtain ⟨v,rfl,hv⟩:=mD h hA
   have : mkV A [v] = v:=by cases A <;> simp [dn] at hA <;> rfl
   rw [this,hv]

theorem IU {c : Cx} {A : AV} {cs : List Value} (h : VR c A cs) : VV c A (mkV A cs):=by
 refine ⟨⟨fun hA=>?_,fun hA=>?_⟩,by rw [Qq h]; exact h⟩
 ·cases A <;> simp [dn] at hA; exact ⟨_,rfl⟩
 ·obtain ⟨v,rfl,hv⟩:=mD h hA
  have : mkV A [v] = v:=by cases A <;> simp [dn] at hA <;> rfl
  rw [this,hv]

theorem yG {c : Cx} {A : AV} {v : Value} (h : VR c A [v]) (hA : dn A = false) : VV c A v:=by
 obtain ⟨u,hu,hv⟩:=mD h hA
 obtain rfl : v = u:=by simpa using hu
 exact ⟨⟨fun h=>by simp [h] at hA,fun _=>hv⟩,by rw [hv]; exact h⟩

theorem RD {c : Cx} {A : AV} {v : Value} (h : VV c A v) (hA : dn A = false) : VR c A [v]:=by
 have:=h.2; rw [h.1.2 hA] at this; exact this

mutual
def mW : AV -> Bool
 | .ptr _ _ _ | .ms _ _ _ _ _ | .mp _ | .gs _ _ | .bm _ _ | .dA _ | .und=>false
 | .fn _ cap=>vU cap
 | .ag l=>vU l
 | .jh _ x=>mW x
 | _=>true
def vU : List AV -> Bool
 | []=>true
 | x :: l=>match mW x with | true=>vU l | false=>false
end

mutual
def strip : AV -> AV
 | .sl sz l _=>.sl sz l .no
 | .ag l=>.ag (stripL l)
 | .jh t x=>.jh t (strip x)
 | .fn f cap=>.fn f (stripL cap)
 | A=>A
def stripL : List AV -> List AV
 | []=>[]
 | x :: l=>strip x :: stripL l
end

theorem MW (A : AV) : dn (strip A) = dn A:=by cases A <;> rfl

theorem xg {A : AV} {v : Value} (h : dQ A v) : dQ (strip A) v:=by
 unfold dQ at *; rw [MW]; exact h

mutual
theorem oH {c : Cx} : ∀ (A : AV) (cs : List Value),mW A = true -> VR c A cs -> Rd c.w c.Im (strip A) cs
 | .bool _,_,_,hr=>by simpa only [VR,strip] using hr
 | .tt,_,_,hr=>by simpa only [VR,strip] using hr
 | .ff,_,_,hr=>by simpa only [VR,strip] using hr
 | .dec _,_,_,hr=>by simpa only [VR,strip] using hr
 | .int _ _,_,_,hr=>by simpa only [VR,strip] using hr
 | .str _,_,_,hr=>by simpa only [VR,strip] using hr
 | .bH,_,_,hr=>by simpa only [VR,strip] using hr
 | .jh t x,cs,hp,hr=>by
   simp only [VR] at hr
   obtain ⟨v,rfl,h2,h3⟩:=hr
   simp only [strip,Rd]
   exact ⟨v,rfl,xg h2,oH x _ hp h3⟩
 | .aV,_,_,hr=>by simpa only [VR,strip] using hr
 | .sl sz l .no,cs,_,hr=>by simpa only [VR,strip] using hr
 | .sl sz l .full,cs,_,hr=>by simp only [VR] at hr; simpa only [strip] using hr.1
 | .sl sz l (.own _),cs,_,hr=>by simp only [VR] at hr; simpa only [strip] using hr.2.1
 | .ms _ _ _ _ _,_,hp,_=>by simp [mW] at hp
 | .ag l,cs,hp,hr=>by
   simp only [VR] at hr
   simp only [strip,Rd]
   exact GN l cs hp hr
 | .dA _,_,hp,_=>by simp [mW] at hp
 | .ptr _ _ _,_,hp,_=>by simp [mW] at hp
 | .cp x,cs,_,hr=>by simpa only [VR,strip] using hr
 | .fJ,_,_,hr=>by simpa only [VR,strip] using hr
 | .fn f cap,cs,hp,hr=>by
   simp only [VR] at hr
   obtain ⟨vs,h1,h2⟩:=hr
   simp only [strip,Rd]
   exact ⟨vs,h1,GV cap vs hp h2⟩
 | .aZ,_,_,hr=>by simpa only [VR,strip] using hr
 | .mp _,_,hp,_=>by simp [mW] at hp
 | .gs _ _,_,hp,_=>by simp [mW] at hp
 | .bm _ _,_,hp,_=>by simp [mW] at hp
 | .jQ,_,_,hr=>by simpa only [VR,strip] using hr
 | .und,_,hp,_=>by simp [mW] at hp
theorem GN {c : Cx} : ∀ (l : List AV) (cs : List Value),vU l = true -> lg c l cs -> kX c.w c.Im (stripL l) cs
 | [],_,_,hr=>by simpa only [lg,stripL,kX] using hr
 | x :: l,cs,hp,hr=>by
   simp only [lg] at hr
   obtain ⟨a,d,h1,h2,h3⟩:=hr
   simp only [stripL,kX]
   simp only [vU] at hp
   cases hx : mW x with
   | false=>simp [hx] at hp
   | true=>rw [hx] at hp; exact ⟨a,d,h1,oH x _ hx h2,GN l _ hp h3⟩
theorem GV {c : Cx} : ∀ (l : List AV) (vs : List Value),vU l = true -> VA c l vs -> RJ c.w c.Im (stripL l) vs
 | [],_,_,hr=>by simpa only [VA,stripL,RJ] using hr
 | x :: l,vs,hp,hr=>by
   simp only [VA] at hr
   obtain ⟨v,r,h1,h2,h3,h4⟩:=hr
   simp only [stripL,RJ]
   simp only [vU] at hp
   cases hx : mW x with
   | false=>simp [hx] at hp
   | true=>rw [hx] at hp; exact ⟨v,r,h1,xg h2,oH x _ hx h3,GV l _ hp h4⟩
end

mutual
theorem gX {c : Cx} : ∀ (A : AV) (cs : List Value),Rd c.w c.Im A cs -> VR c A cs
 | .bool _,_,hr=>by simpa only [VR] using hr
 | .tt,_,hr=>by simpa only [VR] using hr
 | .ff,_,hr=>by simpa only [VR] using hr
 | .dec _,_,hr=>by simpa only [VR] using hr
 | .int _ _,_,hr=>by simpa only [VR] using hr
 | .str _,_,hr=>by simpa only [VR] using hr
 | .bH,_,hr=>by simpa only [VR] using hr
 | .jh t x,cs,hr=>by
   simp only [Rd] at hr
   obtain ⟨v,h1,h2,h3⟩:=hr
   simp only [VR]
   exact ⟨v,h1,h2,gX x _ h3⟩
 | .aV,_,hr=>by simpa only [VR] using hr
 | .sl sz l .no,cs,hr=>by simpa only [VR] using hr
 | .sl sz l .full,cs,hr=>by simp only [Rd] at hr
 | .sl sz l (.own _),cs,hr=>by simp only [Rd] at hr
 | .ms _ _ _ _ _,_,hr=>by simp only [Rd] at hr
 | .ag l,cs,hr=>by
   simp only [Rd] at hr
   simp only [VR]
   exact Ey l cs hr
 | .dA _,_,hr=>by simp only [Rd] at hr
 | .ptr _ _ _,_,hr=>by simp only [Rd] at hr
 | .cp x,cs,hr=>by simpa only [VR] using hr
 | .fJ,_,hr=>by simpa only [VR] using hr
 | .fn f cap,cs,hr=>by
   simp only [Rd] at hr
   obtain ⟨vs,h1,h2⟩:=hr
   simp only [VR]
   exact ⟨vs,h1,GK cap vs h2⟩
 | .aZ,_,hr=>by simpa only [VR] using hr
 | .gs _ _,_,hr=>by simp only [Rd] at hr
 | .bm _ _,_,hr=>by simp only [Rd] at hr
 | .mp _,_,hr=>by simp only [Rd] at hr
 | .jQ,_,hr=>by simpa only [VR] using hr
 | .und,_,hr=>by simp only [Rd] at hr
theorem Ey {c : Cx} : ∀ (l : List AV) (cs : List Value),kX c.w c.Im l cs -> lg c l cs
 | [],_,hr=>by simpa only [lg,kX] using hr
 | x :: l,cs,hr=>by
   simp only [kX] at hr
   obtain ⟨a,d,h1,h2,h3⟩:=hr
   simp only [lg]
   exact ⟨a,d,h1,gX x _ h2,Ey l _ h3⟩
theorem GK {c : Cx} : ∀ (l : List AV) (vs : List Value),RJ c.w c.Im l vs -> VA c l vs
 | [],_,hr=>by simpa only [VA,RJ] using hr
 | x :: l,vs,hr=>by
   simp only [RJ] at hr
   obtain ⟨v,r,h1,h2,h3,h4⟩:=hr
   simp only [VA]
   exact ⟨v,r,h1,h2,gX x _ h3,GK l _ h4⟩
end

theorem Ve {c : Cx} {A : AV} {v : Value} (hs : dQ A v) (h : Rd c.w c.Im A v.cells.toList) : VV c A v:=⟨hs,gX _ _ h⟩

theorem PI {w : World} {Im : Nat -> Nat -> Prop} {sz b : Nat} : ∀ {l : List AV} {off i : Nat} {x : AV},qG w Im sz b l off -> l[i]? = some x ->
  ∃ cs,cs.length = sz /\ jo w Im b (off + i * sz) cs /\ Rd w Im x cs
 | [],_,_,_,_,h=>by simp at h
 | y :: l,off,0,x,hr,h=>by
   simp only [qG] at hr
   obtain rfl : y = x:=by simpa using h
   simpa using hr.1
 | y :: l,off,i + 1,x,hr,h=>by
   simp only [qG] at hr
   obtain ⟨cs,h1,h2,h3⟩:=PI (i:=i) hr.2 (by simpa using h)
   refine ⟨cs,h1,?_,h3⟩
   have : off + (i + 1) * sz = off + sz + i * sz:=by rw [Nat.add_mul]; omega
   rw [this]; exact h2

theorem EK {w : World} {Im : Nat -> Nat -> Prop} {sz b : Nat} : ∀ {l m : List AV} {off : Nat},qG w Im sz b l off -> qG w Im sz b m (off + l.length * sz) ->
  qG w Im sz b (l ++ m) off
 | [],m,off,_,h=>by simpa using h
 | x :: l,m,off,h,hm=>by
   simp only [qG,List.cons_append] at h ⊢
   refine ⟨h.1,EK h.2 ?_⟩
   have : off + sz + l.length * sz = off + (x :: l).length * sz:=by simp [Nat.add_mul]; omega
   rw [this]; exact hm

theorem LH {w : World} {Im : Nat -> Nat -> Prop} {sz b : Nat} : ∀ {l : List AV} {off : Nat} (n : Nat),qG w Im sz b l off -> n <= l.length -> qG w Im sz b (l.drop n) (off + n * sz)
 | l,off,0,h,_=>by simpa using h
 | [],off,n + 1,_,hn=>by simp at hn
 | x :: l,off,n + 1,h,hn=>by
   simp only [qG] at h
   have:=LH (l:=l) (off:=off + sz) n h.2 (by simpa using hn)
   have e : off + (n + 1) * sz = off + sz + n * sz:=by rw [Nat.add_mul]; omega
   rw [e]; exact this

theorem LG {w : World} {Im : Nat -> Nat -> Prop} {sz b : Nat} : ∀ {l : List AV} {off : Nat} (n : Nat),qG w Im sz b l off -> qG w Im sz b (l.take n) off
 | l,off,0,h=>by simp [qG]
 | [],off,n + 1,h=>by simp [qG]
 | x :: l,off,n + 1,h=>by
   simp only [qG] at h
   simp only [List.take_succ_cons,qG]
   exact ⟨h.1,LG n h.2⟩

end Go.AL

namespace Go.AL

abbrev Env:=List (Nat × AV)

inductive HO where
 | box (A : AV)
 | arr (sz cap : Nat) (l : List AV)
 | tok (sz top : Nat)
 | iK (sh : AV) (es : List (AV × AV))
 | dU (sz : Nat) (l : List AV)
 | glob (g : Nat) (cs : List Value)
 | gone
 deriving Inhabited

abbrev Heap:=List (Nat × HO)

def vC : Env -> Nat -> (AV -> Prop) -> Prop
 | [],_,_=>False
 | (i,A) :: e,t,k=>match Nat.beq i t with | true=>k A | false=>vC e t k

def dL : Env -> Nat -> Option AV
 | [],_=>none
 | (i,A) :: e,t=>match Nat.beq i t with | true=>some A | false=>dL e t

theorem gB {k : AV -> Prop} : ∀ {e : Env} {t : Nat},vC e t k ↔ ∃ A,dL e t = some A /\ k A
 | [],t=>by simp [vC,dL]
 | (i,A) :: e,t=>by
   simp only [vC,dL]
   cases Nat.beq i t with
   | true=>simp
   | false=>exact gB

def jB : Heap -> Nat -> (HO -> Prop) -> Prop
 | [],_,_=>False
 | (i,o) :: H,n,k=>match Nat.beq i n with | true=>k o | false=>jB H n k

def hget : Heap -> Nat -> Option HO
 | [],_=>none
 | (i,o) :: H,n=>match Nat.beq i n with | true=>some o | false=>hget H n

theorem cZ {k : HO -> Prop} : ∀ {H : Heap} {n : Nat},jB H n k ↔ ∃ o,hget H n = some o /\ k o
 | [],n=>by simp [jB,hget]
 | (i,o) :: H,n=>by
   simp only [jB,hget]
   cases Nat.beq i n with
   | true=>simp
   | false=>exact cZ

def nY : Heap -> Nat -> HO -> (Heap -> Prop) -> Prop
 | [],_,_,_=>False
 | (i,o) :: H,n,o',k=>match Nat.beq i n with | true=>k ((i,o') :: H) | false=>nY H n o' fun H'=>k ((i,o) :: H')

def hset : Heap -> Nat -> HO -> Heap
 | [],_,_=>[]
 | (i,o) :: H,n,o'=>match Nat.beq i n with | true=>(i,o') :: H | false=>(i,o) :: hset H n o'

theorem gy : ∀ {H : Heap} {n : Nat} {o' : HO} {k : Heap -> Prop},nY H n o' k ↔ (∃ o,hget H n = some o) /\ k (hset H n o')
 | [],n,o',k=>by simp [nY,hget]
 | (i,o) :: H,n,o',k=>by
   simp only [nY,hget,hset]
   cases Nat.beq i n with
   | true=>simp
   | false=>exact gy

def nextId : Heap -> Nat
 | []=>0
 | (i,_) :: _=>i + 1

def aC (n : Nat) (k : Nat -> Prop) : Prop :=
 match n with
 | 0=>k 1 | 1=>k 2 | 2=>k 3 | 3=>k 4 | 4=>k 5 | 5=>k 6 | 6=>k 7 | 7=>k 8 | 8=>k 9 | 9=>k 10
 | 10=>k 11 | 11=>k 12 | 12=>k 13 | 13=>k 14 | 14=>k 15 | 15=>k 16 | 16=>k 17 | 17=>k 18 | 18=>k 19 | 19=>k 20
 | n + 20=>k (n + 21)

theorem Fp {n : Nat} {k : Nat -> Prop} : aC n k ↔ k (n + 1):=by
 unfold aC
 split <;> exact Iff.rfl

def nS (H : Heap) (o : HO) (k : Nat -> Heap -> Prop) : Prop :=
 match H with
 | []=>k 0 [(0,o)]
 | (i,x) :: H=>aC i fun j=>k j ((j,o) :: (i,x) :: H)

theorem dP {H : Heap} {o : HO} {k : Nat -> Heap -> Prop} : nS H o k ↔ k (nextId H) ((nextId H,o) :: H):=by
 cases H with
 | nil=>exact Iff.rfl
 | cons x H=>obtain ⟨i,x⟩:=x; simp only [nS,Fp,nextId]

def dw (H : Heap) (k : Nat) : Option Nat:=match hget H k with | some (.tok _ n)=>some n | some (.dU _ l)=>some l.length | _=>none

def zM (c : Cx) (sz : Nat) : List AV -> List Value -> Prop
 | [],_=>True
 | x :: l,cs=>∃ a d,cs = a ++ d /\ a.length = sz /\ Rd c.w c.Im x a /\ zM c sz l d

def Aw (c : Cx) : List (AV × AV) -> List MapEntry -> Prop
 | [],es=>es = []
 | (x,y) :: l,es=>∃ e r,es = e :: r /\ VV c x e.key /\ VV c y e.val /\ Aw c l r

def oM : IntKind -> IntKind -> Bool
 | .i8,.i8 | .i16,.i16 | .i32,.i32 | .i64,.i64 | .u8,.u8 | .u16,.u16 | .u32,.u32 | .u64,.u64=>true
 | _,_=>false

theorem fK {a b : IntKind} (h : oM a b = true) : a = b:=by cases a <;> cases b <;> first | rfl | simp [oM] at h

mutual
def ay : AV -> AV -> Bool
 | .int k _,.int k' _=>oM k k'
 | .str _,.str _=>true
 | .ag l,.ag m=>bV l m
 | _,_=>false
def bV : List AV -> List AV -> Bool
 | [],[]=>true
 | x :: l,y :: m=>ay x y && bV l m
 | _,_=>false
end

def LM (sh : AV) : List (AV × AV) -> Prop
 | []=>True
 | (x,_) :: l=>ay sh x = true /\ LM sh l

def HO.Ok (c : Cx) (k : Nat) : HO -> Prop
 | .box A=>∃ cs ty,c.w.heap[c.ρ k]? = some (.cells cs.toArray ty) /\ VR c A cs /\ ∀ o,¬ c.Im (c.ρ k) o
 | .arr sz cap l=>∃ cs ty,c.w.heap[c.ρ k]? = some (.cells cs.toArray ty) /\ cs.length = cap * sz /\ l.length <= cap /\ cap <= maxL /\ zM c sz l cs /\ ∀ o,¬ c.Im (c.ρ k) o
 | .tok sz top=>(c.tk k).2 = top \/ ∃ b cs ty,(c.tk k).1 = some ⟨b,0,none⟩ /\ c.w.heap[b]? = some (.cells cs ty) /\ cs.size = (c.tk k).2 * sz /\
   top <= (c.tk k).2 /\ (c.tk k).2 <= maxL /\ ∀ o,top * sz <= o -> ¬ c.Im b o
 | .iK sh es=>∃ ents clock,c.w.heap[c.ρ k]? = some (.map ents clock) /\ Aw c es ents.toList /\ LM sh es /\ (∀ e ∈ ents.toList,e.born < clock) /\ ents.toList.Pairwise fun a b=>a.key ≠ b.key
 | .dU sz l=>((c.tk k).1 = none /\ (c.tk k).2 = 0 /\ l = []) \/ ∃ b cs ty,(c.tk k).1 = some ⟨b,0,none⟩ /\ c.w.heap[b]? = some (.cells cs.toArray ty) /\ cs.length = (c.tk k).2 * sz /\
   l.length <= (c.tk k).2 /\ (c.tk k).2 <= maxL /\ zM c sz l cs /\ ∀ o,¬ c.Im b o
 | .glob g cs=>∀ (j : Nat) (v : Value),cs[j]? = some v -> c.Im g j /\ c.w.cell? ⟨g,j,none⟩ = some v
 | .gone=>True

def aB (c : Cx) (x : Nat × HO) : Option Nat :=
 match x.2 with
 | .tok _ top=>if (c.tk x.1).2 = top then none else (c.tk x.1).1.map (·.block)
 | .dU _ _=>(c.tk x.1).1.map (·.block)
 | .glob _ _=>none
 | .gone=>none
 | _=>some (c.ρ x.1)

def ak : Heap -> Prop
 | []=>True
 | (i,_) :: H=>(∀ x ∈ H,x.1 < i) /\ ak H

structure HR (c : Cx) (H : Heap) : Prop where
 nx : c.nx = nextId H
 tp : c.tp = dw H
 ids : ak H
 im : ∀ b o,c.Im b o -> b < c.w.heap.size
 ok : ∀ x ∈ H,x.2.Ok c x.1
 apart : H.Pairwise fun x y=>∀ b : Nat,aB c x = some b -> aB c y ≠ some b

structure Tr (c : Cx) (H : Heap) (d : Cx) (H' : Heap) : Prop where
 hr : HR d H'
 le : c.Le d
 os : d.w.os = c.w.os
 tape : d.w.tape = c.w.tape
 output : d.w.output = c.w.output
 size : c.w.heap.size <= d.w.heap.size
 fr : ∀ b,b < c.w.heap.size -> (∀ x ∈ H,aB c x ≠ some b) -> d.w.heap[b]? = c.w.heap[b]?
 own : ∀ y ∈ H',∀ b,aB d y = some b -> c.w.heap.size <= b \/ ∃ x ∈ H,aB c x = some b
 VJ : ∀ b o,d.Im b o -> c.Im b o \/ c.w.heap.size <= b \/ ∃ x ∈ H,aB c x = some b

theorem Cx.Le.refl (c : Cx) : c.Le c:=⟨fun _ _ h=>⟨h,rfl⟩,Nat.le_refl _,fun _ _=>rfl,fun _ _ _ h=>.inl ⟨h,rfl⟩⟩

theorem Cx.Le.trans {a b c : Cx} (h : a.Le b) (g : b.Le c) : a.Le c:=by
 refine ⟨fun x o hx=>?_,Nat.le_trans h.nx g.nx,fun k hk=>?_,fun k n hk hn=>?_⟩
 ·have h1:=h.im x o hx
  have h2:=g.im x o h1.1
  exact ⟨h2.1,h2.2.trans h1.2⟩
 ·exact (g.ρ k (Nat.lt_of_lt_of_le hk h.nx)).trans (h.ρ k hk)
 ·rcases g.tk k n (Nat.lt_of_lt_of_le hk h.nx) hn with ⟨h1,h2⟩ | ⟨m,h1,h2⟩
  ·rcases h.tk k n hk h1 with ⟨h3,h4⟩ | h3
   ·exact .inl ⟨h3,h2.trans h4⟩
   ·exact .inr h3
  ·rcases h.tk k m hk h1 with ⟨h3,h4⟩ | ⟨m',h3,h4⟩
   ·exact .inr ⟨m,h3,h2⟩
   ·exact .inr ⟨m',h3,by omega⟩

theorem Tr.refl {c : Cx} {H : Heap} (h : HR c H) : Tr c H c H :=
 ⟨h,.refl c,rfl,rfl,rfl,Nat.le_refl _,fun _ _ _=>rfl,fun y hy _ hb=>.inr ⟨y,hy,hb⟩,fun _ _ h=>.inl h⟩

theorem Tr.trans {a b c : Cx} {H H' Jc : Heap} (h : Tr a H b H') (g : Tr b H' c Jc) : Tr a H c Jc:=by
 refine ⟨g.hr,h.le.trans g.le,g.os.trans h.os,g.tape.trans h.tape,g.output.trans h.output,Nat.le_trans h.size g.size,fun x hx hn=>?_,fun y hy x hx=>?_,fun x o hx=>?_⟩
 ·rw [g.fr x (Nat.lt_of_lt_of_le hx h.size) ?_,h.fr x hx hn]
  intro y hy hb
  rcases h.own y hy x hb with h1 | ⟨z,h1,h2⟩
  ·omega
  ·exact hn z h1 h2
 ·rcases g.own y hy x hx with h1 | ⟨z,h1,h2⟩
  ·exact .inl (Nat.le_trans h.size h1)
  ·exact h.own z h1 x h2
 ·rcases g.VJ x o hx with h1 | h1 | ⟨z,h1,h2⟩
  ·exact h.VJ x o h1
  ·exact .inr (.inl (Nat.le_trans h.size h1))
  ·exact .inr (h.own z h1 x h2)

theorem dZ {i n : Nat} (h : Nat.beq i n = false) : i ≠ n:=by
 intro e; subst e; simp at h

theorem gW : ∀ {H : Heap} {n : Nat} {o : HO},hget H n = some o -> (n,o) ∈ H
 | [],_,_,h=>by simp [hget] at h
 | (i,x) :: H,n,o,h=>by
   simp only [hget] at h
   cases hb : Nat.beq i n with
   | true =>
     rw [hb] at h
     obtain rfl:=Nat.eq_of_beq_eq_true hb
     simp at h; subst h; simp
   | false=>rw [hb] at h; exact List.mem_cons_of_mem _ (gW h)

theorem lW : ∀ {H : Heap} {n : Nat} {o : HO},ak H -> (n,o) ∈ H -> hget H n = some o
 | [],_,_,_,h=>by simp at h
 | (i,x) :: H,n,o,hi,h=>by
   simp only [ak] at hi
   simp only [hget]
   rcases List.mem_cons.1 h with h | h
   ·simp at h; obtain ⟨rfl,rfl⟩:=h; simp
   ·have:=hi.1 _ h
    have hb : Nat.beq i n = false:=by
     cases hb : Nat.beq i n with
     | false=>rfl
     | true=>have:=Nat.eq_of_beq_eq_true hb; simp at *; omega
    rw [hb]; exact lW hi.2 h

theorem bF : ∀ {H : Heap},ak H -> ∀ x ∈ H,x.1 < nextId H
 | [],_,x,h=>by simp at h
 | (i,y) :: H,hi,x,h=>by
   simp only [ak] at hi
   simp only [nextId]
   rcases List.mem_cons.1 h with h | h
   ·subst h; exact Nat.lt_succ_self _
   ·have:=hi.1 _ h; omega

theorem HR.oK {c : Cx} {H : Heap} (h : HR c H) {k : Nat} {o : HO} (hk : hget H k = some o) : o.Ok c k:=h.ok _ (gW hk)

end Go.AL

namespace Go.AL

inductive TD where
 | dG | bool | int (k : IntKind) | str | slice (e : Nat) | struct (fs : List (Nat × Nat × Nat)) | arr (n e : Nat) | map (k e : Nat) | iface | ptr (e : Nat) | other
 deriving Inhabited

structure TI where
 desc : TD
 bytes : Nat
 zero : AV
 key : Option AV:=none
 cmp : Bool:=false
 deriving Inhabited

inductive Lay where
 | nil
 | node (l : Lay) (t : Nat) (i : TI) (r : Lay)

def Lay.bg : Lay -> Nat -> (TI -> Prop) -> Prop
 | .nil,_,_=>False
 | .node l t i r,n,k=>match Nat.beq n t with
   | true=>k i
   | false=>match Nat.ble n t with
     | true=>l.bg n k
     | false=>r.bg n k

def descOf (P : Program) : TypeDesc -> TD
 | .bool=>.bool
 | .int k=>.int k
 | .string=>.str
 | .slice e=>.slice e
 | .struct fs=>.struct (fs.toList.map fun f=>(f.offset,P.cellsOf f.type,f.type))
 | .array n e=>.arr n e
 | .map k e=>.map k e
 | .interface _=>.iface
 | .pointer e=>.ptr e
 | .func ..=>.dG
 | _=>.other

def TL : TD -> Bool
 | .struct _ | .arr _ _=>true
 | _=>false

def sK (n : Nat) : List AV -> List (Nat × Nat)
 | []=>[]
 | x :: l=>(n,flat x) :: sK (n + flat x) l

structure PN (P : Program) (k : Nat) (sh : AV) : Prop where
 law : Go.Maps.Keyed P k
 rd : ∀ w Im A v,ay sh A = true -> dQ A v -> Rd w Im A v.cells.toList -> ∃ l,keyOf P k v = some l

def jk : AV -> AV -> Bool
 | .int k _,.int k' _=>oM k k'
 | .str _,.str _=>true
 | .ff,.tt | .ff,.ff | .ff,.bool _ | .ff,.dec _=>true
 | _,_=>false
def gJ : List AV -> List AV -> Bool
 | [],[]=>true
 | x :: l,y :: m=>match jk x y with | true=>gJ l m | false=>false
 | _,_=>false

def XI : AV -> Prop
 | .tt=>True
 | .bool b=>b = true
 | .dec p=>p
 | _=>False

def Z9 : AV -> AV -> Prop
 | .int _ a,.int _ b=>a = b
 | .str a,.str b=>a = b
 | A,B=>(XI A ↔ XI B)
def Nh : List AV -> List AV -> Prop
 | [],[]=>True
 | x :: l,y :: m=>Z9 x y /\ Nh l m
 | _,_=>False

structure EqOk (P : Program) (t : Nat) (zs : List AV) : Prop where
 run : ∀ w Im l m cs ds,gJ zs l = true -> gJ zs m = true -> kX w Im l cs.toList -> kX w Im m ds.toList -> ∃ r,(Op.equal t (.agg cs) (.agg ds)).run P w = .ok r w /\ (r = true ↔ cs = ds)
 grd : P.eqGuardType P.depth t = false

structure nH (P : Program) (t : Nat) (i : TI) : Prop where
 cmpd : i.cmp = true -> ∀ zs,i.zero = .ag zs -> EqOk P t zs
 keyed : ∀ k e sh,i.desc = .map k e -> i.key = some sh -> PN P k sh
 info : ∃ x v,P.info? t = some x /\ x.size = flat i.zero /\ x.bytes = i.bytes /\ x.zero = some v /\ dQ i.zero v /\ ∀ w Im,Rd w Im i.zero v.cells.toList
 desc : (P.underlying t).map (descOf P) = some i.desc
 agg : TL i.desc = dn i.zero
 Z8 : ∀ fs,i.desc = .struct fs -> ∃ zs,i.zero = .ag zs /\ fs.map (fun f=>(f.1,f.2.1)) = sK 0 zs
 inf : ∀ fs,i.desc = .struct fs -> ∀ f ∈ fs,∃ x,P.info? f.2.2 = some x

def bZ (P : Program) : Lay -> Prop
 | .nil=>True
 | .node l t i r=>nH P t i /\ bZ P l /\ bZ P r

theorem Lay.aT {P : Program} {k : TI -> Prop} : ∀ {L : Lay} {t : Nat},bZ P L -> L.bg t k -> ∃ i,nH P t i /\ k i
 | .nil,_,_,h=>h.elim
 | .node l t' i r,t,hL,h=>by
   simp only [Lay.bg] at h
   cases hb : Nat.beq t t' with
   | true=>rw [hb] at h; obtain rfl:=Nat.eq_of_beq_eq_true hb; exact ⟨i,hL.1,h⟩
   | false =>
     rw [hb] at h
     cases hc : Nat.ble t t' with
     | true=>rw [hc] at h; exact Lay.aT hL.2.1 h
     | false=>rw [hc] at h; exact Lay.aT hL.2.2 h

def DK (v : Value) (k : AV -> Prop) : Prop :=
 match v with
 | .bool true=>k .tt
 | .bool false=>k .ff
 | .int kd n=>k (.int kd n)
 | .string s=>k (.str s.data.toList)
 | .slice none 0 0=>k .aV
 | .nilIface=>k .bH
 | .pointer none=>k .fJ
 | .map none=>k .jQ
 | .nilFunc=>k .aZ
 | _=>False

def bP (e : Env) (x : Operand) (k : AV -> Prop) : Prop :=
 match x with
 | .tmp t=>vC e t k
 | .const v=>DK v k
 | .func f=>k (.fn f [])
 | .global _=>False

def mQ (e : Env) : List Operand -> (List AV -> Prop) -> Prop
 | [],k=>k []
 | x :: l,k=>bP e x fun A=>mQ e l fun As=>k (A :: As)

def oL {α : Type} : List α -> Nat -> (α -> Prop) -> Prop
 | [],_,_=>False
 | x :: _,0,k=>k x
 | _ :: l,n + 1,k=>oL l n k

def iV : List AV -> Nat -> AV -> (List AV -> Prop) -> Prop
 | [],_,_,_=>False
 | _ :: l,0,y,k=>k (y :: l)
 | x :: l,n + 1,y,k=>iV l n y fun l'=>k (x :: l')

def Fq : List Nat -> Nat -> (List Nat -> Prop) -> Prop
 | [],x,k=>k [x]
 | y :: l,x,k=>Fq l x fun l'=>k (y :: l')

def Fb : List AV -> List AV -> (List AV -> Prop) -> Prop
 | [],m,k=>k m
 | x :: l,m,k=>Fb l m fun l'=>k (x :: l')

def sV : AV -> List Nat -> (AV -> Prop) -> Prop
 | A,[],k=>k A
 | .ag l,i :: p,k=>oL l i fun x=>sV x p k
 | _,_ :: _,_=>False

def xk : AV -> List Nat -> AV -> (AV -> Prop) -> Prop
 | _,[],y,k=>k y
 | .ag l,i :: p,y,k=>oL l i fun x=>xk x p y fun x'=>iV l i x' fun l'=>k (.ag l')
 | _,_ :: _,_,_=>False

def CO : AV -> List Nat -> Nat
 | .ag l,i :: p=>iD (l.take i) + (match l[i]? with | some x=>CO x p | none=>0)
 | _,_=>0

def isVal : AV -> Bool
 | .dA _ | .und=>false
 | _=>true

def BQ (A : AV) (k : Prop) : Prop:=match isVal A with | true=>k | false=>False

def zW : List AV -> Prop -> Prop
 | [],k=>k
 | A :: l,k=>BQ A (zW l k)

def wG (L : Lay) (t : Nat) (x : AV) (k : Prop) : Prop :=
 BQ x <| L.bg t fun i=>match Nat.beq (flat x) (flat i.zero) with
  | false=>False
  | true=>match dn x,dn i.zero with
    | true,true=>k
    | false,false=>k
    | _,_=>False

def jP (a b : Nat) (k : Prop) : Prop:=match Nat.beq a b with | true=>k | false=>False
def zF (a b : Nat) (k : Prop) : Prop:=match Nat.ble a b with | true=>k | false=>False

def br (A : AV) (kt kf : Prop) : Prop :=
 match A with
 | .tt=>kt
 | .ff=>kf
 | .bool b=>(b = true -> kt) /\ (b = false -> kf)
 | .dec p=>(p -> kt) /\ (¬ p -> kf)
 | _=>False

def arith (kd : IntKind) (z : Int) (k : AV -> Prop) : Prop :=
 match kd with
 | .i64=>rZ .i64 z /\ k (.int .i64 z)
 | kd=>k (.int kd (kd.wrap z))

def dI (op : BinOp) (k : IntKind) (x y : Int) : Int :=
 match op with
 | .and=>k.wrap (BitVec.ofInt k.bits x &&& BitVec.ofInt k.bits y).toNat
 | .or=>k.wrap (BitVec.ofInt k.bits x ||| BitVec.ofInt k.bits y).toNat
 | .xor=>k.wrap (BitVec.ofInt k.bits x ^^^ BitVec.ofInt k.bits y).toNat
 | _=>k.wrap (BitVec.ofInt k.bits x &&& ~~~ (BitVec.ofInt k.bits y)).toNat

def yT (k : IntKind) (x y : Int) : Int:=k.wrap (x * 2 ^ min y.toNat k.bits)
def uX (k : IntKind) (x y : Int) : Int:=x.fdiv (2 ^ min y.toNat k.bits)

def rY : AV -> (AV -> Prop) -> Prop
 | .tt,k=>k .ff
 | .ff,k=>k .tt
 | .bool b,k=>k (.bool (!b))
 | .dec p,k=>k (.dec (¬ p))
 | _,_=>False

def D7 (x : AV) (k : AV -> Prop) : Prop :=
 match x with
 | .tt=>k .tt | .ff=>k .ff | .bool b=>k (.bool b) | .dec p=>k (.dec p) | _=>False

def WA (A B : AV) (k : AV -> Prop) : Prop :=
 match A,B with
 | .tt,x=>D7 x k
 | x,.tt=>D7 x k
 | .ff,x=>rY x k
 | x,.ff=>rY x k
 | .bool a,.bool b=>k (.dec (a = b))
 | .dec p,.dec q=>k (.dec (p ↔ q))
 | .dec p,.bool b=>k (.dec (p ↔ b = true))
 | .bool b,.dec p=>k (.dec (b = true ↔ p))
 | _,_=>False

def Ad (A B : AV) (k : AV -> Prop) : Prop :=
 match A,B with
 | .bH,.bH=>k .tt
 | .bH,.jh _ _=>k .ff
 | .jh _ _,.bH=>k .ff
 | _,_=>False

def sN (A B : AV) (k : AV -> Prop) : Prop :=
 match A,B with
 | .fJ,.fJ=>k .tt
 | .cp _,.fJ=>k .ff
 | .ptr _ _ _,.fJ=>k .ff
 | _,_=>False

def U8 (d : TD) (op : BinOp) (hc : Bool) (A B : AV) (k : AV -> Prop) : Prop :=
 match d,op with
 | .bool,.eql=>WA A B k
 | .bool,.neq=>WA A B fun R=>rY R k
 | .iface,.eql=>(match hc with | true=>Ad A B k | false=>False)
 | .iface,.neq=>(match hc with | true=>Ad A B fun R=>rY R k | false=>False)
 | .ptr _,.eql=>sN A B k
 | .ptr _,.neq=>sN A B fun R=>rY R k
 | _,_=>False

def zL (d : TD) (op : BinOp) (hc : Bool) (A B : AV) (k : AV -> Prop) : Prop :=
 match A,B with
 | .int ka a,.int kb b =>
   (match op with
   | .shl=>0 <= b /\ k (.int ka (yT ka a b))
   | .shr=>0 <= b /\ k (.int ka (uX ka a b))
   | op=>match oM ka kb with
     | false=>False
     | true=>match op with
       | .add=>arith ka (a + b) k
       | .sub=>arith ka (a - b) k
       | .mul=>arith ka (a * b) k
       | .quo=>b ≠ 0 /\ arith ka (a.tdiv b) k
       | .rem=>b ≠ 0 /\ k (.int ka (a.tmod b))
       | .eql=>k (.dec (a = b))
       | .neq=>k (.dec (a ≠ b))
       | .lss=>k (.dec (a < b))
       | .leq=>k (.dec (a <= b))
       | .gtr=>k (.dec (b < a))
       | .geq=>k (.dec (b <= a))
       | op=>k (.int ka (dI op ka a b)))
 | .str a,.str b =>
   (match op with
   | .add=>a.length + b.length <= maxL /\ k (.str (a ++ b))
   | .eql=>k (.dec (a = b))
   | .neq=>k (.dec (a ≠ b))
   | .lss=>k (.bool (Op.bytesLess a b))
   | _=>False)
 | A,B=>U8 d op hc A B k

def Ll (i : TI) (op : BinOp) (A B : AV) (k : AV -> Prop) : Prop :=
 match i.cmp,i.zero,A,B with
 | true,.ag zs,.ag l,.ag m=>match gJ zs l,gJ zs m with
   | true,true=>(match op with
     | .eql=>k (.dec (Nh l m))
     | .neq=>k (.dec (¬ Nh l m))
     | _=>False)
   | _,_=>False
 | _,_,_,_=>False

structure kE {α : Type} (l : List α) (n : Int) (k : α -> Prop) : Prop where
 ex : ∃ x,(0 <= n /\ l[n.toNat]? = some x) /\ k x

structure VB {α : Type} (l : List α) (lo hi : Int) (k : List α -> Prop) : Prop where
 ex : (0 <= lo /\ lo <= hi /\ hi <= (l.length : Int)) /\ k ((l.drop lo.toNat).take (hi.toNat - lo.toNat))

inductive PY (e n : Nat) (sz : Nat) (z : AV) (H : Heap) (k : AV -> Heap -> Prop) : Prop where
 | pure (h : n = e /\ k (.sl sz (List.replicate n z) .full) H)
 | wr (h : k (.ms (nextId H) 0 n e sz) ((nextId H,.arr sz e (List.replicate n z)) :: H))

def vg (A : AV) (k : AV -> Prop) : Prop:=match mW A with | true=>k (strip A) | false=>False

def vP (H : Heap) (sz : Nat) (B : AV) (k : List AV -> Prop) : Prop :=
 match B with
 | .aV=>k []
 | .sl sz' m _=>jP sz' sz (k m)
 | .ms j off len _ sz'=>jB H j fun o=>match o with
   | .arr RZ _ l=>jP sz' sz (jP RZ sz (off + len <= l.length /\ k ((l.drop off).take len)))
   | _=>False
 | .str s=>jP sz 1 (k (s.map fun b=>.int .u8 b.toNat))
 | _=>False

structure XD (sz bytes : Nat) (l m : List AV) (k : Prop) : Prop where
 len : l.length + m.length <= maxL
 room : (l.length + m.length) * bytes <= 140737488355328
 next : k

inductive AA (sz bytes : Nat) (l m : List AV) (H : Heap) (k : AV -> Heap -> Prop) : Prop where
 | tok (len : l.length + m.length <= maxL) (room : (l.length + m.length) * bytes <= 140737488355328) (next : nS H (.tok sz (l.length + m.length)) fun j H'=>k (.sl sz (l ++ m) (.own j)) H')
 | pure (len : l.length + m.length <= maxL) (room : (l.length + m.length) * bytes <= 140737488355328) (next : k (.sl sz (l ++ m) .no) H)

inductive VE (sz bytes : Nat) (l m : List AV) (H : Heap) (k : AV -> Heap -> Prop) : Prop where
 | tok (len : l.length + m.length <= maxL) (room : (l.length + m.length) * bytes <= 140737488355328) (next : nS H (.tok sz (l.length + m.length)) fun j H'=>k (.sl sz (l ++ m) (.own j)) H')
 | pure (len : l.length + m.length <= maxL) (room : (l.length + m.length) * bytes <= 140737488355328) (next : k (.sl sz (l ++ m) .no) H)
 | wr (ne : m ≠ []) (len : l.length + m.length <= maxL) (room : (l.length + m.length) * bytes <= 140737488355328)
   (next : ∀ cp,l.length + m.length <= cp -> cp <= maxL -> k (.ms (nextId H) 0 (l.length + m.length) cp sz) ((nextId H,.arr sz cp (l ++ m)) :: H))

mutual
def pK : AV -> AV -> Prop
 | .tt,.bool b=>b = true
 | .tt,.dec p=>p
 | .ff,.bool b=>b = false
 | .ff,.dec p=>¬ p
 | .bool a,.bool b=>a = b
 | .bool a,.dec p=>(a = true ↔ p)
 | .bool a,.tt=>a = true
 | .bool a,.ff=>a = false
 | .dec p,.bool b=>(p ↔ b = true)
 | .dec p,.dec q=>(p ↔ q)
 | .dec p,.tt=>p
 | .dec p,.ff=>¬ p
 | .int k a,.int k' b=>k = k' /\ a = b
 | .str a,.str b=>a = b
 | .aV,.sl _ l .no=>l = []
 | .sl s l .no,.sl s' l' .no=>s = s' /\ gq l l'
 | .ag l,.ag m=>gq l m
 | .jh t x,.jh t' y=>t = t' /\ pK x y
 | A,B=>A = B
def gq : List AV -> List AV -> Prop
 | [],[]=>True
 | x :: l,y :: m=>pK x y /\ gq l m
 | _,_=>False
end

mutual
def le0 : AV -> AV -> Prop
 | .tt,.bool b=>b = true
 | .tt,.dec p=>p
 | .ff,.bool b=>b = false
 | .ff,.dec p=>¬ p
 | .bool a,.bool b=>a = b
 | .bool a,.dec p=>(a = true ↔ p)
 | .bool a,.tt=>a = true
 | .bool a,.ff=>a = false
 | .dec p,.bool b=>(p ↔ b = true)
 | .dec p,.dec q=>(p ↔ q)
 | .dec p,.tt=>p
 | .dec p,.ff=>¬ p
 | .int k a,.int k' b=>k = k' /\ a = b
 | .str a,.str b=>a = b
 | .aV,.sl _ l .no=>l = []
 | .aV,.sl _ l .full=>l = []
 | .sl s l _,.sl s' l' .no=>s = s' /\ gq l l'
 | .sl s l .full,.sl s' l' .full=>s = s' /\ gq l l'
 | .sl s l (.own k),.sl s' l' (.own k')=>s = s' /\ gq l l' /\ k = k'
 | .jh t x,.jh t' y=>t = t' /\ le0 x y
 | .ag l,.ag m=>ER l m
 | A,B=>A = B
def ER : List AV -> List AV -> Prop
 | [],[]=>True
 | x :: l,y :: m=>le0 x y /\ ER l m
 | _,_=>False
end

def le (A B : AV) : Prop:=match A,B with | _,.und=>True | .dA l,.dA m=>ER l m | A,B=>le0 A B

mutual
def dD (n : Nat) : AV -> Bool
 | .ptr k _ _=>Nat.blt k n
 | .ms k _ _ _ _=>Nat.blt k n
 | .mp k=>Nat.blt k n
 | .gs k _=>Nat.blt k n
 | .bm _ k=>Nat.blt k n
 | .sl _ _ (.own k)=>Nat.blt k n
 | .fn _ cap=>fH n cap
 | .ag l=>fH n l
 | .dA l=>fH n l
 | .jh _ x=>dD n x
 | _=>true
def fH (n : Nat) : List AV -> Bool
 | []=>true
 | x :: l=>match dD n x with | true=>fH n l | false=>false
end

structure FT where
 h : Nat -> List AV -> Heap -> AV -> Heap -> Prop
 q : Nat -> List AV -> Heap -> (AV -> Heap -> Prop) -> Prop
 /-- Sums may wrap. -/
 w : Bool:=false

instance : CoeFun FT fun _=>Nat -> List AV -> Heap -> AV -> Heap -> Prop:=⟨FT.h⟩

inductive G7 (F : FT) (gu : AV -> Prop) (f : Nat) (args : List AV) (H : Heap) (k : AV -> Heap -> Prop) : Prop where
 | gen (R : AV) (H' : Heap) (h : F f args H R H') (h' : gu R -> k R H')
 | pure (Bs : List AV) (R : AV) (hle : ER args Bs) (hb : fH 0 Bs = true /\ dD 0 R = true) (h : F f Bs [] R []) (h' : gu R -> k R H)

inductive VD (F : FT) (gu : AV -> Prop) (f : Nat) (args : List AV) (H : Heap) (k : AV -> Heap -> Prop) : Prop where
 | gen (R : AV) (H' : Heap) (h : F f args H R H') (h' : gu R -> k R H')
 | pure (Bs : List AV) (R : AV) (hle : ER args Bs) (hb : fH 0 Bs = true /\ dD 0 R = true) (h : F f Bs [] R []) (h' : gu R -> k R H)
 | rel (Q : AV -> Heap -> Prop) (h : F.q f args H Q) (h' : ∀ R H',Q R H' -> gu R -> k R H')
 | oJ (Bs : List AV) (Q : AV -> Prop) (hle : ER args Bs) (hb : fH 0 Bs = true) (h : F.q f Bs [] fun R H'=>H' = [] /\ dD 0 R = true /\ Q R) (h' : ∀ R,Q R -> gu R -> k R H)

def jd : Operand -> Bool
 | .const _=>true
 | _=>false

mutual
def I9 : AV -> List Value
 | .int k n=>[.int k n]
 | .str s=>[.string ⟨s.toArray⟩]
 | .ag l=>Yy l
 | _=>[]
def Yy : List AV -> List Value
 | []=>[]
 | x :: l=>I9 x ++ Yy l
end

def X8 (es : List (AV × AV)) (K : AV) : Option AV -> Prop
 | none=>∀ x ∈ es,I9 x.1 ≠ I9 K
 | some v=>∃ x ∈ es,I9 x.1 = I9 K /\ x.2 = v

structure G6 (es : List (AV × AV)) (K : AV) (k : Option AV -> Prop) : Prop where
 ex : ∃ r,X8 es K r /\ k r

def UpdR (es : List (AV × AV)) (K V : AV) (es' : List (AV × AV)) : Prop :=
 ((∀ x ∈ es,I9 x.1 ≠ I9 K) /\ es' = es ++ [(K,V)]) \/ ∃ j x,es[j]? = some x /\ I9 x.1 = I9 K /\ es' = es.set j (K,V)

structure Za (es : List (AV × AV)) (K V : AV) (k : List (AV × AV) -> Prop) : Prop where
 ex : ∃ es',UpdR es K V es' /\ k es'

def FM (b : Bool) (k : Prop) : Prop:=match b with | true=>k | false=>False

def CW (ok : Bool) (z : AV) (r : Option AV) (k : AV -> Prop) : Prop :=
 match ok,r with
 | true,some v=>k (.dA [v,.tt])
 | true,none=>k (.dA [z,.ff])
 | false,some v=>k v
 | false,none=>k z

def IG (z : AV) (s : Nat) (A : AV) (ok : Bool) (k : AV -> Prop) : Prop :=
 match A,ok with
 | .bH,true=>k (.dA [z,.ff])
 | .jh t y,true=>(match Nat.beq t s with | true=>k (.dA [y,.tt]) | false=>k (.dA [z,.ff]))
 | .jh t y,false=>(match Nat.beq t s with | true=>k y | false=>False)
 | _,_=>False

def Ru (op : BinOp) (A : AV) (k : AV -> Prop) : Prop :=
 match op,A with
 | .eql,.aV=>k .tt
 | .neq,.aV=>k .ff
 | .eql,.ms _ _ _ _ _=>k .ff
 | .neq,.ms _ _ _ _ _=>k .tt
 | .eql,.sl _ l _=>∀ b : Bool,(b = true -> l = []) -> k (.bool b)
 | .neq,.sl _ l _=>∀ b : Bool,(b = false -> l = []) -> k (.bool b)
 | _,_=>False

def ng : Op -> Bool
 | .binOp _ _ _ (.const (.slice none 0 0)) _=>true
 | _=>false

def noNil (op : Op) (k : Prop) : Prop:=match ng op with | true=>False | false=>k

def iG (e : Env) : List (Nat × Operand) -> List AV -> (List AV -> Prop) -> Prop
 | [],zs,k=>k zs
 | (i,x) :: ps,zs,k=>bP e x fun A=>BQ A <| oL zs i fun z=>jP (flat A) (flat z) (match dn A,dn z with
   | true,true=>iV zs i A fun zs'=>iG e ps zs' k
   | false,false=>iV zs i A fun zs'=>iG e ps zs' k
   | _,_=>False)

def xR : List AV -> Bool
 | []=>true
 | x :: l=>match Nat.beq (flat x) 1 with | true=>xR l | false=>false

def iO (e : Env) : List (Nat × Operand) -> List AV -> (List AV -> Prop) -> Prop
 | [],zs,k=>k zs
 | (i,x) :: ps,zs,k=>bP e x fun A=>oL zs i fun z=>jP (flat A) (flat z) (match dn A,dn z with
   | true,true=>vg A fun B=>iV zs i B fun zs'=>iO e ps zs' k
   | false,false=>vg A fun B=>iV zs i B fun zs'=>iO e ps zs' k
   | _,_=>False)

def Hq (z : AV) : Nat -> (List AV -> Prop) -> Prop
 | 0,k=>k []
 | n + 1,k=>Hq z n fun l=>k (z :: l)

section
variable (F : FT) (gu : AV -> Prop) (L : Lay)

def jf (t : Nat) (A : AV) (H : Heap) (k : AV -> Prop) : Prop :=
 match A with
 | .cp x=>wG L t x (k x)
 | .ptr i p off=>jB H i fun o=>match o with
   | .box A=>sV A p fun x=>jP (CO A p) off (wG L t x (k x))
   | .arr sz _ l=>(match p with
     | [j]=>kE l (j : Int) fun x=>off = j * sz /\ wG L t x (k x)
     | j :: q=>kE l (j : Int) fun x=>sV x q fun y=>off = j * sz + CO x q /\ wG L t y (k y)
     | _=>False)
   | _=>False
 | _=>False

def Ed (t : Nat) (A B : AV) (H : Heap) (k : Heap -> Prop) : Prop :=
 match A with
 | .ptr i p off=>jB H i fun o=>match o with
   | .box A=>sV A p fun x=>jP (CO A p) off (wG L t B (jP (flat x) (flat B) (xk A p B fun A'=>nY H i (.box A') k)))
   | .arr sz cap l=>(match p with
     | [j]=>vg B fun B'=>jP (flat B) sz (wG L t B (j < l.length /\ off = j * sz /\ nY H i (.arr sz cap (l.set j B')) k))
     | j :: q=>kE l (j : Int) fun x=>sV x q fun y=>off = j * sz + CO x q /\ wG L t B (jP (flat y) (flat B) (xk x q B fun A'=>vg A' fun A''=>nY H i (.arr sz cap (l.set j A'')) k))
     | _=>False)
   | _=>False
 | _=>False

def yE (t : Nat) (A K V : AV) (H : Heap) (ks : Heap -> Prop) : Prop :=
 L.bg t fun i=>(match i.desc,i.key with
  | .map _ et,some sh=>FM (ay sh K) <| wG L et V <| (match A with
    | .mp j=>jB H j fun o=>(match o with
      | .iK sh' es=>FM (ay sh' sh) <| Za es K V fun es'=>nY H j (.iK sh' es') ks
      | _=>False)
    | _=>False)
  | _,_=>False)

def zJ (t : Nat) (A : AV) (f : Nat) (k : AV -> Prop) : Prop :=
 L.bg t fun i=>match i.desc,i.zero with
  | .struct _,.ag zs=>(match A with
    | .cp (.ag l)=>jP (iD (l.take f)) (iD (zs.take f)) (oL zs f fun z=>(match flat z with
      | 0=>False
      | _ + 1=>oL l f fun x=>k (.cp x)))
    | .ptr j p off=>oL zs f fun z=>(match flat z with
      | 0=>False
      | _ + 1=>Fq p f fun p'=>k (.ptr j p' (off + iD (zs.take f))))
    | _=>False)
  | _,_=>False

def IK (t : Nat) (A : AV) (f : Nat) (k : AV -> Prop) : Prop :=
 L.bg t fun i=>match i.desc,i.zero,A with
  | .struct fs,.ag zs,.ag l=>oL zs f fun _=>oL fs f fun fd=>L.bg fd.2.2 fun j=>(match dn j.zero with
    | false=>jP (iD (l.take f)) (iD (zs.take f)) (oL l f fun y=>(match dn y with | false=>k y | true=>False))
    | true=>False)
  | _,_,_=>False

def lH (t : Nat) (A I : AV) (k : AV -> Prop) : Prop :=
 match I with
 | .int _ n=>L.bg t fun i=>(match i.desc,A with
   | .slice e,.sl sz l _=>L.bg e fun ei=>jP sz (flat ei.zero) (kE l n fun x=>k (.cp x))
   | .slice e,.ms j off len _ sz=>L.bg e fun ei=>jP sz (flat ei.zero) ((0 <= n /\ n < (len : Int)) /\ k (.ptr j [off + n.toNat] ((off + n.toNat) * sz)))
   | .arr m e,.ptr j p off=>L.bg e fun ei=>(0 <= n /\ n < (m : Int)) /\ Fq p n.toNat fun p'=>k (.ptr j p' (off + n.toNat * flat ei.zero))
   | _,_=>False)
 | _=>False

def zH (t : Nat) (A I : AV) (k : AV -> Prop) : Prop :=
 match A,I with
 | .str s,.int _ n=>L.bg t fun i=>(match i.desc with
   | .str=>kE s n fun b=>k (.int .u8 b.toNat)
   | _=>False)
 | _,_=>False

def tK (e : Env) (x : Option Operand) (d : Int) (k : Int -> Prop) : Prop :=
 match x with
 | none=>k d
 | some x=>bP e x fun A=>match A with | .int _ n=>k n | _=>False

def aslice (t : Nat) (e : Env) (A : AV) (lo hi : Option Operand) (k : AV -> Prop) : Prop :=
 L.bg t fun i=>match i.desc,A with
  | .str,.str s=>tK e lo 0 fun l=>tK e hi s.length fun h=>VB s l h fun s'=>k (.str s')
  | .slice el,.sl sz l _=>L.bg el fun ei=>jP sz (flat ei.zero) (tK e lo 0 fun a=>tK e hi l.length fun b=>VB l a b fun l'=>k (.sl sz l' .no))
  | .slice el,.ms j off len cap sz=>L.bg el fun ei=>jP sz (flat ei.zero) (tK e lo 0 fun a=>tK e hi len fun b =>
    (0 <= a /\ a <= b /\ b <= (len : Int)) /\ a < (cap : Int) /\ k (.ms j (off + a.toNat) (b.toNat - a.toNat) (cap - a.toNat) sz))
  | .slice el,.aV=>L.bg el fun _=>tK e lo 0 fun a=>tK e hi 0 fun b=>(a = 0 /\ b = 0) /\ k .aV
  | _,_=>False

def jr (t : Nat) (A B : AV) (H : Heap) (k : AV -> Heap -> Prop) : Prop :=
 L.bg t fun i=>match i.desc with
  | .slice e=>L.bg e fun ei=>(match A with
    | .aV=>vP H (flat ei.zero) B fun m=>AA (flat ei.zero) ei.bytes [] m H k
    | .sl sz l .full=>jP sz (flat ei.zero) (vP H sz B fun m=>AA sz ei.bytes l m H k)
    | .sl sz l (.own j)=>jP sz (flat ei.zero) (vP H sz B fun m=>jB H j fun o=>match o with
      | .tok sz' top=>jP sz' sz (top = l.length /\ XD sz ei.bytes l m (nY H j (.tok sz (l.length + m.length)) fun H'=>k (.sl sz (l ++ m) (.own j)) H'))
      | _=>False)
    | _=>False)
  | _=>False

def yF (t : Nat) (A B : AV) (H : Heap) (k : AV -> Heap -> Prop) : Prop :=
 L.bg t fun i=>match i.desc with
  | .slice e=>L.bg e fun ei=>(match A with
    | .aV=>vP H (flat ei.zero) B fun m=>VE (flat ei.zero) ei.bytes [] m H k
    | .sl sz l .full=>jP sz (flat ei.zero) (vP H sz B fun m=>VE sz ei.bytes l m H k)
    | .sl sz l (.own j)=>jP sz (flat ei.zero) (vP H sz B fun m=>jB H j fun o=>match o with
      | .tok sz' top=>jP sz' sz (top = l.length /\ XD sz ei.bytes l m (nY H j (.tok sz (l.length + m.length)) fun H'=>k (.sl sz (l ++ m) (.own j)) H'))
      | _=>False)
    | .gs j len=>vP H (flat ei.zero) B fun m=>jB H j fun o=>match o with
      | .dU sz l=>jP sz (flat ei.zero) (l.length = len /\ m ≠ [] /\ XD sz ei.bytes l m (nY H j (.dU sz (l ++ m)) fun H'=>k (.gs j (len + m.length)) H'))
      | _=>False
    | .ms j off len cap 1=>jP (flat ei.zero) 1 (vP H 1 B fun m=>jB H j fun o=>match o with
      | .arr 1 cp l=>(off + len <= l.length /\ off + len + m.length <= cp /\ len + m.length <= cap) /\ nY H j (.arr 1 cp (l.take (off + len) ++ m ++ l.drop (off + len + m.length))) fun H'=>k (.ms j off (len + m.length) cap 1) H'
      | _=>False)
    | _=>False)
  | _=>False

def En (t : Nat) (A B : AV) (H : Heap) (k : AV -> Heap -> Prop) : Prop :=
 L.bg t fun i=>match i.desc with
  | .slice e=>L.bg e fun ei=>FM (!dn ei.zero) (match A,B with
    | .aV,.int _ n=>(0 < n /\ n <= 9223372036854775807 /\ n * ei.bytes <= 140737488355328) /\
      ∀ cp,n.toNat <= cp -> cp <= maxL -> k (.ms (nextId H) 0 n.toNat cp 1) ((nextId H,.arr 1 cp (List.replicate n.toNat ei.zero)) :: H)
    | _,_=>False)
  | _=>False

def IJ (d : TD) (A : AV) (_ : Heap) (k : AV -> Prop) : Prop :=
 match d,A with
 | .slice _,.aV=>k (.int .i64 0)
 | .slice _,.sl _ l _=>k (.int .i64 l.length)
 | .slice _,.ms _ _ len _ _=>k (.int .i64 len)
 | .str,.str s=>k (.int .i64 s.length)
 | .map _ _,.jQ=>k (.int .i64 0)
 | _,_=>False

def MQ (A B : AV) (k : AV -> Prop) : Prop :=
 match A,B with
 | .int ka a,.int kb b=>(match oM ka kb with | true=>k (.int ka (max a b)) | false=>False)
 | _,_=>False
def AY (A B : AV) (k : AV -> Prop) : Prop :=
 match A,B with
 | .int ka a,.int kb b=>(match oM ka kb with | true=>k (.int ka (min a b)) | false=>False)
 | _,_=>False

def fA (b : Builtin) (argTypes : List Nat) (args : List AV) (H : Heap) (k : AV -> Heap -> Prop) : Prop :=
 match b,argTypes,args with
 | .len,t :: _,[A]=>L.bg t fun i=>IJ i.desc A H fun R=>k R H
 | .append,t :: u :: _,[A,B]=>L.bg u fun i=>(match i.desc with
   | .slice _=>jr L t A B H k
   | .str=>jr L t A B H k
   | _=>False)
 | .max,_,[A,B]=>MQ A B fun R=>k R H
 | .min,_,[A,B]=>AY A B fun R=>k R H
 | _,_,_=>False

def zK (b : Builtin) (argTypes : List Nat) (args : List AV) (H : Heap) (k : AV -> Heap -> Prop) : Prop :=
 match b,argTypes,args with
 | .len,t :: _,[A]=>L.bg t fun i=>(match i.desc,A with
   | .map _ _,.mp j=>jB H j fun o=>(match o with
     | .iK _ es=>es.length <= 9223372036854775807 /\ k (.int .i64 es.length) H
     | _=>False)
   | .slice _,.gs j n=>jB H j fun o=>(match o with
     | .dU _ l=>l.length = n /\ k (.int .i64 n) H
     | _=>False)
   | d,A=>IJ d A H fun R=>k R H)
 | .append,t :: u :: _,[A,B]=>L.bg u fun i=>(match i.desc with
   | .slice _=>yF L t A B H k
   | .str=>yF L t A B H k
   | .int _=>En L t A B H k
   | _=>False)
 | .cap,t :: _,[A]=>L.bg t fun i=>(match i.desc,A with
   | .slice _,.aV=>k (.int .i64 0) H
   | _,_=>False)
 | .max,_,[A,B]=>MQ A B fun R=>k R H
 | .min,_,[A,B]=>AY A B fun R=>k R H
 | .min,_,[A,B,C]=>AY A B fun R=>AY R C fun R=>k R H
 | .clear,t :: _,[A]=>L.bg t fun i=>(match i.desc,A with
   | .slice el,.ms j off len _ 1=>L.bg el fun ei=>FM (!dn ei.zero) <| jB H j fun o=>(match o with
     | .arr 1 cp l=>(0 < len /\ off + len <= l.length) /\ nY H j (.arr 1 cp (l.take off ++ List.replicate len ei.zero ++ l.drop (off + len))) fun H'=>k (.dA []) H'
     | _=>False)
   | _,_=>False)
 | _,_,_=>False

def gU (op : Op) (e : Env) (H : Heap) (k : AV -> Heap -> Prop) (ks : Heap -> Prop) : Prop :=
 match op with
 | .move x=>bP e x fun A=>k A H
 | .assign x=>bP e x fun A=>k A H
 | .pick c a b=>bP e c fun C=>(match C with
   | .tt=>bP e a fun A=>k A H
   | .ff=>bP e b fun A=>k A H
   | .bool x=>(x = true -> bP e a fun A=>k A H) /\ (x = false -> bP e b fun A=>k A H)
   | .dec p=>(p -> bP e a fun A=>k A H) /\ (¬ p -> bP e b fun A=>k A H)
   | _=>False)
 | .alloc t=>L.bg t fun i=>nS H (.box i.zero) fun j H'=>k (.ptr j [] 0) H'
 | .box t x=>bP e x fun A=>wG L t A (nS H (.box A) fun j H'=>k (.ptr j [] 0) H')
 | .build t ps=>L.bg t fun i=>(match i.desc,i.zero with
   | .struct _,.ag zs=>iG e ps.toList zs fun l=>k (.ag l) H
   | .arr _ el,.ag zs=>L.bg el fun ei=>jP (flat ei.zero) 1 (FM (xR zs) (iG e ps.toList zs fun l=>k (.ag l) H))
   | _,_=>False)
 | .buildSlice t n ps=>L.bg t fun i=>(match i.desc with
   | .slice el=>L.bg el fun ei=>zF (n * flat ei.zero) 16777216 <| zF n 16777216 <| Hq ei.zero n fun zs=>iO e ps.toList zs fun l=>k (.sl (flat ei.zero) l .full) H
   | _=>False)
 | .load t x=>bP e x fun A=>jf L t A H fun R=>k R H
 | .store t a x=>bP e a fun A=>bP e x fun B=>Ed L t A B H ks
 | .nilCheck x=>bP e x fun A=>(match A with
   | .ptr _ _ _=>k A H
   | .cp _=>k A H
   | .fn _ _=>k A H
   | _=>False)
 | .binOp op t x y ty=>(match ng (.binOp op t x y ty) with
   | true=>bP e x fun A=>L.bg t fun i=>(match i.desc with | .slice _=>Ru op A fun R=>k R H | _=>False)
   | false=>bP e x fun A=>bP e y fun B=>L.bg t fun i=>match dn A with
     | true=>Ll i op A B fun R=>k R H
     | false=>zL i.desc op (jd x || jd y) A B fun R=>k R H)
 | .typeAssert x _ s ok=>bP e x fun A=>L.bg s fun i=>(match i.desc with
   | .iface=>False
   | _=>IG i.zero s A ok fun R=>k R H)
 | .makeMap t r=>(match r with
   | none=>L.bg t fun i=>(match i.key with | some sh=>nS H (.iK sh []) fun j H'=>k (.mp j) H' | none=>False)
   | some _=>False)
 | .lookup t x ix ok=>bP e x fun A=>bP e ix fun K=>L.bg t fun i=>(match i.desc,i.key with
   | .map _ et,some sh=>FM (ay sh K) <| L.bg et fun ei=>(match A with
     | .mp j=>jB H j fun o=>(match o with
       | .iK sh' es=>FM (ay sh' sh) <| G6 es K fun r=>CW ok ei.zero r fun R=>k R H
       | _=>False)
     | _=>False)
   | _,_=>False)
 | .mapUpdate t x ix y=>bP e x fun A=>bP e ix fun K=>bP e y fun V=>yE L t A K V H ks
 | .unOp op _ x=>bP e x fun A=>(match op,A with
   | .not,A=>rY A fun R=>k R H
   | .neg,.int ka a=>arith ka (0 - a) fun R=>k R H
   | _,_=>False)
 | .convert s d x=>bP e x fun A=>L.bg s fun _=>L.bg d fun i=>(match i.desc,A with
   | .int kd,.int _ n=>k (.int kd (kd.wrap n)) H
   | .str,.str s=>k (.str s) H
   | _,_=>False)
 | .makeInterface t x=>bP e x fun A=>L.bg t fun i=>(match i.desc with
   | .iface=>False
   | _=>BQ A (k (.jh t A) H))
 | .makeFunc f first cap=>(match f,first.toList with
   | .func g,[]=>mQ e cap.toList fun As=>zW As (k (.fn g As) H)
   | _,_=>False)
 | .makeSlice t l c=>bP e l fun A=>bP e c fun B=>L.bg t fun i=>(match i.desc,A,B with
   | .slice el,.int _ n,.int _ m=>L.bg el fun ei=>(0 <= n /\ n <= m /\ m * (ei.bytes : Int) <= 281474976710656 /\ m <= 9223372036854775807) /\
     PY m.toNat n.toNat (flat ei.zero) ei.zero H k
   | _,_,_=>False)
 | .slice t x lo hi mx=>(match mx with
   | none=>bP e x fun A=>aslice L t e A lo hi fun R=>k R H
   | some _=>False)
 | .fieldAddr t x f=>bP e x fun A=>zJ L t A f fun R=>k R H
 | .indexAddr t x i=>bP e x fun A=>bP e i fun I=>lH L t A I fun R=>k R H
 | .index t x i=>bP e x fun A=>bP e i fun I=>zH L t A I fun R=>k R H
 | .extract x i=>bP e x fun A=>(match A with
   | .dA l=>oL l i fun R=>k R H
   | _=>False)
 | .call c=>(match c.callee with
   | .value f=>bP e f fun A=>(match A with
     | .fn g cap=>mQ e c.args.toList fun As=>Fb As cap fun Bs=>G7 F gu g Bs H k
     | _=>False)
   | .builtin b=>mQ e c.args.toList fun As=>fA L b c.argTypes.toList As H k
   | .invoke _ _=>False)
 | _=>False

def Y1 (op : Op) (e : Env) (H : Heap) (k : AV -> Heap -> Prop) (ks : Heap -> Prop) : Prop :=
 match op with
 | .call c=>(match c.callee with
   | .builtin b=>mQ e c.args.toList fun As=>zK L b c.argTypes.toList As H k
   | .value f=>bP e f fun A=>(match A with
     | .bm g j=>mQ e c.args.toList fun As=>G7 F gu g (.ptr j [] 0 :: As) H k
     | .fn g cap=>mQ e c.args.toList fun As=>Fb As cap fun Bs=>VD F gu g Bs H k
     | _=>gU F gu L (.call c) e H k ks)
   | _=>gU F gu L (.call c) e H k ks)
 | .makeFunc f first cap=>(match first.toList with
   | [x]=>(match f,cap.toList with
     | .func g,[]=>bP e x fun A=>(match A with
       | .ptr j [] 0=>k (.bm g j) H
       | _=>False)
     | _,_=>False)
   | _=>gU F gu L (.makeFunc f first cap) e H k ks)
 | .insert t x ix y=>bP e x fun A=>bP e ix fun K=>bP e y fun V=>yE L t A K V H ks
 | .field t x f=>bP e x fun A=>IK L t A f fun R=>k R H
 | .binOp .add t x y ty=>(match F.w with
   | false=>gU F gu L (.binOp .add t x y ty) e H k ks
   | true=>bP e x fun A=>bP e y fun B=>(match A,B with
     | .int .i64 m,.int .i64 n=>k (.int .i64 (IntKind.i64.wrap (m + n))) H
     | _,_=>False))
 | op=>gU F gu L op e H k ks

end

inductive AX where
 | normal
 | exit (id : Nat)
 | ret

def dW : List Oper -> List Nat
 | []=>[]
 | o :: l=>match o.dst with | some d=>d :: dW l | none=>dW l

def writes : Code -> List Nat
 | .region _ ops _=>dW ops.toList
 | .seq a b=>writes a ++ writes b
 | .cond _ a b=>writes a ++ writes b
 | .block _ b=>writes b
 | .loop b=>writes b
 | .scope b=>writes b
 | .rangeFunc _ _ a b=>writes a ++ writes b
 | _=>[]

def TA : List (AV × AV) -> List (AV × AV) -> Prop
 | [],[]=>True
 | (x,v) :: l,(y,u) :: m=>x = y /\ le0 v u /\ TA l m
 | _,_=>False

def LV : HO -> HO -> Prop
 | .box A,.box B=>le0 A B
 | .arr s c l,.arr s' c' l'=>s = s' /\ c = c' /\ gq l l'
 | .tok s n,.tok s' n'=>s = s' /\ n = n'
 | .iK s a,.iK s' b=>s = s' /\ TA a b
 | .dU s l,.dU s' l'=>s = s' /\ gq l l'
 | .glob g l,.glob g' l'=>g = g' /\ l = l'
 | _,.gone=>True
 | _,_=>False

def NK (n : Nat) : HO -> Bool
 | .box A=>dD n A
 | _=>true

def wJ (n : Nat) : List (AV × AV) -> Bool
 | []=>true
 | (x,y) :: l=>match dD n x,dD n y with | true,true=>wJ n l | _,_=>false

def Fe (e : Env) (n : Nat) : Env -> Prop
 | []=>True
 | (t,A) :: E=>vC e t (fun A'=>le A' A /\ dD n A = true) /\ Fe e n E

def Zg (H : Heap) (n : Nat) : Heap -> Prop
 | []=>True
 | (k,o) :: G=>jB H k (fun o'=>LV o' o /\ (match o with | .iK _ es=>wJ n es = true | o=>NK n o = true)) /\ Zg H n G

structure Oc (H : Heap) (G : Heap) : Prop where
 get : Zg H (nextId G) G
 ids : ak G

inductive HWk (H : Heap) (G : Heap) : Prop where
 | refl (h : H = G)
 | mk (get : Zg H (nextId G) G) (ids : ak G)

inductive Cv : Env -> Heap -> Env -> Heap -> Prop where
 | refl (e : Env) (H : Heap) : Cv e H e H
 | grow {e : Env} {H : Heap} {e' : Env} {H' : Heap} (t sz : Nat) (l : List AV) (A : AV) (h : dL e t = some A) (hA : (A = .aV /\ l = []) \/ A = .sl sz l .full)
   (h' : Cv ((t,.sl sz l (.own (nextId H))) :: e) ((nextId H,.tok sz l.length) :: H) e' H') : Cv e H e' H'
 | freeze {e : Env} {H : Heap} {e' : Env} {H' : Heap} (t j off len cap cp sz : Nat) (l : List AV) (h : dL e t = some (.ms j off len cap sz)) (ho : hget H j = some (.arr sz cp l)) (hl : off + len <= l.length)
   (h' : Cv ((t,.sl sz ((l.drop off).take len) .no) :: e) (hset H j .gone) e' H') : Cv e H e' H'
 | keep {e : Env} {H : Heap} {e' : Env} {H' : Heap} (t j len cp sz : Nat) (l : List AV) (h : dL e t = some (.ms j 0 len cp sz)) (ho : hget H j = some (.arr sz cp l)) (hl : len <= l.length)
   (h' : Cv ((t,.sl sz (l.take len) (.own (nextId H))) :: e) ((nextId H,.tok sz len) :: hset H j .gone) e' H') : Cv e H e' H'
 | Ub {e : Env} {H : Heap} {e' : Env} {H' : Heap} (j : Nat) (p : List Nat) (sz : Nat) (l : List AV) (A B A' : AV) (ho : hget H j = some (.box A)) (hp : sV A p (fun x=>x = B)) (hB : (B = .aV /\ l = []) \/ B = .sl sz l .full)
   (hs : xk A p (.sl sz l (.own (nextId H))) (fun x=>x = A')) (h' : Cv e (hset ((nextId H,.tok sz l.length) :: H) j (.box A')) e' H') : Cv e H e' H'
 | XU {e : Env} {H : Heap} {e' : Env} {H' : Heap} (t sz : Nat) (h : dL e t = some .aV)
   (h' : Cv ((t,.gs (nextId H) 0) :: e) ((nextId H,.dU sz []) :: H) e' H') : Cv e H e' H'
 | uO {e : Env} {H : Heap} {e' : Env} {H' : Heap} (t j sz : Nat) (l : List AV) (h : dL e t = some (.gs j l.length)) (ho : hget H j = some (.dU sz l)) (hl : l.length <= maxL)
   (h' : Cv ((t,.sl sz l .no) :: e) (hset H j .gone) e' H') : Cv e H e' H'

structure aA (gu : AV -> Prop) (ws : List Nat) (body : (AX -> Env -> Heap -> Prop) -> Env -> Heap -> Prop) (Q : AX -> Env -> Heap -> Prop) (e : Env) (H : Heap) : Prop where
 ex : ∃ (e₁ : Env) (H₁ : Heap) (ι : Type) (E : ι -> Env) (kept : Env) (HS : ι -> Heap) (μ : ι -> Nat) (i₀ : ι) (R : ι -> Env -> Heap -> Prop),
  (∀ i e' H',R i e' H' -> ∃ i' e₂ H₂,Cv e' H' e₂ H₂ /\ (Fe e₂ (nextId (HS i')) (E i') /\ HWk H₂ (HS i')) /\ μ i' < μ i) /\
  Cv e H e₁ H₁ /\
  (∀ t A,(t,A) ∈ kept -> dL e₁ t = some A /\ ws.contains t = false) /\
  (∀ i,nextId (HS i) = nextId H₁) /\
  (Fe e₁ (nextId H₁) (E i₀) /\ HWk H₁ (HS i₀)) /\
  ∀ i,(∀ t A,(t,A) ∈ E i -> gu A) ->
    body (fun x e' H'=>match x with
     | .normal=>R i e' H'
     | x=>Q x e' H') (E i ++ kept) (HS i)

def LoopN (gu : AV -> Prop) (ws : List Nat) (body : (AX -> Env -> Heap -> Prop) -> Env -> Heap -> Prop) (Q : AX -> Env -> Heap -> Prop) : Nat -> Env -> Heap -> Prop
 | 0,e,H=>aA gu ws body Q e H
 | n + 1,e,H=>body (fun x e' H'=>match x with | .normal=>LoopN gu ws body Q n e' H' | x=>Q x e' H') e H

structure GX (gu : AV -> Prop) (ws : List Nat) (body : (AX -> Env -> Heap -> Prop) -> Env -> Heap -> Prop) (Q : AX -> Env -> Heap -> Prop) (e : Env) (H : Heap) : Prop where
 ex : ∃ (e₁ : Env) (H₁ : Heap) (ι : Type) (E : ι -> Env) (kept : Env) (HS : ι -> Heap) (μ : ι -> Nat) (i₀ : ι) (R : ι -> Env -> Heap -> Prop),
  (∀ i e' H',R i e' H' -> ∃ i' e₂ H₂,Cv e' H' e₂ H₂ /\ (Fe e₂ (nextId (HS i')) (E i') /\ HWk H₂ (HS i')) /\ μ i' < μ i) /\
  Cv e H e₁ H₁ /\
  (∀ t A,(t,A) ∈ kept -> dL e₁ t = some A /\ ws.contains t = false) /\
  (∀ i,nextId (HS i) = nextId H₁) /\
  (Fe e₁ (nextId H₁) (E i₀) /\ HWk H₁ (HS i₀)) /\
  ∀ i,(∀ t A,(t,A) ∈ E i -> gu A) ->
    body (fun x e' H'=>match x with
     | .normal=>R i e' H' \/ ∃ n,LoopN gu ws body Q n e' H'
     | x=>Q x e' H') (E i ++ kept) (HS i)

inductive aN (gu : AV -> Prop) (ws : List Nat) (body : (AX -> Env -> Heap -> Prop) -> Env -> Heap -> Prop) (Q : AX -> Env -> Heap -> Prop) (e : Env) (H : Heap) : Prop where
 | ex (h : ∃ n,LoopN gu ws body Q n e H)
 /-- What has grown by appends is written from now on. -/
 | thaw (t j sz : Nat) (l : List AV) (h : dL e t = some (.gs j l.length)) (ho : hget H j = some (.dU sz l)) (ne : l ≠ [])
   (next : ∀ cp,l.length <= cp -> cp <= maxL -> ∃ n,LoopN gu ws body Q n ((t,.ms (nextId H) 0 l.length cp sz) :: e) ((nextId H,.arr sz cp l) :: hset H j .gone))
 | esc (h : GX gu ws body Q e H)

section
variable (F : FT) (gu : AV -> Prop) (L : Lay)

def qO (dst : Option Nat) (A : AV) (e : Env) (k : Env -> Prop) : Prop :=
 match dst with
 | some d=>k ((d,A) :: e)
 | none=>k e

def WG : List Oper -> Nat -> (Nat -> Prop) -> Prop
 | [],_,_=>False
 | o :: _,0,k=>match o.dst with | some d=>k d | none=>False
 | _ :: l,n + 1,k=>WG l n k

def sU (ops : List Oper) (g : Option (Nat × Bool)) (e : Env) (yes no : Env -> Prop) : Prop :=
 match g with
 | none=>yes e
 | some (j,b)=>WG ops j fun d=>vC e d fun A=>match A,b with
   | .tt,true=>yes e
   | .tt,false=>no e
   | .ff,true=>no e
   | .ff,false=>yes e
   | .bool x,true=>(x = true -> yes ((d,.tt) :: e)) /\ (x = false -> no ((d,.ff) :: e))
   | .bool x,false=>(x = true -> no ((d,.tt) :: e)) /\ (x = false -> yes ((d,.ff) :: e))
   | .dec p,true=>(p -> yes ((d,.tt) :: e)) /\ (¬ p -> no ((d,.ff) :: e))
   | .dec p,false=>(p -> no ((d,.tt) :: e)) /\ (¬ p -> yes ((d,.ff) :: e))
   | .dA [],_=>no e
   | _,_=>False

def NM (ops : List Oper) : List Oper -> Env -> Heap -> (Env -> Heap -> Prop) -> Prop
 | [],e,H,k=>k e H
 | o :: l,e,H,k=>sU ops o.guard e
     (fun e=>Y1 F gu L o.op e H (fun A H'=>qO o.dst A e fun e'=>NM ops l e' H' k) (fun H'=>match o.dst with | none=>NM ops l e H' k | some _=>False))
     (fun e=>qO o.dst (.dA []) e fun e'=>NM ops l e' H k)

end

def CJ : List Operand -> List Nat
 | []=>[]
 | .tmp t :: l=>t :: CJ l
 | _ :: l=>CJ l

def bG : Op -> List Operand
 | .move x | .assign x | .load _ x | .nilCheck x | .unOp _ _ x | .convert _ _ x | .makeInterface _ x | .box _ x | .extract x _ | .fieldAddr _ x _=>[x]
 | .pick a b d=>[a,b,d]
 | .store _ x y | .binOp _ _ x y _ | .makeSlice _ x y | .indexAddr _ x y | .index _ x y | .lookup _ x y _=>[x,y]
 | .typeAssert x _ _ _=>[x]
 | .mapUpdate _ x y z=>[x,y,z]
 | .build _ ps | .buildSlice _ _ ps=>ps.toList.map (·.2)
 | .makeFunc _ _ cap=>cap.toList
 | .slice _ x lo hi _=>x :: (lo.toList ++ hi.toList)
 | .call cl=>(match cl.callee with | .value f=>[f] | _=>[]) ++ cl.args.toList
 | _=>[]

def ql (acc : List Nat) : List Edge -> Nat -> Nat
 | [],s=>s
 | e :: l,s=>ql acc l (match Region.binds .any e with | true=>s ||| 2 ^ e.on ||| acc.getD e.on 0 | false=>s)

def tV : List Oper -> List Nat -> List Nat
 | [],acc=>acc
 | o :: l,acc=>tV l (acc ++ [ql acc o.after.toList 0])

def xH : Op -> Bool
 | .move _ | .assign _ | .pick .. | .build .. | .buildSlice .. | .nilCheck _ | .binOp .. | .unOp .. | .convert .. | .makeInterface .. | .makeFunc .. | .makeSlice .. | .slice .. | .fieldAddr .. | .indexAddr .. | .index .. | .extract .. | .typeAssert ..=>true
 | .call c=>(match c.callee with | .builtin .len=>true | .builtin .max=>true | .builtin .min=>true | .builtin .append=>true | .value _=>true | _=>false)
 | _=>false

def bD : Op -> Bool
 | .load _ _=>true
 | _=>false

def FQ (op : Op) : Bool:=xH op || bD op

def defB (op : Op) : Bool:=match op with
 | .call c=>(match c.callee with | .builtin .append=>false | _=>xH op)
 | op=>xH op

def wM : Op -> Bool
 | .alloc _=>true
 | .makeMap _ _=>true
 | .call c=>(match c.callee with | .builtin .append=>true | _=>false)
 | _=>false

def jJ : Op -> Bool
 | .alloc _=>true
 | .makeMap _ none=>true
 | _=>false

def Bc : Op -> Bool
 | .call c=>(match c.callee with | .builtin .append=>true | _=>false)
 | _=>false

def cu (ops : List Oper) (o : Oper) : List Nat :=
 o.dst.toList ++ CJ (bG o.op) ++ (match o.guard with | some (g,_)=>(match ops[g]? with | some og=>og.dst.toList | none=>[]) | none=>[])

def lG (ops : List Oper) (x y : Oper × Bool) : Bool :=
 (!x.2 && !y.2 && !jJ y.1.op && !(bD x.1.op && (bD y.1.op || wM y.1.op)) && !(Bc x.1.op && bD y.1.op && ops.all fun o=>!jJ o.op)) ||
 (match x.1.dst with | some d=>(cu ops y.1).contains d | none=>false) ||
 (match y.1.dst with | some d=>(cu ops x.1).contains d | none=>false)

def TG (ops : List Oper) (zm : List (Oper × Bool)) : Bool :=
 zm.zipIdx.all fun y=>!(jJ y.1.1.op && !y.1.2) || ((match y.1.1.guard with | none=>true | some _=>false) && (match y.1.1.dst with
  | none=>false
  | some d=>zm.zipIdx.all fun x=>!Nat.blt x.2 y.2 || x.1.2 || bD x.1.1.op || ((tV ops []).getD y.2 0).testBit x.2 ||
    zm.zipIdx.all fun z=>!Nat.blt y.2 z.2 || !(cu ops z.1.1).contains d || ((tV ops []).getD z.2 0).testBit x.2))

def Gn (ops : List Oper) (mask : List Bool) : Bool :=
 Nat.beq mask.length ops.length && ((ops.zip mask).all fun x=>!x.2 || FQ x.1.op) &&
 (ops.zipIdx.all fun y=>y.1.after.toList.all fun e=>!Region.binds .any e || Nat.blt e.on y.2) && TG ops (ops.zip mask) &&
 (let b:=tV ops []
 (ops.zip mask).zipIdx.all fun y=>(ops.zip mask).zipIdx.all fun x=>!Nat.blt x.2 y.2 || !lG ops x.1 y.1 || (b.getD y.2 0).testBit x.2)

def Ye : Op -> Bool
 | .call c=>(match c.callee with | .value _=>true | _=>false)
 | _=>false

def pJ : List Nat -> Nat -> Bool
 | [],_=>false
 | x :: l,n=>match Nat.beq x n with | true=>true | false=>pJ l n

def qZ (fl : List Nat) (op : Op) : Bool:=Ye op || (match pJ fl 999,op with | false,.store _ _ _=>true | _,_=>false)

def Kq (ops : List Oper) (fl : List Nat) (x y : (Oper × Bool) × Nat) : Bool :=
 pJ fl x.2 && bD x.1.1.op && !x.1.2 && qZ fl y.1.1.op && !y.1.2 && (match x.1.1.dst with | some d=>!(cu ops y.1.1).contains d | none=>true) && (match y.1.1.dst with | some d=>!(cu ops x.1.1).contains d | none=>true)

def Nk (ops : List Oper) (mask : List Bool) (fl : List Nat) : Bool :=
 Nat.beq mask.length ops.length && ((ops.zip mask).all fun x=>!x.2 || FQ x.1.op) &&
 (ops.zipIdx.all fun y=>y.1.after.toList.all fun e=>!Region.binds .any e || Nat.blt e.on y.2) && TG ops (ops.zip mask) &&
 (let b:=tV ops []
 (ops.zip mask).zipIdx.all fun y=>(ops.zip mask).zipIdx.all fun x=>!Nat.blt x.2 y.2 || !lG ops x.1 y.1 || (b.getD y.2 0).testBit x.2 || Kq ops fl x y)

def Wy (ops : List Oper) (gl : List Nat) (x y : (Oper × Bool) × Nat) : Bool :=
 pJ gl y.2 && bD y.1.1.op && !y.1.2 && !x.1.2 && !bD x.1.1.op && (ops.all fun o=>!jJ o.op) && (match x.1.1.dst with | some d=>!(cu ops y.1.1).contains d | none=>true) && (match y.1.1.dst with | some d=>!(cu ops x.1.1).contains d | none=>true)

def Nl (ops : List Oper) (mask : List Bool) (fl gl : List Nat) : Bool :=
 Nat.beq mask.length ops.length && ((ops.zip mask).all fun x=>!x.2 || FQ x.1.op) &&
 (ops.zipIdx.all fun y=>y.1.after.toList.all fun e=>!Region.binds .any e || Nat.blt e.on y.2) && TG ops (ops.zip mask) &&
 (let b:=tV ops []
 (ops.zip mask).zipIdx.all fun y=>(ops.zip mask).zipIdx.all fun x=>!Nat.blt x.2 y.2 || !lG ops x.1 y.1 || (b.getD y.2 0).testBit x.2 || Kq ops fl x y || Wy ops gl x y)

def Yq (ops : List Oper) (ls : List Nat) (i : Nat) : Bool :=
 !ls.any (Nat.beq i) && (match ops[i]? with | some o=>o.after.toList.all fun e=>!Region.binds .any e || ls.any (Nat.beq e.on) | none=>false)

def U5 (ops : List Oper) : Bool:=ops.zipIdx.all fun y=>y.1.after.toList.all fun e=>!Region.binds .any e || Nat.blt e.on y.2

def NR : List Nat -> (Nat -> Prop) -> Prop
 | [],_=>True
 | i :: l,f=>f i /\ NR l f

inductive dV (F : FT) (f : Nat) (args : List AV) (k : AV -> Prop) : Prop where
 | pure (Bs : List AV) (R : AV) (hle : ER args Bs) (hb : fH 0 Bs = true /\ dD 0 R = true) (h : F f Bs [] R []) (h' : k R)

section
variable (F : FT) (gu : AV -> Prop) (L : Lay)

def wL (op : Op) (e : Env) (k : AV -> Prop) : Prop :=
 match op with
 | .call c=>(match c.callee with
   | .value f=>bP e f fun A=>(match A with
     | .fn g cap=>mQ e c.args.toList fun As=>Fb As cap fun Bs=>dV F g Bs k
     | _=>False)
   | .builtin .append=>mQ e c.args.toList fun As=>fA L .append c.argTypes.toList As [] fun A H'=>H' = [] /\ k A
   | .builtin b=>mQ e c.args.toList fun As=>fA L b c.argTypes.toList As [] fun A _=>k A
   | _=>False)
 | .makeSlice t l c=>bP e l fun A=>bP e c fun B=>L.bg t fun i=>(match i.desc,A,B with
   | .slice el,.int _ n,.int _ m=>L.bg el fun ei=>(0 <= n /\ n <= m /\ m * (ei.bytes : Int) <= 281474976710656 /\ m <= 9223372036854775807) /\
     (n.toNat = m.toNat /\ k (.sl (flat ei.zero) (List.replicate n.toNat ei.zero) .full))
   | _,_,_=>False)
 | op=>noNil op <| gU F (fun _=>True) L op e [] (fun A _=>k A) (fun _=>False)

def pU (ops : List Oper) : List (Oper × Bool) -> Env -> Heap -> (Env -> Heap -> Prop) -> Prop
 | [],e,H,k=>k e H
 | (o,nb) :: l,e,H,k=>sU ops o.guard e
   (fun e=>match nb with
    | true=>wL F L o.op e fun A=>qO o.dst A e fun e'=>pU ops l e' H k
    | false=>noNil o.op <| gU F (fun _=>True) L o.op e H (fun A H'=>qO o.dst A e fun e'=>pU ops l e' H' k) (fun H'=>match o.dst with | none=>pU ops l e H' k | some _=>False))
   (fun e=>qO o.dst (.dA []) e fun e'=>pU ops l e' H k)

def KF (H : Heap) : List (Nat × AV × AV) -> Prop -> Prop
 | [],k=>k
 | (t,A,R) :: pl,k=>(jf L t A H fun R'=>R' = R) /\ KF H pl k

def U9 (fl : List Nat) (i : Nat) (op : Op) (e : Env) (A : AV) (pl : List (Nat × AV × AV)) (k : List (Nat × AV × AV) -> Prop) : Prop :=
 match pJ fl i,op with
 | true,.load t x=>bP e x fun B=>k ((t,B,A) :: pl)
 | _,_=>k pl

def pq (ops : List Oper) (fl : List Nat) : Nat -> List (Oper × Bool) -> List (Nat × AV × AV) -> Env -> Heap -> (Env -> Heap -> Prop) -> Prop
 | _,[],_,e,H,k=>k e H
 | i,(o,nb) :: l,pl,e,H,k=>sU ops o.guard e
   (fun e=>match nb with
    | true=>wL F L o.op e fun A=>qO o.dst A e fun e'=>pq ops fl (i + 1) l pl e' H k
    | false=>noNil o.op <| gU F (fun _=>True) L o.op e H
      (fun A H'=>KF L H' (match qZ fl o.op with | true=>pl | false=>[]) <| U9 fl i o.op e A pl fun AQ=>qO o.dst A e fun e'=>pq ops fl (i + 1) l AQ e' H' k)
      (fun H'=>match o.dst with | none=>KF L H' (match qZ fl o.op with | true=>pl | false=>[]) <| pq ops fl (i + 1) l pl e H' k | some _=>False))
   (fun e=>qO o.dst (.dA []) e fun e'=>pq ops fl (i + 1) l pl e' H k)

def Ut (t : Nat) (A R : AV) : List Heap -> Prop -> Prop
 | [],k=>k
 | G :: hs,k=>(jf L t A G fun R'=>R' = R) /\ Ut t A R hs k

def addG (gl : List Nat) (i : Nat) (op : Op) (e : Env) (A : AV) (hs : List Heap) (k : Prop) : Prop :=
 match pJ gl i,op with
 | true,.load t x=>bP e x fun B=>Ut L t B A hs k
 | _,_=>k

def ny (ops : List Oper) (fl gl : List Nat) : Nat -> List (Oper × Bool) -> List (Nat × AV × AV) -> List Heap -> Env -> Heap -> (Env -> Heap -> Prop) -> Prop
 | _,[],_,_,e,H,k=>k e H
 | i,(o,nb) :: l,pl,hs,e,H,k=>sU ops o.guard e
   (fun e=>match nb with
    | true=>wL F L o.op e fun A=>qO o.dst A e fun e'=>ny ops fl gl (i + 1) l pl hs e' H k
    | false=>noNil o.op <| gU F (fun _=>True) L o.op e H
      (fun A H'=>KF L H' (match qZ fl o.op with | true=>pl | false=>[]) <| addG L gl i o.op e A hs <| U9 fl i o.op e A pl fun AQ=>qO o.dst A e fun e'=>ny ops fl gl (i + 1) l AQ (match bD o.op with | true=>hs | false=>H :: hs) e' H' k)
      (fun H'=>match o.dst with | none=>KF L H' (match qZ fl o.op with | true=>pl | false=>[]) <| ny ops fl gl (i + 1) l pl (H :: hs) e H' k | some _=>False))
   (fun e=>qO o.dst (.dA []) e fun e'=>ny ops fl gl (i + 1) l pl hs e' H k)

def Em (ops : List Oper) : Nat -> List Nat -> Env -> Heap -> (Env -> Heap -> Prop) -> Prop
 | 0,_,e,H,k=>k e H
 | n + 1,ls,e,H,k=>NR ((List.range ops.length).filter (Yq ops ls)) fun i=>(match ops[i]? with
   | some o=>sU ops o.guard e
     (fun e=>gU F (fun _=>True) L o.op e H (fun A H'=>qO o.dst A e fun e'=>Em ops n (i :: ls) e' H' k) (fun H'=>match o.dst with | none=>Em ops n (i :: ls) e H' k | some _=>False))
     (fun e=>qO o.dst (.dA []) e fun e'=>Em ops n (i :: ls) e' H k)
   | none=>False)

mutual
def Qy (j : Nat) : AV -> Bool
 | .ptr k _ _=>Nat.beq k j
 | .fn _ cap=>OX j cap
 | .ag l=>OX j l
 | .dA l=>OX j l
 | .jh _ x=>Qy j x
 | _=>false
def OX (j : Nat) : List AV -> Bool
 | []=>false
 | x :: l=>match Qy j x with | true=>true | false=>OX j l
end

mutual
def mP (j : Nat) (B : AV) : AV -> AV
 | .ptr k p off=>match Nat.beq k j,p,off with | true,[],0=>.cp B | _,p,off=>.ptr k p off
 | .fn f cap=>.fn f (vw j B cap)
 | .ag l=>.ag (vw j B l)
 | .dA l=>.dA (vw j B l)
 | .jh t x=>.jh t (mP j B x)
 | A=>A
def vw (j : Nat) (B : AV) : List AV -> List AV
 | []=>[]
 | x :: l=>mP j B x :: vw j B l
end

mutual
def Dk (j : Nat) (B : AV) : AV -> (AV -> Prop) -> Prop
 | .ptr k p off,c=>(match Nat.beq k j,p,off with | true,[],0=>c (.cp B) | _,p,off=>c (.ptr k p off))
 | .fn f cap,c=>Gh j B cap fun l=>c (.fn f l)
 | .ag l,c=>Gh j B l fun l=>c (.ag l)
 | .dA l,c=>Gh j B l fun l=>c (.dA l)
 | .jh t x,c=>Dk j B x fun y=>c (.jh t y)
 | A,c=>c A
def Gh (j : Nat) (B : AV) : List AV -> (List AV -> Prop) -> Prop
 | [],c=>c []
 | x :: l,c=>Dk j B x fun y=>Gh j B l fun m=>c (y :: m)
end

def QA (j : Nat) (B : AV) : Env -> (Env -> Prop) -> Prop
 | [],k=>k []
 | (t,A) :: e,k=>match Qy j A with
   | false=>QA j B e fun m=>k ((t,A) :: m)
   | true=>Dk j B A fun A'=>QA j B e fun m=>k ((t,A') :: m)

def Nb (j : Nat) (B : AV) : Heap -> (Heap -> Prop) -> Prop
 | [],k=>k []
 | (i,o) :: H,k=>match Nat.beq i j with
   | true=>Nb j B H fun G=>k ((i,.gone) :: G)
   | false=>match o with
     | .box A=>(match Qy j A with
       | false=>Nb j B H fun G=>k ((i,.box A) :: G)
       | true=>Dk j B A fun A'=>Nb j B H fun G=>k ((i,.box A') :: G))
     | o=>Nb j B H fun G=>k ((i,o) :: G)

def Qz : List Nat -> Env -> Heap -> (Env -> Heap -> Prop) -> Prop
 | [],e,H,k=>k e H
 | j :: js,e,H,k=>jB H j fun o=>match o with
   | .box A=>(mW A = true /\ strip A = A) /\ QA j A e fun e'=>Nb j A H fun H'=>Qz js e' H' k
   | _=>False

inductive aY (ops : List Oper) (e : Env) (H : Heap) (k : Env -> Heap -> Prop) : Prop where
 | mk (ex : ∃ mask : List Bool,Gn ops mask = true /\ pU F L ops (ops.zip mask) e H k)
 | all (hb : U5 ops = true) (h : Em F L ops ops.length [] e H k)
 | late (fl : List Nat) (ex : ∃ mask : List Bool,Nk ops mask fl = true /\ pq F L ops fl 0 (ops.zip mask) [] e H k)
 | both (fl gl : List Nat) (ex : ∃ mask : List Bool,Nl ops mask fl gl = true /\ ny F L ops fl gl 0 (ops.zip mask) [] [] e H k)
 | frz (js : List Nat) (h : Qz js e H fun e' H'=>∃ mask : List Bool,Gn ops mask = true /\ pU F L ops (ops.zip mask) e' H' k)
end

section
variable (F : FT) (gu : AV -> Prop) (L : Lay)

def aj : Code -> (AX -> Env -> Heap -> Prop) -> Env -> Heap -> Prop
 | .skip,Q,e,H=>Q .normal e H
 | .region _ ops d,Q,e,H=>(match d with
   | false=>NM F gu L ops.toList ops.toList e H fun e' H'=>Q .normal e' H'
   | true=>aY F L ops.toList e H fun e' H'=>Q .normal e' H')
 | .seq a b,Q,e,H=>aj a (fun x e' H'=>match x with | .normal=>aj b Q e' H' | x=>Q x e' H') e H
 | .cond c a b,Q,e,H=>bP e c fun A=>br A (aj a Q e H) (aj b Q e H)
 | .block i b,Q,e,H=>aj b (fun x e' H'=>match x with
   | .exit j=>(match Nat.beq j i with | true=>Q .normal e' H' | false=>Q (.exit j) e' H')
   | x=>Q x e' H') e H
 | .loop b,Q,e,H=>aN gu (writes b) (aj b) Q e H
 | .exit i,Q,e,H=>Q (.exit i) e H
 | .ret,Q,e,H=>Q .ret e H
 | .label _,Q,e,H=>Q .normal e H
 | _,_,_,_=>False

end
end Go.AL

namespace Go.AL

mutual
def Ok : AV -> Prop
 | .int k n=>rZ k n
 | .str s=>s.length <= maxL
 | .sl _ l _=>l.length <= maxL /\ yL l
 | .ag l=>yL l
 | .dA l=>yL l
 | .cp x=>Ok x
 | .jh _ x=>Ok x
 | _=>True
def yL : List AV -> Prop
 | []=>True
 | x :: l=>Ok x /\ yL l
end

mutual
theorem vM {w : World} {Im : Nat -> Nat -> Prop} : ∀ (A : AV) (cs : List Value),Rd w Im A cs -> Ok A
 | .bool _,_,_=>by simp only [Ok]
 | .tt,_,_=>by simp only [Ok]
 | .ff,_,_=>by simp only [Ok]
 | .dec _,_,_=>by simp only [Ok]
 | .int _ _,_,hr=>by simp only [Rd] at hr; simp only [Ok]; exact hr.2
 | .str _,_,hr=>by simp only [Rd] at hr; simp only [Ok]; exact hr.2
 | .bH,_,_=>by simp only [Ok]
 | .jh t x,cs,hr=>by simp only [Rd] at hr; obtain ⟨v,rfl,h2,h3⟩:=hr; simp only [Ok]; exact vM x _ h3
 | .aV,_,_=>by simp only [Ok]
 | .sl sz l .no,cs,hr=>by
   simp only [Rd] at hr
   simp only [Ok]
   obtain ⟨h0,⟨rfl,rfl⟩ | ⟨a,cap,rfl,_,_,_,h⟩⟩:=hr
   ·exact ⟨h0,by simp only [yL]⟩
   ·exact ⟨h0,Vq l _ h⟩
 | .sl sz l .full,cs,hr=>by simp only [Rd] at hr
 | .sl sz l (.own _),cs,hr=>by simp only [Rd] at hr
 | .ms _ _ _ _ _,_,_=>by simp only [Ok]
 | .ag l,cs,hr=>by simp only [Rd] at hr; simp only [Ok]; exact Vp l cs hr
 | .dA _,_,hr=>by simp only [Rd] at hr
 | .ptr _ _ _,_,_=>by simp only [Ok]
 | .cp x,cs,hr=>by simp only [Rd] at hr; obtain ⟨a,ds,rfl,_,_,h⟩:=hr; simp only [Ok]; exact vM x _ h
 | .fJ,_,_=>by simp only [Ok]
 | .fn _ _,_,_=>by simp only [Ok]
 | .aZ,_,_=>by simp only [Ok]
 | .mp _,_,_=>by simp only [Ok]
 | .gs _ _,_,_=>by simp only [Ok]
 | .bm _ _,_,_=>by simp only [Ok]
 | .jQ,_,_=>by simp only [Ok]
 | .und,_,_=>by simp only [Ok]
theorem Vp {w : World} {Im : Nat -> Nat -> Prop} : ∀ (l : List AV) (cs : List Value),kX w Im l cs -> yL l
 | [],_,_=>by simp only [yL]
 | x :: l,cs,hr=>by
   simp only [kX] at hr
   obtain ⟨c,d,rfl,h2,h3⟩:=hr
   simp only [yL]
   exact ⟨vM x _ h2,Vp l _ h3⟩
theorem Vq {w : World} {Im : Nat -> Nat -> Prop} {sz b : Nat} : ∀ (l : List AV) (off : Nat),qG w Im sz b l off -> yL l
 | [],_,_=>by simp only [yL]
 | x :: l,off,hr=>by
   simp only [qG] at hr
   obtain ⟨⟨cs,h1,h2,h3⟩,h4⟩:=hr
   simp only [yL]
   exact ⟨vM x _ h3,Vq l _ h4⟩
end

mutual
theorem Pv {c : Cx} : ∀ (A : AV) (cs : List Value),VR c A cs -> Ok A
 | .bool _,_,_=>by simp only [Ok]
 | .tt,_,_=>by simp only [Ok]
 | .ff,_,_=>by simp only [Ok]
 | .dec _,_,_=>by simp only [Ok]
 | .int _ _,_,hr=>by simp only [VR] at hr; exact vM _ _ hr
 | .str _,_,hr=>by simp only [VR] at hr; exact vM _ _ hr
 | .bH,_,_=>by simp only [Ok]
 | .jh t x,cs,hr=>by simp only [VR] at hr; obtain ⟨v,rfl,h2,h3⟩:=hr; simp only [Ok]; exact Pv x _ h3
 | .aV,_,_=>by simp only [Ok]
 | .sl sz l .no,cs,hr=>by simp only [VR] at hr; exact vM _ _ hr
 | .sl sz l .full,cs,hr=>by simp only [VR] at hr; exact vM (.sl sz l .no) _ hr.1
 | .sl sz l (.own _),cs,hr=>by simp only [VR] at hr; exact vM (.sl sz l .no) _ hr.2.1
 | .ms _ _ _ _ _,_,_=>by simp only [Ok]
 | .ag l,cs,hr=>by simp only [VR] at hr; simp only [Ok]; exact Vh l cs hr
 | .dA _,_,hr=>by simp only [VR,Rd] at hr
 | .ptr _ _ _,_,_=>by simp only [Ok]
 | .cp x,cs,hr=>by simp only [VR] at hr; exact vM _ _ hr
 | .fJ,_,_=>by simp only [Ok]
 | .fn _ _,_,_=>by simp only [Ok]
 | .aZ,_,_=>by simp only [Ok]
 | .mp _,_,_=>by simp only [Ok]
 | .gs _ _,_,_=>by simp only [Ok]
 | .bm _ _,_,_=>by simp only [Ok]
 | .jQ,_,_=>by simp only [Ok]
 | .und,_,_=>by simp only [Ok]
theorem Vh {c : Cx} : ∀ (l : List AV) (cs : List Value),lg c l cs -> yL l
 | [],_,_=>by simp only [yL]
 | x :: l,cs,hr=>by
   simp only [lg] at hr
   obtain ⟨a,d,rfl,h2,h3⟩:=hr
   simp only [yL]
   exact ⟨Pv x _ h2,Vh l _ h3⟩
end

theorem X4 {c : Cx} : ∀ (l : List AV) (vs : List Value),VA c l vs -> yL l
 | [],_,_=>by simp only [yL]
 | x :: l,vs,hr=>by
   simp only [VA] at hr
   obtain ⟨v,r,rfl,h2,h3,h4⟩:=hr
   simp only [yL]
   exact ⟨Pv x _ h3,X4 l _ h4⟩

theorem vO {c : Cx} {A : AV} {v : Value} (h : EV c A v) : Ok A:=by
 cases A <;> first
  | exact Pv _ _ h.2
  | (simp only [Ok]; done)
  | (obtain ⟨vs,rfl,h2⟩:=h; simp only [Ok]; exact X4 _ _ h2)

theorem cells_one {v x : Value} (hs : v.cells = #[v]) (h : v.cells.toList = [x]) : v = x:=by
 rw [hs] at h; injection h

section
variable {c : Cx} {v : Value}

theorem fO {b : Bool} (h : VV c (.bool b) v) : v = .bool b:=by
 have:=h.2; simp only [VR,Rd] at this; exact cells_one (h.1.2 rfl) this
theorem tY (h : VV c .tt v) : v = .bool true:=by
 have:=h.2; simp only [VR,Rd] at this; exact cells_one (h.1.2 rfl) this
theorem tZ (h : VV c .ff v) : v = .bool false:=by
 have:=h.2; simp only [VR,Rd] at this; exact cells_one (h.1.2 rfl) this
theorem ku {p : Prop} (h : VV c (.dec p) v) : ∃ b,v = .bool b /\ (b = true ↔ p):=by
 have:=h.2; simp only [VR,Rd] at this
 obtain ⟨b,h1,h2⟩:=this
 exact ⟨b,cells_one (h.1.2 rfl) h1,h2⟩
theorem Y4 {k : IntKind} {n : Int} (h : VV c (.int k n) v) : v = .int k n /\ rZ k n:=by
 have:=h.2; simp only [VR,Rd] at this; exact ⟨cells_one (h.1.2 rfl) this.1,this.2⟩
theorem NS {s : List UInt8} (h : VV c (.str s) v) : v = .string ⟨s.toArray⟩ /\ s.length <= maxL:=by
 have:=h.2; simp only [VR,Rd] at this; exact ⟨cells_one (h.1.2 rfl) this.1,this.2⟩
theorem yH (h : VV c .bH v) : v = .nilIface:=by
 have:=h.2; simp only [VR,Rd] at this; exact cells_one (h.1.2 rfl) this
theorem nC (h : VV c .aV v) : v = .slice none 0 0:=by
 have:=h.2; simp only [VR,Rd] at this; exact cells_one (h.1.2 rfl) this
theorem BI (h : VV c .fJ v) : v = .pointer none:=by
 have:=h.2; simp only [VR,Rd] at this; exact cells_one (h.1.2 rfl) this
theorem Xw (h : VV c .jQ v) : v = .map none:=by
 have:=h.2; simp only [VR,Rd] at this; exact cells_one (h.1.2 rfl) this
theorem NT {t : Nat} {x : AV} (h : VV c (.jh t x) v) : ∃ u,v = .iface t u /\ VV c x u:=by
 have:=h.2; simp only [VR] at this
 obtain ⟨u,h1,h2,h3⟩:=this
 exact ⟨u,cells_one (h.1.2 rfl) h1,h2,h3⟩
theorem wP {k off : Nat} {p : List Nat} (h : VV c (.ptr k p off) v) : k < c.nx /\ v = .pointer (some ⟨c.ρ k,off,none⟩):=by
 have:=h.2; simp only [VR] at this; exact ⟨this.1,cells_one (h.1.2 rfl) this.2⟩
theorem vK {k off len cap sz : Nat} (h : VV c (.ms k off len cap sz) v) : k < c.nx /\ v = .slice (some ⟨c.ρ k,off * sz,none⟩) len cap /\ len <= cap /\ cap <= maxL:=by
 have:=h.2; simp only [VR] at this; exact ⟨this.1,cells_one (h.1.2 rfl) this.2.1,this.2.2⟩
theorem X3 {k : Nat} (h : VV c (.mp k) v) : k < c.nx /\ v = .map (some (c.ρ k)):=by
 have:=h.2; simp only [VR] at this; exact ⟨this.1,cells_one (h.1.2 rfl) this.2⟩
theorem VV_bm {f k : Nat} (h : VV c (.bm f k) v) : k < c.nx /\ v = .func (.func f) #[.pointer (some ⟨c.ρ k,0,none⟩)] #[]:=by
 have:=h.2; simp only [VR] at this; exact ⟨this.1,cells_one (h.1.2 rfl) this.2⟩
theorem VV_gs {k len : Nat} (h : VV c (.gs k len) v) : k < c.nx /\ (∃ a n m,v = .slice a n m) /\ ∀ n,c.tp k = some n -> len <= n /\ (len = n -> v = .slice (c.tk k).1 n (c.tk k).2):=by
 have:=h.2; simp only [VR] at this
 obtain ⟨h1,⟨a,n,m,h2⟩,h3⟩:=this
 exact ⟨h1,⟨a,n,m,cells_one (h.1.2 rfl) h2⟩,fun n hn=>⟨(h3 n hn).1,fun e=>cells_one (h.1.2 rfl) ((h3 n hn).2 e)⟩⟩
theorem Pq {x : AV} (h : VV c (.cp x) v) : ∃ a ds,v = .pointer (some a) /\ a.spot = none /\ jo c.w c.Im a.block a.off ds /\ Rd c.w c.Im x ds:=by
 have:=h.2; simp only [VR,Rd] at this
 obtain ⟨a,ds,h1,h2⟩:=this
 exact ⟨a,ds,cells_one (h.1.2 rfl) h1,h2⟩
theorem Vf {f : Nat} {cap : List AV} (h : VV c (.fn f cap) v) : ∃ vs : List Value,v = .func (.func f) #[] vs.toArray /\ VA c cap vs:=by
 have:=h.2; simp only [VR] at this
 obtain ⟨vs,h1,h2⟩:=this
 exact ⟨vs,cells_one (h.1.2 rfl) h1,h2⟩
theorem Ep {sz : Nat} {l : List AV} {tok : Tk} (h : VV c (.sl sz l tok) v) : l.length <= maxL /\ ((l = [] /\ v = .slice none 0 0) \/
  ∃ a cap,v = .slice (some a) l.length cap /\ l.length <= cap /\ cap <= maxL /\ (l ≠ [] -> a.spot = none) /\ qG c.w c.Im sz a.block l a.off):=by
 have hv:=h.1.2 rfl
 have key : Rd c.w c.Im (.sl sz l .no) v.cells.toList:=by
  have:=h.2
  cases tok with
  | no=>simpa only [VR] using this
  | full=>simp only [VR] at this; exact this.1
  | own k=>simp only [VR] at this; exact this.2.1
 simp only [Rd] at key
 refine ⟨key.1,?_⟩
 rcases key.2 with (⟨h1,h2⟩ | ⟨a,cap,h1,h2⟩)
 ·exact .inl ⟨h1,cells_one hv h2⟩
 ·exact .inr ⟨a,cap,cells_one hv h1,h2⟩
end

theorem dJ {c : Cx} {A : AV} {v : Value} (hA : dn A = false) (hv : v.cells = #[v]) (h : VR c A [v]) : VV c A v :=
 ⟨⟨(fun h=>by rw [hA] at h; cases h),fun _=>hv⟩,by rw [hv]; exact h⟩

theorem aS {c : Cx} {A : AV} {v : Value} (h : VV c A v) : EV c A v:=by
 cases A <;> first
  | exact h
  | trivial
  | (have:=h.2; simp only [VR,Rd] at this)

def bf : Operand -> Bool
 | .const (.int k n)=>decide (k.min <= n) && decide (n <= k.max)
 | .const (.string s)=>decide (s.data.size <= 1000000)
 | _=>true

def fC (c : Cx) (e : Env) (a : Act) : Prop:=∀ t A,dL e t = some A -> EV c A (a.tmps.getD t undef)

theorem Ir {c : Cx} {v : Value} {k : AV -> Prop} (hv : bf (.const v) = true) (h : DK v k) : ∃ A,VV c A v /\ k A:=by
 unfold DK at h
 split at h
 ·exact ⟨_,dJ rfl rfl (by simp only [VR,Rd]),h⟩
 ·exact ⟨_,dJ rfl rfl (by simp only [VR,Rd]),h⟩
 ·refine ⟨_,dJ rfl rfl ?_,h⟩
  simp only [VR,Rd]
  simp only [bf,Bool.and_eq_true,decide_eq_true_eq] at hv
  exact ⟨trivial,hv⟩
 ·refine ⟨_,dJ rfl rfl ?_,h⟩
  simp only [VR,Rd]
  simp only [bf,decide_eq_true_eq] at hv
  refine ⟨by simp,?_⟩
  rw [Array.length_toList]; unfold maxL; omega
 ·exact ⟨_,dJ rfl rfl (by simp only [VR,Rd]),h⟩
 ·exact ⟨_,dJ rfl rfl (by simp only [VR,Rd]),h⟩
 ·exact ⟨_,dJ rfl rfl (by simp only [VR,Rd]),h⟩
 ·exact ⟨_,dJ rfl rfl (by simp only [VR,Rd]),h⟩
 ·exact ⟨_,dJ rfl rfl (by simp only [VR,Rd]),h⟩
 ·exact h.elim

theorem aH {c : Cx} {e : Env} {a : Act} {x : Operand} {k : AV -> Prop} (he : fC c e a) (hx : bf x = true) (h : bP e x k) : ∃ A,EV c A (a.eval x) /\ k A:=by
 unfold bP at h
 split at h
 ·obtain ⟨A,h1,h2⟩:=gB.1 h
  exact ⟨A,he _ _ h1,h2⟩
 ·obtain ⟨A,h1,h2⟩:=Ir (c:=c) hx h
  exact ⟨A,aS h1,h2⟩
 ·refine ⟨_,aS (dJ (v:=.func (.func _) #[] #[]) rfl rfl ?_),h⟩
  simp only [VR,VA]
  exact ⟨[],rfl,rfl⟩
 ·exact h.elim

def uV (c : Cx) : List AV -> List Value -> Prop
 | [],vs=>vs = []
 | x :: l,vs=>∃ v r,vs = v :: r /\ EV c x v /\ uV c l r

theorem jZ {c : Cx} {e : Env} {a : Act} (he : fC c e a) : ∀ {l : List Operand} {k : List AV -> Prop},l.all bf = true -> mQ e l k ->
  ∃ As,uV c As (l.map a.eval) /\ k As
 | [],k,_,h=>⟨[],rfl,h⟩
 | x :: l,k,hl,h=>by
   simp only [List.all_cons,Bool.and_eq_true] at hl
   obtain ⟨A,h1,h2⟩:=aH he hl.1 h
   obtain ⟨As,h3,h4⟩:=jZ he hl.2 h2
   exact ⟨A :: As,⟨_,_,rfl,h1,h3⟩,h4⟩

end Go.AL

namespace Go.AL

theorem lN (k : IntKind) (n : Int) : rZ k (k.wrap n):=by
 unfold rZ IntKind.wrap IntKind.min IntKind.max
 have h0:=Int.emod_nonneg n (b:=(2 ^ k.bits : Int)) (by cases k <;> simp [IntKind.bits])
 have h1:=Int.emod_lt_of_pos n (b:=(2 ^ k.bits : Int)) (by cases k <;> simp [IntKind.bits])
 cases k <;> simp [IntKind.bits,IntKind.signed] at * <;> first | omega | (split <;> omega)

theorem Je {k : IntKind} {n : Int} (h : rZ k n) : k.wrap n = n:=by
 unfold rZ IntKind.min IntKind.max at h
 unfold IntKind.wrap
 cases k <;> simp [IntKind.bits,IntKind.signed] at * <;> first | omega | (split <;> omega)

theorem IY {k : IntKind} {a : Int} (h : rZ k a) (n : Nat) : rZ k (a.fdiv (2 ^ n)):=by
 have hp : (0 : Int) < 2 ^ n:=Int.pow_pos (by omega)
 have h1 : a.fdiv (2 ^ n) = a / (2 ^ n):=Int.fdiv_eq_ediv_of_nonneg a (Int.le_of_lt hp)
 rw [h1]
 unfold rZ at *
 have hmin : k.min <= 0:=by cases k <;> simp [IntKind.min,IntKind.signed,IntKind.bits]
 have hmax : 0 <= k.max:=by cases k <;> simp [IntKind.max,IntKind.signed,IntKind.bits]
 by_cases ha : 0 <= a
 ·have h2 : 0 <= a / 2 ^ n:=Int.ediv_nonneg ha (Int.le_of_lt hp)
  have h3 : a / 2 ^ n <= a:=Int.ediv_le_self _ ha
  omega
 ·have h2 : a / 2 ^ n < 0:=Int.ediv_neg_of_neg_of_pos (by omega) hp
  have h3 : a <= a / 2 ^ n:=by
   have:=Int.le_ediv_of_mul_le hp (a:=a) (b:=a) (by
    have h5 : (1 : Int) <= 2 ^ n:=hp
    have : a * 2 ^ n <= a * 1:=Int.mul_le_mul_of_nonpos_left (by omega) h5
    omega)
   exact this
  omega

theorem Vs {k : IntKind} {a b : Int} (h : rZ k a) : rZ k (a.tmod b):=by
 unfold rZ at *
 have hmin : k.min <= 0:=by cases k <;> simp [IntKind.min,IntKind.signed,IntKind.bits]
 have hmax : 0 <= k.max:=by cases k <;> simp [IntKind.max,IntKind.signed,IntKind.bits]
 have h1 : (a.tmod b).natAbs <= a.natAbs:=by
  rw [Int.natAbs_tmod]; exact Nat.mod_le _ _
 rcases Int.le_total 0 a with ha | ha
 ·have : 0 <= a.tmod b:=Int.tmod_nonneg _ ha
  omega
 ·have : a.tmod b <= 0:=by
   have h2:=Int.tmod_nonneg b (a:=-a) (by omega)
   rw [Int.neg_tmod] at h2; omega
  omega

section
variable {c : Cx} {P : Program}

theorem bT {kd : IntKind} {n : Int} (h : rZ kd n) : VV c (.int kd n) (.int kd n):=dJ rfl rfl (by simp only [VR,Rd]; exact ⟨trivial,h⟩)
theorem GI {s : List UInt8} (h : s.length <= maxL) : VV c (.str s) (.string ⟨s.toArray⟩):=dJ rfl rfl (by simp only [VR,Rd]; exact ⟨trivial,h⟩)
theorem iw {p : Prop} {b : Bool} (h : b = true ↔ p) : VV c (.dec p) (.bool b):=dJ rfl rfl (by simp only [VR,Rd]; exact ⟨b,rfl,h⟩)
theorem lI (b : Bool) : VV c (.bool b) (.bool b):=dJ rfl rfl (by simp only [VR,Rd])
theorem oG : VV c .tt (.bool true):=dJ rfl rfl (by simp only [VR,Rd])
theorem jV : VV c .ff (.bool false):=dJ rfl rfl (by simp only [VR,Rd])

theorem l7 {kd : IntKind} {z : Int} {k : AV -> Prop} (h : arith kd z k) : ∃ R,VV c R (.int kd (kd.wrap z)) /\ k R:=by
 unfold arith at h
 split at h
 ·exact ⟨_,by rw [Je h.1]; exact bT h.1,h.2⟩
 ·exact ⟨_,bT (lN _ _),h⟩

theorem lu {A : AV} {k : AV -> Prop} {b : Bool} (hA : VV c A (.bool b)) (h : rY A k) : ∃ R,VV c R (.bool !b) /\ k R:=by
 unfold rY at h
 split at h
 ·have:=tY hA; simp at this; subst this; exact ⟨_,jV,h⟩
 ·have:=tZ hA; simp at this; subst this; exact ⟨_,oG,h⟩
 ·have:=fO hA; simp at this; subst this; exact ⟨_,lI _,h⟩
 ·obtain ⟨b',h1,h2⟩:=ku hA; simp at h1; subst h1
  refine ⟨_,iw ?_,h⟩
  rw [<- h2]; simp
 ·exact h.elim

theorem Ak {x : AV} {k : AV -> Prop} {v : Value} (hx : VV c x v) (h : D7 x k) : ∃ b,v = .bool b /\ VV c x (.bool b) /\ k x:=by
 unfold D7 at h
 split at h
 ·have:=tY hx; subst this; exact ⟨_,rfl,hx,h⟩
 ·have:=tZ hx; subst this; exact ⟨_,rfl,hx,h⟩
 ·have:=fO hx; subst this; exact ⟨_,rfl,hx,h⟩
 ·obtain ⟨b',h1,h2⟩:=ku hx; subst h1; exact ⟨_,rfl,hx,h⟩
 ·exact h.elim

theorem yZ {A : AV} {k : AV -> Prop} {v : Value} (hA : VV c A v) (h : rY A k) : ∃ b,v = .bool b:=by
 unfold rY at h
 split at h
 ·exact ⟨_,tY hA⟩
 ·exact ⟨_,tZ hA⟩
 ·exact ⟨_,fO hA⟩
 ·obtain ⟨b',h1,_⟩:=ku hA; exact ⟨_,h1⟩
 ·exact h.elim

theorem Gl {A B : AV} {k : AV -> Prop} {v u : Value} (hA : VV c A v) (hB : VV c B u) (h : WA A B k) :
  ∃ a b R,v = .bool a /\ u = .bool b /\ VV c R (.bool (a == b)) /\ k R:=by
 unfold WA at h
 split at h
 ·obtain rfl:=tY hA
  obtain ⟨b,rfl,h2,h3⟩:=Ak hB h
  exact ⟨true,b,_,rfl,rfl,by simpa using h2,h3⟩
 ·obtain rfl:=tY hB
  obtain ⟨b,rfl,h2,h3⟩:=Ak hA h
  exact ⟨b,true,_,rfl,rfl,by simpa using h2,h3⟩
 ·obtain rfl:=tZ hA
  obtain ⟨b,rfl⟩:=yZ hB h
  obtain ⟨R,h2,h3⟩:=lu hB h
  exact ⟨false,b,_,rfl,rfl,by simpa using h2,h3⟩
 ·obtain rfl:=tZ hB
  obtain ⟨b,rfl⟩:=yZ hA h
  obtain ⟨R,h2,h3⟩:=lu hA h
  exact ⟨b,false,_,rfl,rfl,by simpa using h2,h3⟩
 ·obtain rfl:=fO hA
  obtain rfl:=fO hB
  exact ⟨_,_,_,rfl,rfl,iw (by simp),h⟩
 ·obtain ⟨a,rfl,ha⟩:=ku hA
  obtain ⟨b,rfl,hb⟩:=ku hB
  refine ⟨_,_,_,rfl,rfl,iw ?_,h⟩
  rw [<- ha,<- hb]; cases a <;> cases b <;> simp
 ·obtain ⟨a,rfl,ha⟩:=ku hA
  obtain rfl:=fO hB
  refine ⟨_,_,_,rfl,rfl,iw ?_,h⟩
  rw [<- ha]; rename_i b; cases a <;> cases b <;> simp
 ·obtain rfl:=fO hA
  obtain ⟨b,rfl,hb⟩:=ku hB
  refine ⟨_,_,_,rfl,rfl,iw ?_,h⟩
  rw [<- hb]; rename_i a _ _; cases a <;> cases b <;> simp
 ·exact h.elim

theorem Ac {A B : AV} {k : AV -> Prop} {v u : Value} (hA : VV c A v) (hB : VV c B u) (h : Ad A B k) :
  ∃ b R,((v = .nilIface /\ u = .nilIface /\ b = true) \/ (v = .nilIface /\ (∃ t x,u = .iface t x) /\ b = false) \/ ((∃ t x,v = .iface t x) /\ u = .nilIface /\ b = false)) /\ VV c R (.bool b) /\ k R:=by
 unfold Ad at h
 split at h
 ·exact ⟨true,_,.inl ⟨yH hA,yH hB,rfl⟩,oG,h⟩
 ·obtain ⟨x,h1,_⟩:=NT hB
  exact ⟨false,_,.inr (.inl ⟨yH hA,⟨_,_,h1⟩,rfl⟩),jV,h⟩
 ·obtain ⟨x,h1,_⟩:=NT hA
  exact ⟨false,_,.inr (.inr ⟨⟨_,_,h1⟩,yH hB,rfl⟩),jV,h⟩
 ·exact h.elim

theorem xG {A B : AV} {k : AV -> Prop} {v u : Value} (hA : VV c A v) (hB : VV c B u) (h : sN A B k) :
  ∃ b R a,v = .pointer a /\ u = .pointer none /\ b = a.isNone /\ VV c R (.bool b) /\ k R:=by
 unfold sN at h
 split at h
 ·exact ⟨true,_,none,BI hA,BI hB,rfl,oG,h⟩
 ·obtain ⟨a,ds,h1,_⟩:=Pq hA
  exact ⟨false,_,some a,h1,BI hB,rfl,jV,h⟩
 ·exact ⟨false,_,_,(wP hA).2,BI hB,rfl,jV,h⟩
 ·exact h.elim

end
end Go.AL

namespace Go.AL

theorem iQ {α : Type} {k : α -> Prop} : ∀ {l : List α} {i : Nat},oL l i k ↔ ∃ x,l[i]? = some x /\ k x
 | [],i=>by simp [oL]
 | x :: l,0=>by simp [oL]
 | x :: l,i + 1=>by simp only [oL,List.getElem?_cons_succ]; exact iQ

theorem oP {k : List AV -> Prop} {y : AV} : ∀ {l : List AV} {i : Nat},iV l i y k -> i < l.length /\ k (l.set i y)
 | [],i,h=>by simp [iV] at h
 | x :: l,0,h=>by simpa [iV] using h
 | x :: l,i + 1,h=>by
   simp only [iV] at h
   have:=oP h
   exact ⟨by simp; exact this.1,by simpa using this.2⟩

theorem uw {k : List Nat -> Prop} {x : Nat} : ∀ {l : List Nat},Fq l x k ↔ k (l ++ [x])
 | []=>Iff.rfl
 | y :: l=>by simp only [Fq]; exact uw

theorem yD {k : List AV -> Prop} {m : List AV} : ∀ {l : List AV},Fb l m k ↔ k (l ++ m)
 | []=>Iff.rfl
 | y :: l=>by simp only [Fb]; exact yD

theorem CB {k : List AV -> Prop} {z : AV} : ∀ {n : Nat},Hq z n k ↔ k (List.replicate n z)
 | 0=>Iff.rfl
 | n + 1=>by simp only [Hq]; exact CB

theorem bn {a b : Nat} {k : Prop} : jP a b k ↔ a = b /\ k:=by
 unfold jP
 cases h : Nat.beq a b with
 | true=>simp [Nat.eq_of_beq_eq_true h]
 | false=>simp [dZ h]

theorem sD {A : AV} {k : Prop} : BQ A k ↔ isVal A = true /\ k:=by
 unfold BQ
 cases isVal A <;> simp

def AZ : AV -> List Nat -> Option AV
 | A,[]=>some A
 | .ag l,i :: p=>match l[i]? with | some x=>AZ x p | none=>none
 | _,_ :: _=>none

theorem kJ {k : AV -> Prop} : ∀ {p : List Nat} {A : AV},sV A p k ↔ ∃ x,AZ A p = some x /\ k x
 | [],A=>by simp [sV,AZ]
 | i :: p,A=>by
   cases A with
   | ag l =>
     simp only [sV,AZ,iQ]
     constructor
     ·rintro ⟨x,h1,h2⟩
      obtain ⟨y,h3,h4⟩:=kJ.1 h2
      exact ⟨y,by simp only [h1]; exact h3,h4⟩
     ·rintro ⟨y,h3,h4⟩
      cases hx : l[i]? with
      | none=>simp [hx] at h3
      | some x=>simp only [hx] at h3; exact ⟨x,rfl,kJ.2 ⟨y,h3,h4⟩⟩
   | _=>simp [sV,AZ]

theorem qA {c : Cx} : ∀ {l : List AV} {cs : List Value} {i : Nat} {x : AV},lg c l cs -> l[i]? = some x ->
  ∃ pre xs post,cs = pre ++ xs ++ post /\ pre.length = iD (l.take i) /\ VR c x xs /\ ∀ y ys,VR c y ys -> lg c (l.set i y) (pre ++ ys ++ post)
 | [],_,_,_,_,h=>by simp at h
 | z :: l,cs,0,x,hr,h=>by
   simp only [lg] at hr
   obtain ⟨a,d,rfl,h2,h3⟩:=hr
   obtain rfl : z = x:=by simpa using h
   refine ⟨[],a,d,by simp,by simp [iD],h2,fun y ys hy=>?_⟩
   simp only [List.nil_append,List.set_cons_zero,lg]
   exact ⟨ys,d,rfl,hy,h3⟩
 | z :: l,cs,i + 1,x,hr,h=>by
   simp only [lg] at hr
   obtain ⟨a,d,rfl,h2,h3⟩:=hr
   obtain ⟨pre,xs,post,rfl,h5,h6,h7⟩:=qA h3 (by simpa using h : l[i]? = some x)
   refine ⟨a ++ pre,xs,post,by simp,by simp [iD,fD _ _ h2,h5],h6,fun y ys hy=>?_⟩
   simp only [List.set_cons_succ,lg]
   exact ⟨a,pre ++ ys ++ post,by simp,h2,h7 y ys hy⟩

theorem BJ {c : Cx} : ∀ {p : List Nat} {A x : AV} {cs : List Value},VR c A cs -> AZ A p = some x ->
  ∃ pre xs post,cs = pre ++ xs ++ post /\ pre.length = CO A p /\ VR c x xs
 | [],A,x,cs,hr,h=>by
   obtain rfl : A = x:=by simpa [AZ] using h
   exact ⟨[],cs,[],by simp,by cases A <;> simp [CO],hr⟩
 | i :: p,A,x,cs,hr,h=>by
   cases A with
   | ag l =>
     simp only [AZ] at h
     cases hx : l[i]? with
     | none=>simp [hx] at h
     | some y =>
       simp only [hx] at h
       simp only [VR] at hr
       obtain ⟨pre,ys,post,rfl,h2,h3,_⟩:=qA hr hx
       obtain ⟨pre',xs,post',rfl,h5,h6⟩:=BJ h3 h
       exact ⟨pre ++ pre',xs,post' ++ post,by simp,by simp only [List.length_append,CO,hx,h2,h5],h6⟩
   | _=>simp [AZ] at h

theorem oO {c : Cx} {k : AV -> Prop} {B : AV} {bs : List Value} (hB : VR c B bs) : ∀ {p : List Nat} {A : AV} {cs : List Value},VR c A cs -> xk A p B k ->
  ∃ A' x pre xs post,AZ A p = some x /\ cs = pre ++ xs ++ post /\ pre.length = CO A p /\ VR c x xs /\ VR c A' (pre ++ bs ++ post) /\ k A'
 | [],A,cs,hr,h=>by
   have h' : k B:=by cases A <;> simpa [xk] using h
   exact ⟨B,A,[],cs,[],by simp [AZ],by simp,by cases A <;> simp [CO],hr,by simpa using hB,h'⟩
 | i :: p,A,cs,hr,h=>by
   cases A with
   | ag l =>
     simp only [xk,iQ] at h
     obtain ⟨x,hx,h⟩:=h
     simp only [VR] at hr
     obtain ⟨pre,ys,post,rfl,h2,h3,h4⟩:=qA hr hx
     obtain ⟨x',z,pre',xs,post',h5,rfl,h7,h8,h9,h10⟩:=oO hB h3 h
     have h11:=oP h10
     refine ⟨.ag (l.set i x'),z,pre ++ pre',xs,post' ++ post,by simp only [AZ,hx,h5],by simp,by simp only [List.length_append,CO,hx,h2,h7],h8,?_,h11.2⟩
     simp only [VR]
     have:=h4 x' _ h9
     simpa using this
   | _=>simp [xk] at h

theorem aG {c : Cx} {A : AV} {cs : List Value} (h : VR c A cs) (hA : dn A = false) : ∀ u ∈ cs,u.oneCell' = true:=by
 cases A with
 | ag l=>simp [dn] at hA
 | dec p=>simp only [VR,Rd] at h; obtain ⟨b,rfl,_⟩:=h; simp [Value.oneCell']
 | sl sz l tok =>
   cases tok with
   | no=>simp only [VR,Rd] at h; obtain ⟨_,⟨_,rfl⟩ | ⟨a,cap,rfl,_⟩⟩:=h <;> simp [Value.oneCell']
   | full=>simp only [VR,Rd] at h; obtain ⟨⟨_,⟨_,rfl⟩ | ⟨a,cap,rfl,_⟩⟩,_⟩:=h <;> simp [Value.oneCell']
   | own k=>simp only [VR,Rd] at h; obtain ⟨_,⟨_,⟨_,rfl⟩ | ⟨a,cap,rfl,_⟩⟩,_⟩:=h <;> simp [Value.oneCell']
 | jh t x=>simp only [VR] at h; obtain ⟨v,rfl,_⟩:=h; simp [Value.oneCell']
 | cp x=>simp only [VR,Rd] at h; obtain ⟨a,ds,rfl,_⟩:=h; simp [Value.oneCell']
 | fn f cap=>simp only [VR] at h; obtain ⟨vs,rfl,_⟩:=h; simp [Value.oneCell']
 | dA l=>simp only [VR,Rd] at h
 | und=>simp only [VR,Rd] at h
 | ptr=>simp only [VR] at h; obtain ⟨_,rfl⟩:=h; simp [Value.oneCell']
 | ms=>simp only [VR] at h; obtain ⟨_,rfl,_⟩:=h; simp [Value.oneCell']
 | mp=>simp only [VR] at h; obtain ⟨_,rfl⟩:=h; simp [Value.oneCell']
 | gs=>simp only [VR] at h; obtain ⟨_,⟨_,_,_,rfl⟩,_⟩:=h; simp [Value.oneCell']
 | bm=>simp only [VR] at h; obtain ⟨_,rfl⟩:=h; simp [Value.oneCell']
 | int=>simp only [VR,Rd] at h; obtain ⟨rfl,_⟩:=h; simp [Value.oneCell']
 | str=>simp only [VR,Rd] at h; obtain ⟨rfl,_⟩:=h; simp [Value.oneCell']
 | _=>simp only [VR,Rd] at h; subst h; simp [Value.oneCell']

mutual
theorem lJ {c : Cx} : ∀ (A : AV) (cs : List Value),VR c A cs -> ∀ u ∈ cs,u.oneCell' = true
 | .ag l,cs,h=>by simp only [VR] at h; exact Az l cs h
 | .bool _,_,h=>aG h rfl
 | .tt,_,h=>aG h rfl
 | .ff,_,h=>aG h rfl
 | .dec _,_,h=>aG h rfl
 | .int _ _,_,h=>aG h rfl
 | .str _,_,h=>aG h rfl
 | .bH,_,h=>aG h rfl
 | .jh _ _,_,h=>aG h rfl
 | .aV,_,h=>aG h rfl
 | .sl _ _ _,_,h=>aG h rfl
 | .ms _ _ _ _ _,_,h=>aG h rfl
 | .dA _,_,h=>aG h rfl
 | .ptr _ _ _,_,h=>aG h rfl
 | .cp _,_,h=>aG h rfl
 | .fJ,_,h=>aG h rfl
 | .fn _ _,_,h=>aG h rfl
 | .aZ,_,h=>aG h rfl
 | .mp _,_,h=>aG h rfl
 | .gs _ _,_,h=>aG h rfl
 | .bm _ _,_,h=>aG h rfl
 | .jQ,_,h=>aG h rfl
 | .und,_,h=>aG h rfl
theorem Az {c : Cx} : ∀ (l : List AV) (cs : List Value),lg c l cs -> ∀ u ∈ cs,u.oneCell' = true
 | [],_,h=>by simp only [lg] at h; subst h; simp
 | x :: l,cs,h=>by
   simp only [lg] at h
   obtain ⟨a,d,rfl,h2,h3⟩:=h
   intro u hu
   rcases List.mem_append.1 hu with hu | hu
   ·exact lJ x a h2 u hu
   ·exact Az l d h3 u hu
end

section
variable {P : Program} {t : Nat} {i : TI}

theorem nH.under (h : nH P t i) : ∃ d,P.underlying t = some d /\ descOf P d = i.desc:=by
 have:=h.desc
 cases hd : P.underlying t with
 | none=>simp [hd] at this
 | some d=>simp [hd] at this; exact ⟨d,rfl,this⟩

theorem nH.FD (h : nH P t i) (w : World) : (isAgg t).run P w = .ok (dn i.zero) w:=by
 obtain ⟨d,h1,h2⟩:=h.under
 rw [<- h.agg,<- h2]
 unfold isAgg
 simp only [Sem.run_bind,run_underlying h1,Result.andThen_ok]
 cases d <;> rfl

theorem nH.lT (h : nH P t i) (w : World) : (sizeOf t).run P w = .ok (flat i.zero) w:=by
 obtain ⟨x,v,h1,h2,_⟩:=h.info
 unfold sizeOf typeInfo
 simp [h1,h2]

theorem nH.sF (h : nH P t i) (w : World) : ∃ v,(zeroValue t).run P w = .ok v w /\ dQ i.zero v /\ ∀ w Im,Rd w Im i.zero v.cells.toList:=by
 obtain ⟨x,v,h1,h2,h3,h4,h5,h6⟩:=h.info
 refine ⟨v,?_,h5,h6⟩
 unfold zeroValue typeInfo
 simp [h1,h4]
end

theorem iZ {P : Program} {L : Lay} {t : Nat} {x : AV} {k : Prop} (hL : bZ P L) (h : wG L t x k) :
  isVal x = true /\ ∃ i,nH P t i /\ flat x = flat i.zero /\ dn x = dn i.zero /\ k:=by
 unfold wG at h
 obtain ⟨hv,h⟩:=sD.1 h
 refine ⟨hv,?_⟩
 obtain ⟨i,hi,h⟩:=Lay.aT hL h
 refine ⟨i,hi,?_⟩
 cases hb : Nat.beq (flat x) (flat i.zero) with
 | false=>simp [hb] at h
 | true =>
   simp only [hb] at h
   refine ⟨Nat.eq_of_beq_eq_true hb,?_⟩
   cases h1 : dn x <;> cases h2 : dn i.zero <;> simp [h1,h2] at h ⊢ <;> exact h

theorem oQ {P : Program} {c : Cx} {t : Nat} {i : TI} {x : AV} {cs : List Value} {b off : Nat} (hT : nH P t i) (hf : flat x = flat i.zero) (ha : dn x = dn i.zero)
  (hr : VR c x cs) (hc : ∀ j v,cs[j]? = some v -> c.w.cell? ⟨b,off + j,none⟩ = some v) : (loadVar t ⟨b,off,none⟩).run P c.w = .ok (mkV x cs) c.w:=by
 unfold loadVar
 simp only [Sem.run_bind,hT.FD,Result.andThen_ok]
 cases hz : dn i.zero with
 | true =>
   have hl : cs.length = flat i.zero:=(fD _ _ hr).trans hf
   have:=run_loadCells_list (P:=P) c.w ⟨b,off,none⟩ cs (fun j v hj=>by
    have:=hc j v hj
    unfold Addr.add; split
    ·rename_i h0; subst h0; simpa using this
    ·simpa using this)
   simp only [if_true,Sem.run_bind,hT.lT,Result.andThen_ok,<- hl,this,Sem.run_pure]
   rw [hz] at ha
   cases x <;> simp [dn] at ha
   rfl
 | false =>
   obtain ⟨v,rfl,hv⟩:=mD hr (by rw [ha,hz])
   have:=hc 0 v rfl
   simp only [Nat.add_zero] at this
   simp only [Bool.false_eq_true,if_false,run_load,this]
   rw [hz] at ha
   have : mkV x [v] = v:=by cases x <;> simp [dn] at ha <;> rfl
   rw [this]

theorem qL {P : Program} {w : World} {t : Nat} {i : TI} {v : Value} {b off : Nat} {cur : Array Value} {ty : Nat} (hT : nH P t i) (hf : v.cells.size = flat i.zero)
  (hg : w.heap[b]? = some (.cells cur ty)) (hl : off + v.cells.size <= cur.size) (h1 : ∀ u ∈ v.cells.toList,u.oneCell' = true) :
  (storeVar t ⟨b,off,none⟩ v).run P w = .ok () (w.setRow b (cur.toList.take off ++ v.cells.toList ++ cur.toList.drop (off + v.cells.size)).toArray):=by
 unfold storeVar
 have:=run_storeCells_at P b off ty v.cells.toList 0 cur w hg (by simpa using hl) h1
 simp only [Nat.add_zero,Array.length_toList] at this
 simp only [Sem.run_bind,hT.lT,Result.andThen_ok,hf,ne_eq,not_true_eq_false,if_false]
 rw [hf] at this
 exact this

theorem cell_of_heap {w : World} {b o : Nat} {cs : Array Value} {ty : Nat} {fr : Nat × Nat} (h : w.heap[b]? = some (.cells cs ty fr)) : w.cell? ⟨b,o,none⟩ = cs[o]?:=by
 simp [World.cell?,h]

theorem kY {c : Cx} {A : AV} {v : Value} (h : EV c A v) (hv : isVal A = true) : VV c A v:=by
 cases A <;> first | exact h | (simp [isVal] at hv)

end Go.AL

namespace Go.AL

theorem kW {c d : Cx} (h : c.Le d) {sz : Nat} : ∀ {l : List AV} {cs : List Value},zM c sz l cs -> zM d sz l cs
 | [],_,_=>trivial
 | x :: l,cs,hr=>by
   obtain ⟨a,e,h1,h2,h3,h4⟩:=hr
   exact ⟨a,e,h1,h2,dN h.im _ _ h3,kW h h4⟩

theorem yI {c d : Cx} (h : c.Le d) : ∀ {l : List (AV × AV)} {es : List MapEntry},Aw c l es -> Aw d l es
 | [],_,hr=>hr
 | (x,y) :: l,es,hr=>by
   obtain ⟨e,r,h1,h2,h3,h4⟩:=hr
   exact ⟨e,r,h1,nD h h2,nD h h3,yI h h4⟩

theorem mF {c d : Cx} (h : c.Le d) {k : Nat} {o : HO} (hk : k < c.nx) (ht : d.tk k = c.tk k)
  (hb : ∀ b,aB c (k,o) = some b -> d.w.heap[b]? = c.w.heap[b]? /\ ∀ x,d.Im b x -> c.Im b x) (ho : o.Ok c k) : o.Ok d k:=by
 cases o with
 | box A =>
   obtain ⟨cs,ty,h1,h2,h3⟩:=ho
   have:=hb (c.ρ k) rfl
   refine ⟨cs,ty,?_,nG h _ _ h2,?_⟩
   ·rw [h.ρ k hk,this.1,h1]
   ·rw [h.ρ k hk]; exact fun x hx=>h3 x (this.2 x hx)
 | arr sz cap l =>
   obtain ⟨cs,ty,h1,h2,h3,h4,h5,h6⟩:=ho
   have:=hb (c.ρ k) rfl
   refine ⟨cs,ty,?_,h2,h3,h4,kW h h5,?_⟩
   ·rw [h.ρ k hk,this.1,h1]
   ·rw [h.ρ k hk]; exact fun x hx=>h6 x (this.2 x hx)
 | tok sz top =>
   simp only [HO.Ok,ht] at ho ⊢
   by_cases he : (c.tk k).2 = top
   ·exact .inl he
   ·rcases ho with ho | ⟨b,cs,ty,h1,h2,h3,h4,h5,h6⟩
    ·exact .inl ho
    ·have:=hb b (by simp [aB,he,h1])
     exact .inr ⟨b,cs,ty,h1,by rw [this.1,h2],h3,h4,h5,fun x hx hi=>h6 x hx (this.2 x hi)⟩
 | iK sh es =>
   obtain ⟨ents,clock,h1,h2,h3⟩:=ho
   have:=hb (c.ρ k) rfl
   refine ⟨ents,clock,?_,yI h h2,h3⟩
   rw [h.ρ k hk,this.1,h1]
 | dU sz l =>
   simp only [HO.Ok,ht] at ho ⊢
   rcases ho with ho | ⟨b,cs,ty,h1,h2,h3,h4,h5,h6,h7⟩
   ·exact .inl ho
   ·have:=hb b (by simp [aB,h1])
    exact .inr ⟨b,cs,ty,h1,by rw [this.1,h2],h3,h4,h5,kW h h6,fun x hx=>h7 x (this.2 x hx)⟩
 | glob g cs =>
   intro j v hv
   obtain ⟨h1,h2⟩:=ho j v hv
   obtain ⟨g1,g2⟩:=h.im _ _ h1
   exact ⟨g1,g2.trans h2⟩
 | gone=>trivial

theorem Vu {c : Cx} {k : Nat} {o : HO} (ho : o.Ok c k) {b : Nat} (hb : aB c (k,o) = some b) : b < c.w.heap.size:=by
 have key : ∀ {x : Obj},c.w.heap[b]? = some x -> b < c.w.heap.size:=fun h=>(Array.getElem?_eq_some_iff.1 h).1
 cases o with
 | box A=>obtain ⟨cs,ty,h1,_⟩:=ho; simp [aB] at hb; subst hb; exact key h1
 | arr sz cap l=>obtain ⟨cs,ty,h1,_⟩:=ho; simp [aB] at hb; subst hb; exact key h1
 | tok sz top =>
   simp only [aB] at hb
   split at hb
   ·simp at hb
   ·rcases ho with ho | ⟨b',cs,ty,h1,h2,_⟩
    ·contradiction
    ·simp [h1] at hb; subst hb; exact key h2
 | iK sh es=>obtain ⟨ents,clock,h1,_⟩:=ho; simp [aB] at hb; subst hb; exact key h1
 | dU sz l =>
   rcases ho with ⟨h1,_⟩ | ⟨b',cs,ty,h1,h2,_⟩
   ·simp [aB,h1] at hb
   ·simp [aB,h1] at hb; subst hb; exact key h2
 | glob g cs=>simp [aB] at hb
 | gone=>simp [aB] at hb

theorem HR.tN {c : Cx} {H : Heap} (h : HR c H) {x : Nat × HO} (hx : x ∈ H) {b : Nat} (hb : aB c x = some b) : b < c.w.heap.size :=
 Vu (h.ok x hx) hb

theorem jD {c d : Cx} {x : Nat × HO} (hρ : d.ρ x.1 = c.ρ x.1) (ht : d.tk x.1 = c.tk x.1) : aB d x = aB c x:=by
 unfold aB; rw [hρ,ht]

theorem jI {α : Type} {R : α -> α -> Prop} : ∀ {l : List α},l.Pairwise R -> ∀ {S : α -> α -> Prop},(∀ x ∈ l,∀ y ∈ l,R x y -> S x y) -> l.Pairwise S
 | [],_,_,_=>.nil
 | x :: l,h,S,hS=>by
   rw [List.pairwise_cons] at h ⊢
   exact ⟨fun y hy=>hS x (by simp) y (by simp [hy]) (h.1 y hy),jI h.2 fun a ha b hb=>hS a (by simp [ha]) b (by simp [hb])⟩

theorem Tr.keep {c d : Cx} {H : Heap} (hr : HR c H) (le : c.Le d) (hnx : d.nx = c.nx) (htp : d.tp = c.tp) (htk : d.tk = c.tk)
  (os : d.w.os = c.w.os) (tape : d.w.tape = c.w.tape) (output : d.w.output = c.w.output) (size : c.w.heap.size <= d.w.heap.size)
  (fr : ∀ b,b < c.w.heap.size -> d.w.heap[b]? = c.w.heap[b]?) (im : ∀ b o,d.Im b o -> c.Im b o \/ (c.w.heap.size <= b /\ b < d.w.heap.size)) : Tr c H d H:=by
 have hbk : ∀ x ∈ H,aB d x = aB c x:=fun x hx=>jD (le.ρ _ (by rw [hr.nx]; exact bF hr.ids x hx)) (by rw [htk])
 refine ⟨⟨hnx.trans hr.nx,htp.trans hr.tp,hr.ids,fun b o h=>?_,fun x hx=>?_,?_⟩,le,os,tape,output,size,fun b hb _=>fr b hb,fun y hy b hb=>.inr ⟨y,hy,by rw [<- hbk y hy]; exact hb⟩,fun b o h=>(im b o h).imp id (fun h=>.inl h.1)⟩
 ·rcases im b o h with h | h
  ·have:=hr.im b o h; omega
  ·exact h.2
 ·refine mF le (by rw [hr.nx]; exact bF hr.ids x hx) (by rw [htk]) (fun b hb=>?_) (hr.ok x hx)
  have hlt:=hr.tN hx hb
  exact ⟨fr b hlt,fun o ho=>(im b o ho).resolve_right (by omega)⟩
 ·exact jI hr.apart fun x hx y hy h b hb=>by rw [hbk y hy]; rw [hbk x hx] at hb; exact h b hb

def Cx.alloc (c : Cx) (o : Obj) : Cx:={ c with w:=c.w.alloc o,Im:=fun b x=>c.Im b x \/ b = c.w.heap.size }

theorem eF (w : World) (o : Obj) {b : Nat} (h : b < w.heap.size) : (w.alloc o).heap[b]? = w.heap[b]?:=by
 show (w.heap.push o)[b]? = _
 rw [Array.getElem?_push,if_neg (by omega)]
theorem alloc_heap_new (w : World) (o : Obj) : (w.alloc o).heap[w.heap.size]? = some o:=by
 show (w.heap.push o)[_]? = _
 simp

theorem gG {w w' : World} {b o : Nat} (h : w'.heap[b]? = w.heap[b]?) : w'.cell? ⟨b,o,none⟩ = w.cell? ⟨b,o,none⟩:=by
 simp [World.cell?,h]

theorem Tr.alloc {c : Cx} {H : Heap} (hr : HR c H) (o : Obj) : Tr c H (c.alloc o) H:=by
 refine Tr.keep hr ⟨fun b x h=>⟨.inl h,?_⟩,Nat.le_refl _,fun _ _=>rfl,fun _ _ _ h=>.inl ⟨h,rfl⟩⟩ rfl rfl rfl rfl rfl rfl (by simp [Cx.alloc]) (fun b hb=>eF _ _ hb) (fun b x h=>?_)
 ·exact gG (eF _ _ (hr.im b x h))
 ·rcases h with h | h
  ·exact .inl h
  ·subst h; exact .inr ⟨Nat.le_refl _,by simp [Cx.alloc]⟩

theorem Tr.drew {c : Cx} {H : Heap} (hr : HR c H) : Tr c H { c with w:=c.w.drew } H :=
 Tr.keep hr ⟨fun _ _ h=>⟨h,rfl⟩,Nat.le_refl _,fun _ _=>rfl,fun _ _ _ h=>.inl ⟨h,rfl⟩⟩ rfl rfl rfl rfl rfl rfl (Nat.le_refl _) (fun _ _=>rfl) (fun _ _ h=>.inl h)

def Cx.push (c : Cx) (o : Obj) (H : Heap) : Cx :=
 { c with w:=c.w.alloc o,ρ:=fun k=>if k = c.nx then c.w.heap.size else c.ρ k,nx:=c.nx + 1,tp:=dw H }

theorem jG {H : Heap} {i k : Nat} {o : HO} (h : i ≠ k) : dw ((i,o) :: H) k = dw H k:=by
 unfold dw
 simp only [hget]
 cases hb : Nat.beq i k with
 | true=>exact absurd (Nat.eq_of_beq_eq_true hb) h
 | false=>rfl

theorem qI {H : Heap} {i : Nat} {o : HO} : dw ((i,o) :: H) i = (match o with | .tok _ n=>some n | .dU _ l=>some l.length | _=>none):=by
 unfold dw
 simp only [hget,Nat.beq_refl]
 cases o <;> rfl

theorem Hr {c : Cx} {H : Heap} (hr : HR c H) (o : Obj) (ho : HO) : c.Le (c.push o ((nextId H,ho) :: H)):=by
 refine ⟨fun b x h=>⟨h,gG (eF _ _ (hr.im b x h))⟩,Nat.le_succ _,fun k hk=>?_,fun k n hk hn=>?_⟩
 ·simp only [Cx.push]; rw [if_neg (by omega)]
 ·refine .inl ⟨?_,rfl⟩
  have : nextId H ≠ k:=by rw [<- hr.nx]; omega
  simp only [Cx.push] at hn
  rw [jG this] at hn
  rw [hr.tp]; exact hn

theorem oUρ {c : Cx} {H : Heap} (hr : HR c H) (o : Obj) (G : Heap) : (c.push o G).ρ (nextId H) = c.w.heap.size:=by simp only [Cx.push]; rw [if_pos hr.nx.symm]

theorem Tr.push {c : Cx} {H : Heap} (hr : HR c H) (o : Obj) (ho : HO) (hblk : ∀ d : Cx,aB d (nextId H,ho) = some (d.ρ (nextId H)))
  (hok : ho.Ok (c.push o ((nextId H,ho) :: H)) (nextId H)) : Tr c H (c.push o ((nextId H,ho) :: H)) ((nextId H,ho) :: H):=by
 have hlt : ∀ x ∈ H,x.1 < c.nx:=fun x hx=>by rw [hr.nx]; exact bF hr.ids x hx
 have le:=Hr hr o ho
 have hbk : ∀ x ∈ H,aB (c.push o ((nextId H,ho) :: H)) x = aB c x:=fun x hx=>jD (le.ρ _ (hlt x hx)) rfl
 have hρ : (c.push o ((nextId H,ho) :: H)).ρ (nextId H) = c.w.heap.size:=by simp only [Cx.push]; rw [if_pos hr.nx.symm]
 refine ⟨⟨?_,rfl,?_,?_,?_,?_⟩,le,rfl,rfl,rfl,by simp [Cx.push],fun b hb _=>eF _ _ hb,?_,fun b x h=>.inl h⟩
 ·simp only [Cx.push,nextId,hr.nx]
 ·exact ⟨fun x hx=>bF hr.ids x hx,hr.ids⟩
 ·intro b x h
  have:=hr.im b x h
  simp only [Cx.push,World.size_alloc]; omega
 ·intro x hx
  rcases List.mem_cons.1 hx with rfl | hx
  ·exact hok
  ·refine mF le (hlt x hx) rfl (fun b hb=>?_) (hr.ok x hx)
   exact ⟨eF _ _ (hr.tN hx hb),fun y hy=>hy⟩
 ·rw [List.pairwise_cons]
  constructor
  ·intro y hy b hb hb'
   rw [hblk,hρ] at hb
   rw [hbk y hy] at hb'
   have:=hr.tN hy hb'
   simp at hb; omega
  ·exact jI hr.apart fun x hx y hy h b hb=>by rw [hbk y hy]; rw [hbk x hx] at hb; exact h b hb
 ·intro y hy b hb
  rcases List.mem_cons.1 hy with rfl | hy
  ·rw [hblk,hρ] at hb; simp at hb; exact .inl (by omega)
  ·rw [hbk y hy] at hb; exact .inr ⟨y,hy,hb⟩

end Go.AL

namespace Go.AL

theorem eP {R : Nat × HO -> Nat × HO -> Prop} : ∀ {H : Heap},ak H -> (∀ x ∈ H,∀ y ∈ H,x.1 ≠ y.1 -> R x y) -> H.Pairwise R
 | [],_,_=>.nil
 | (i,o) :: H,hi,h=>by
   simp only [ak] at hi
   rw [List.pairwise_cons]
   exact ⟨fun y hy=>h _ (by simp) y (by simp [hy]) (by have:=hi.1 y hy; simp; omega),eP hi.2 fun x hx y hy=>h x (by simp [hx]) y (by simp [hy])⟩

theorem xC {R : Nat × HO -> Nat × HO -> Prop} (hs : ∀ x y,R x y -> R y x) : ∀ {H : Heap},H.Pairwise R -> ∀ x ∈ H,∀ y ∈ H,x.1 ≠ y.1 -> R x y
 | [],_,x,hx,_,_,_=>by simp at hx
 | z :: H,h,x,hx,y,hy,hn=>by
   rw [List.pairwise_cons] at h
   rcases List.mem_cons.1 hx with ex | ex <;> rcases List.mem_cons.1 hy with ey | ey
   ·subst ex; subst ey; exact absurd rfl hn
   ·subst ex; exact h.1 y ey
   ·subst ey; exact hs _ _ (h.1 x ex)
   ·exact xC hs h.2 x ex y ey hn

theorem HR.apart' {c : Cx} {H : Heap} (h : HR c H) {x y : Nat × HO} (hx : x ∈ H) (hy : y ∈ H) (hn : x.1 ≠ y.1) {b : Nat} (hb : aB c x = some b) : aB c y ≠ some b :=
 xC (R:=fun x y=>∀ b,aB c x = some b -> aB c y ≠ some b) (fun _ _ h b hb hb'=>h b hb' hb) h.apart x hx y hy hn b hb

theorem iC : ∀ {H : Heap} {k : Nat} {o' : HO} {x : Nat × HO},ak H -> x ∈ hset H k o' -> x = (k,o') \/ (x ∈ H /\ x.1 ≠ k)
 | [],_,_,_,_,h=>by simp [hset] at h
 | (i,o) :: H,k,o',x,hi,h=>by
   simp only [ak] at hi
   simp only [hset] at h
   cases hb : Nat.beq i k with
   | true =>
     have e:=Nat.eq_of_beq_eq_true hb
     rw [hb] at h
     rcases List.mem_cons.1 h with h | h
     ·exact .inl (by rw [h,e])
     ·exact .inr ⟨List.mem_cons_of_mem _ h,by have:=hi.1 x h; omega⟩
   | false =>
     rw [hb] at h
     rcases List.mem_cons.1 h with h | h
     ·exact .inr ⟨by rw [h]; exact List.mem_cons_self,by rw [h]; exact dZ hb⟩
     ·exact (iC hi.2 h).imp id fun h=>⟨List.mem_cons_of_mem _ h.1,h.2⟩

theorem xI : ∀ {H : Heap} {k : Nat} {o' : HO} {x : Nat × HO},x ∈ hset H k o' -> ∃ y ∈ H,y.1 = x.1
 | [],_,_,_,h=>by simp [hset] at h
 | (i,o) :: H,k,o',x,h=>by
   simp only [hset] at h
   cases hb : Nat.beq i k with
   | true =>
     rw [hb] at h
     rcases List.mem_cons.1 h with rfl | h
     ·exact ⟨(i,o),List.mem_cons_self,rfl⟩
     ·exact ⟨x,List.mem_cons_of_mem _ h,rfl⟩
   | false =>
     rw [hb] at h
     rcases List.mem_cons.1 h with rfl | h
     ·exact ⟨(i,o),List.mem_cons_self,rfl⟩
     ·obtain ⟨y,hy,he⟩:=xI h; exact ⟨y,by simp [hy],he⟩

theorem nX : ∀ {H : Heap} {k : Nat} {o' : HO},ak H -> ak (hset H k o')
 | [],_,_,h=>h
 | (i,o) :: H,k,o',h=>by
   simp only [ak] at h
   simp only [hset]
   cases Nat.beq i k with
   | true=>exact ⟨h.1,h.2⟩
   | false =>
     refine ⟨fun x hx=>?_,nX h.2⟩
     obtain ⟨y,hy,he⟩:=xI hx
     have:=h.1 y hy; omega

theorem sO : ∀ {H : Heap} {k : Nat} {o' : HO},nextId (hset H k o') = nextId H
 | [],_,_=>rfl
 | (i,o) :: H,k,o'=>by
   simp only [hset]
   cases Nat.beq i k <;> rfl

theorem qR : ∀ {H : Heap} {k j : Nat} {o' : HO},j ≠ k -> hget (hset H k o') j = hget H j
 | [],_,_,_,_=>rfl
 | (i,o) :: H,k,j,o',h=>by
   simp only [hset]
   cases hb : Nat.beq i k with
   | true =>
     obtain rfl:=Nat.eq_of_beq_eq_true hb
     simp only [hget]
     cases hc : Nat.beq i j with
     | true=>exact absurd (Nat.eq_of_beq_eq_true hc).symm h
     | false=>rfl
   | false =>
     simp only [hget]
     cases Nat.beq i j with
     | true=>rfl
     | false=>exact qR h

theorem jL : ∀ {H : Heap} {k : Nat} {o o' : HO},hget H k = some o -> hget (hset H k o') k = some o'
 | [],_,_,_,h=>by simp [hget] at h
 | (i,x) :: H,k,o,o',h=>by
   simp only [hset]
   cases hb : Nat.beq i k with
   | true=>simp only [hget]; rw [hb]
   | false =>
     simp only [hget] at h ⊢
     rw [hb] at h ⊢
     exact jL h

theorem Tr.set {c d : Cx} {H : Heap} {k : Nat} {o o' : HO} (hr : HR c H) (hk : hget H k = some o) (le : c.Le d) (hnx : d.nx = c.nx) (htp : d.tp = dw (hset H k o'))
  (htk : ∀ j,j ≠ k -> d.tk j = c.tk j) (os : d.w.os = c.w.os) (tape : d.w.tape = c.w.tape) (output : d.w.output = c.w.output) (size : c.w.heap.size <= d.w.heap.size)
  (fr : ∀ b,b < c.w.heap.size -> aB c (k,o) ≠ some b -> d.w.heap[b]? = c.w.heap[b]?)
  (im : ∀ b x,d.Im b x -> c.Im b x \/ (c.w.heap.size <= b /\ b < d.w.heap.size) \/ aB c (k,o) = some b)
  (hblk : ∀ b,aB d (k,o') = some b -> c.w.heap.size <= b \/ aB c (k,o) = some b) (hok : o'.Ok d k) : Tr c H d (hset H k o'):=by
 have hkm:=gW hk
 have hlt : ∀ x ∈ H,x.1 < c.nx:=fun x hx=>by rw [hr.nx]; exact bF hr.ids x hx
 have hbk : ∀ x ∈ H,x.1 ≠ k -> aB d x = aB c x:=fun x hx hn=>jD (le.ρ _ (hlt x hx)) (htk _ hn)
 refine ⟨⟨?_,htp,nX hr.ids,?_,?_,?_⟩,le,os,tape,output,size,?_,?_,?_⟩
 ·rw [sO,hnx,hr.nx]
 ·intro b x h
  rcases im b x h with h | h | h
  ·have:=hr.im b x h; omega
  ·exact h.2
  ·have:=hr.tN hkm h; omega
 ·intro x hx
  rcases iC hr.ids hx with rfl | ⟨hx,hn⟩
  ·exact hok
  ·refine mF le (hlt x hx) (htk _ hn) (fun b hb=>?_) (hr.ok x hx)
   have hlt':=hr.tN hx hb
   have hne : aB c (k,o) ≠ some b:=fun h=>hr.apart' hkm hx (fun e=>hn e.symm) h hb
   refine ⟨fr b hlt' hne,fun y hy=>?_⟩
   rcases im b y hy with h | h | h
   ·exact h
   ·omega
   ·exact absurd h hne
 ·refine eP (nX hr.ids) ?_
  intro x hx y hy hn b hb hb'
  rcases iC hr.ids hx with rfl | ⟨hx,hxn⟩ <;> rcases iC hr.ids hy with rfl | ⟨hy,hyn⟩
  ·exact hn rfl
  ·rw [hbk y hy hyn] at hb'
   rcases hblk b hb with h | h
   ·have:=hr.tN hy hb'; omega
   ·exact hr.apart' hkm hy (fun e=>hyn e.symm) h hb'
  ·rw [hbk x hx hxn] at hb
   rcases hblk b hb' with h | h
   ·have:=hr.tN hx hb; omega
   ·exact hr.apart' hkm hx (fun e=>hxn e.symm) h hb
  ·rw [hbk x hx hxn] at hb
   rw [hbk y hy hyn] at hb'
   exact hr.apart' hx hy hn hb hb'
 ·intro b hb hn
  exact fr b hb (hn _ hkm)
 ·intro y hy b hb
  rcases iC hr.ids hy with rfl | ⟨hy,hyn⟩
  ·exact (hblk b hb).imp id fun h=>⟨_,hkm,h⟩
  ·rw [hbk y hy hyn] at hb; exact .inr ⟨y,hy,hb⟩
 ·intro b x h
  rcases im b x h with h | h | h
  ·exact .inl h
  ·exact .inr (.inl h.1)
  ·exact .inr (.inr ⟨_,hkm,h⟩)

theorem iP {H : Heap} {k : Nat} {o o' : HO} (hk : hget H k = some o) (h1 : ∀ s n,o ≠ .tok s n) (h2 : ∀ s n,o' ≠ .tok s n)
  (h3 : ∀ s l,o ≠ .dU s l:=by intros; simp) (h4 : ∀ s l,o' ≠ .dU s l:=by intros; simp) : dw (hset H k o') = dw H:=by
 funext j
 unfold dw
 by_cases hj : j = k
 ·subst hj
  rw [jL hk,hk]
  cases o <;> cases o' <;> first | rfl | exact absurd rfl (h1 _ _) | exact absurd rfl (h2 _ _) | exact absurd rfl (h3 _ _) | exact absurd rfl (h4 _ _)
 ·rw [qR hj]

theorem Tr.write {c : Cx} {H : Heap} {k : Nat} {o o' : HO} {cur cs : Array Value} {ty : Nat} (hr : HR c H) (hk : hget H k = some o)
  (_hg : c.w.heap[c.ρ k]? = some (.cells cur ty)) (hb : ∀ d : Cx,aB d (k,o) = some (d.ρ k)) (hb' : ∀ d : Cx,aB d (k,o') = some (d.ρ k)) (him : ∀ x,¬ c.Im (c.ρ k) x)
  (h1 : ∀ s n,o ≠ .tok s n) (h2 : ∀ s n,o' ≠ .tok s n)
  (hok : o'.Ok { c with w:=c.w.setRow (c.ρ k) cs } k) : Tr c H { c with w:=c.w.setRow (c.ρ k) cs } (hset H k o'):=by
 have hother : ∀ b,b ≠ c.ρ k -> (c.w.setRow (c.ρ k) cs).heap[b]? = c.w.heap[b]?:=fun b hb=>setRow_other c.w _ b _ hb
 refine Tr.set hr hk ⟨fun b x h=>⟨h,?_⟩,Nat.le_refl _,fun _ _=>rfl,fun _ _ _ h=>.inl ⟨h,rfl⟩⟩ rfl ?_ (fun _ _=>rfl) rfl rfl rfl (by simp [World.setRow]) (fun b hb' hn=>hother b ?_) (fun b x h=>.inl h) (fun b h=>.inr ?_) hok
 ·exact gG (hother b (fun e=>him x (e ▸ h)))
 ·rw [iP hk h1 h2 (by rintro s l rfl; have:=hb { c with tk:=fun _=>(none,0) }; simp [aB] at this) (by rintro s l rfl; have:=hb' { c with tk:=fun _=>(none,0) }; simp [aB] at this)]; exact hr.tp
 ·intro e; exact hn (by rw [hb,e])
 ·rw [hb'] at h; rw [hb]; exact h

end Go.AL

namespace Go.AL

theorem OH {c : Cx} {s : Nat} {cs : List Value} (h : VR c .aV cs) : Rd c.w c.Im (.sl s [] .no) cs:=by
 simp only [VR,Rd] at h ⊢
 exact ⟨by simp [maxL],.inl ⟨trivial,h⟩⟩

theorem Zo {c : Cx} {s : Nat} {l : List AV} {t : Tk} {cs : List Value} (h : VR c (.sl s l t) cs) : Rd c.w c.Im (.sl s l .no) cs:=by
 cases t with
 | no=>simpa only [VR] using h
 | full=>simp only [VR] at h; exact h.1
 | own k=>simp only [VR] at h; exact h.2.1

theorem gY : ∀ {l m : List AV},gq l m -> l.length = m.length
 | [],[],_=>rfl
 | [],_ :: _,h=>by simp only [gq] at h
 | _ :: _,[],h=>by simp only [gq] at h
 | x :: l,y :: m,h=>by simp only [gq] at h; simp [gY h.2]

theorem Tz {A B : AV} (h : pK A B) : dn B = dn A:=by
 cases A with
 | ag l=>cases B <;> simp only [pK] at h <;> first | rfl | cases h
 | sl s l t=>cases B <;> first | rfl | (cases t <;> simp only [pK] at h <;> cases h)
 | _=>cases B <;> first | rfl | (simp only [pK] at h; cases h)

theorem TF {A B : AV} (h : le0 A B) : dn B = dn A:=by
 cases A with
 | ag l=>cases B <;> simp only [le0] at h <;> first | rfl | cases h
 | sl s l t=>cases B <;> first | rfl | (cases t <;> simp only [le0] at h <;> cases h)
 | _=>cases B <;> first | rfl | (simp only [le0] at h; cases h)

theorem Fz {A B : AV} {v : Value} (h : dn B = dn A) (hs : dQ A v) : dQ B v:=by
 unfold dQ at *; rw [h]; exact hs

set_option maxHeartbeats 1600000 in
theorem dH {w : World} {Im : Nat -> Nat -> Prop} {A B : AV} {cs : List Value} (h1 : ∀ l,A ≠ .ag l) (h2 : ∀ t x,A ≠ .jh t x) (h3 : ∀ s l t,A ≠ .sl s l t) (h : pK A B) (hr : Rd w Im A cs) : Rd w Im B cs:=by
 cases A with
 | ag l=>exact absurd rfl (h1 l)
 | jh t x=>exact absurd rfl (h2 t x)
 | sl s l t=>exact absurd rfl (h3 s l t)
 | aV =>
   cases B with
   | sl s' l' t' =>
     cases t' with
     | no=>simp only [pK] at h; subst h; simp only [Rd] at hr ⊢; exact ⟨by simp [maxL],.inl ⟨trivial,hr⟩⟩
     | full=>simp only [pK] at h; cases h
     | own k=>simp only [pK] at h; cases h
   | aV=>exact hr
   | _=>simp only [pK] at h; cases h
 | tt =>
   cases B <;> simp only [pK] at h <;> first
    | exact hr
    | (subst h; exact hr)
    | (cases h; done)
    | (simp only [Rd] at hr ⊢; exact ⟨true,hr,by simpa using h⟩)
 | ff =>
   cases B <;> simp only [pK] at h <;> first
    | exact hr
    | (subst h; exact hr)
    | (cases h; done)
    | (simp only [Rd] at hr ⊢; exact ⟨false,hr,by simpa using h⟩)
 | bool x =>
   cases B <;> simp only [pK] at h <;> first
    | (subst h; exact hr)
    | (cases h; done)
    | (simp only [Rd] at hr ⊢; exact ⟨x,hr,h⟩)
 | dec p =>
   cases B with
   | bool b =>
     simp only [pK] at h
     simp only [Rd] at hr ⊢
     obtain ⟨b',h1,h2⟩:=hr
     rw [h1,Bool.eq_iff_iff.2 (h2.trans h)]
   | dec q =>
     simp only [pK] at h
     simp only [Rd] at hr ⊢
     obtain ⟨b',h1,h2⟩:=hr
     exact ⟨b',h1,h2.trans h⟩
   | tt =>
     simp only [pK] at h
     simp only [Rd] at hr ⊢
     obtain ⟨b',h1,h2⟩:=hr
     rw [h1,h2.2 h]
   | ff =>
     simp only [pK] at h
     simp only [Rd] at hr ⊢
     obtain ⟨b',h1,h2⟩:=hr
     cases b' with
     | true=>exact absurd (h2.1 rfl) h
     | false=>exact h1
   | _=>simp only [pK] at h; cases h
 | int k n =>
   cases B with
   | int k' n'=>simp only [pK] at h; obtain ⟨rfl,rfl⟩:=h; exact hr
   | _=>simp only [pK] at h; cases h
 | str k =>
   cases B with
   | str k'=>simp only [pK] at h; subst h; exact hr
   | _=>simp only [pK] at h; cases h
 | _=>cases B <;> simp only [pK] at h <;> first | exact hr | (cases h; exact hr) | (cases h; done)

mutual
theorem CZ {w : World} {Im : Nat -> Nat -> Prop} : ∀ (A B : AV) (cs : List Value),pK A B -> Rd w Im A cs -> Rd w Im B cs
 | .ag l,B,cs,h,hr=>by
   cases B with
   | ag m =>
     simp only [pK] at h
     simp only [Rd] at hr ⊢
     exact JH l m cs h hr
   | _=>simp only [pK] at h; cases h
 | .jh t x,B,cs,h,hr=>by
   cases B with
   | jh t' y =>
     simp only [pK] at h
     simp only [Rd] at hr ⊢
     obtain ⟨rfl,h⟩:=h
     obtain ⟨v,h1,h2,h3⟩:=hr
     exact ⟨v,h1,Fz (Tz h) h2,CZ x y _ h h3⟩
   | _=>simp only [pK] at h; cases h
 | .sl s l .full,B,cs,h,hr=>by simp only [Rd] at hr
 | .sl s l (.own k),B,cs,h,hr=>by simp only [Rd] at hr
 | .sl s l .no,B,cs,h,hr=>by
   cases B with
   | sl s' l' t' =>
     cases t' with
     | no =>
       simp only [pK] at h
       obtain ⟨rfl,h⟩:=h
       have hl:=gY h
       simp only [Rd] at hr ⊢
       rw [<- hl]
       refine ⟨hr.1,hr.2.imp ?_ ?_⟩
       ·rintro ⟨rfl,h2⟩
        exact ⟨List.eq_nil_of_length_eq_zero (by simpa using hl.symm),h2⟩
       ·rintro ⟨a,cap,h1,h2,h3,h4,h5⟩
        refine ⟨a,cap,h1,h2,h3,fun hne=>h4 fun e=>hne ?_,JI l l' _ _ _ h h5⟩
        subst e; exact List.eq_nil_of_length_eq_zero (by simpa using hl.symm)
     | full=>simp only [pK] at h; cases h
     | own k=>simp only [pK] at h; cases h
   | _=>simp only [pK] at h; cases h
 | .bool _,_,_,h,hr=>dH (by simp) (by simp) (by simp) h hr
 | .tt,_,_,h,hr=>dH (by simp) (by simp) (by simp) h hr
 | .ff,_,_,h,hr=>dH (by simp) (by simp) (by simp) h hr
 | .dec _,_,_,h,hr=>dH (by simp) (by simp) (by simp) h hr
 | .int _ _,_,_,h,hr=>dH (by simp) (by simp) (by simp) h hr
 | .str _,_,_,h,hr=>dH (by simp) (by simp) (by simp) h hr
 | .bH,_,_,h,hr=>dH (by simp) (by simp) (by simp) h hr
 | .aV,_,_,h,hr=>dH (by simp) (by simp) (by simp) h hr
 | .ms _ _ _ _ _,_,_,h,hr=>dH (by simp) (by simp) (by simp) h hr
 | .dA _,_,_,h,hr=>dH (by simp) (by simp) (by simp) h hr
 | .ptr _ _ _,_,_,h,hr=>dH (by simp) (by simp) (by simp) h hr
 | .cp _,_,_,h,hr=>dH (by simp) (by simp) (by simp) h hr
 | .fJ,_,_,h,hr=>dH (by simp) (by simp) (by simp) h hr
 | .fn _ _,_,_,h,hr=>dH (by simp) (by simp) (by simp) h hr
 | .aZ,_,_,h,hr=>dH (by simp) (by simp) (by simp) h hr
 | .mp _,_,_,h,hr=>dH (by simp) (by simp) (by simp) h hr
 | .gs _ _,_,_,h,hr=>dH (by simp) (by simp) (by simp) h hr
 | .bm _ _,_,_,h,hr=>dH (by simp) (by simp) (by simp) h hr
 | .jQ,_,_,h,hr=>dH (by simp) (by simp) (by simp) h hr
 | .und,_,_,h,hr=>dH (by simp) (by simp) (by simp) h hr
theorem JH {w : World} {Im : Nat -> Nat -> Prop} : ∀ (l m : List AV) (cs : List Value),gq l m -> kX w Im l cs -> kX w Im m cs
 | [],[],_,_,hr=>hr
 | [],_ :: _,_,h,_=>by simp only [gq] at h
 | _ :: _,[],_,h,_=>by simp only [gq] at h
 | x :: l,y :: m,cs,h,hr=>by
   simp only [gq] at h
   simp only [kX] at hr ⊢
   obtain ⟨a,d,h1,h2,h3⟩:=hr
   exact ⟨a,d,h1,CZ x y a h.1 h2,JH l m d h.2 h3⟩
theorem JI {w : World} {Im : Nat -> Nat -> Prop} : ∀ (l m : List AV) (sz b off : Nat),gq l m -> qG w Im sz b l off -> qG w Im sz b m off
 | [],[],_,_,_,_,hr=>hr
 | [],_ :: _,_,_,_,h,_=>by simp only [gq] at h
 | _ :: _,[],_,_,_,h,_=>by simp only [gq] at h
 | x :: l,y :: m,sz,b,off,h,hr=>by
   simp only [gq] at h
   simp only [qG] at hr ⊢
   obtain ⟨⟨a,h1,h2,h3⟩,h4⟩:=hr
   exact ⟨⟨a,h1,h2,CZ x y a h.1 h3⟩,JI l m sz b _ h.2 h4⟩
end

theorem uh {c : Cx} {sz : Nat} : ∀ {l m : List AV} {cs : List Value},gq l m -> zM c sz l cs -> zM c sz m cs
 | [],[],_,_,h=>h
 | [],_ :: _,_,h,_=>by simp only [gq] at h
 | _ :: _,[],_,h,_=>by simp only [gq] at h
 | x :: l,y :: m,cs,h,hr=>by
   simp only [gq] at h
   obtain ⟨a,d,h1,h2,h3,h4⟩:=hr
   exact ⟨a,d,h1,h2,CZ x y _ h.1 h3,uh h.2 h4⟩

theorem Ia {w : World} {Im : Nat -> Nat -> Prop} {s : Nat} {l m : List AV} {cs : List Value} (h : gq l m) (hr : Rd w Im (.sl s l .no) cs) : Rd w Im (.sl s m .no) cs :=
 CZ _ _ _ (by simp only [pK]; exact ⟨trivial,h⟩) hr

set_option maxHeartbeats 1600000 in
theorem dB {c : Cx} {A B : AV} {cs : List Value} (hA : dn A = false) (hI : ∀ t x,A ≠ .jh t x) (h : le0 A B) (hr : VR c A cs) : VR c B cs /\ dn B = false:=by
 cases A with
 | ag l=>cases hA
 | jh t x=>exact absurd rfl (hI t x)
 | sl s l t =>
   cases B with
   | sl s' l' t' =>
     cases t' with
     | no =>
       have h' : s = s' /\ gq l l':=by cases t <;> simpa only [le0] using h
       obtain ⟨e,h'⟩:=h'
       exact ⟨by simp only [VR]; exact e ▸ Ia h' (Zo hr),rfl⟩
     | full =>
       cases t with
       | full =>
         simp only [le0] at h
         obtain ⟨rfl,h⟩:=h
         simp only [VR] at hr ⊢
         exact ⟨⟨Ia h hr.1,by rw [<- gY h]; exact hr.2⟩,rfl⟩
       | _=>simp only [le0] at h; cases h
     | own k' =>
       cases t with
       | own k =>
         simp only [le0] at h
         obtain ⟨rfl,h,rfl⟩:=h
         simp only [VR] at hr ⊢
         exact ⟨⟨hr.1,Ia h hr.2.1,by rw [<- gY h]; exact hr.2.2⟩,rfl⟩
       | _=>simp only [le0] at h; cases h
   | _=>cases t <;> simp only [le0] at h <;> cases h
 | aV =>
   cases B with
   | sl s' l' t' =>
     cases t' with
     | no=>simp only [le0] at h; subst h; exact ⟨by simp only [VR]; exact OH hr,rfl⟩
     | full =>
       simp only [le0] at h; subst h
       refine ⟨?_,rfl⟩
       simp only [VR]
       refine ⟨OH hr,none,?_⟩
       simp only [VR,Rd] at hr
       simpa using hr
     | own k=>simp only [le0] at h; cases h
   | aV=>exact ⟨hr,rfl⟩
   | _=>simp only [le0] at h; cases h
 | tt =>
   cases B <;> simp only [le0] at h <;> first
    | exact ⟨hr,rfl⟩
    | (subst h; exact ⟨hr,rfl⟩)
    | (cases h; done)
    | (refine ⟨?_,rfl⟩; simp only [VR,Rd] at hr ⊢; exact ⟨true,hr,by simpa using h⟩)
 | ff =>
   cases B <;> simp only [le0] at h <;> first
    | exact ⟨hr,rfl⟩
    | (subst h; exact ⟨hr,rfl⟩)
    | (cases h; done)
    | (refine ⟨?_,rfl⟩; simp only [VR,Rd] at hr ⊢; exact ⟨false,hr,by simpa using h⟩)
 | bool x =>
   cases B <;> simp only [le0] at h <;> first
    | (subst h; exact ⟨hr,rfl⟩)
    | (cases h; done)
    | (refine ⟨?_,rfl⟩; simp only [VR,Rd] at hr ⊢; exact ⟨x,hr,h⟩)
 | dec p =>
   cases B with
   | bool b =>
     simp only [le0] at h
     simp only [VR,Rd] at hr ⊢
     obtain ⟨b',h1,h2⟩:=hr
     refine ⟨?_,rfl⟩
     rw [h1,Bool.eq_iff_iff.2 (h2.trans h)]
   | dec q =>
     simp only [le0] at h
     simp only [VR,Rd] at hr ⊢
     obtain ⟨b',h1,h2⟩:=hr
     exact ⟨⟨b',h1,h2.trans h⟩,rfl⟩
   | tt =>
     simp only [le0] at h
     simp only [VR,Rd] at hr ⊢
     obtain ⟨b',h1,h2⟩:=hr
     exact ⟨by rw [h1,h2.2 h],rfl⟩
   | ff =>
     simp only [le0] at h
     simp only [VR,Rd] at hr ⊢
     obtain ⟨b',h1,h2⟩:=hr
     refine ⟨?_,rfl⟩
     cases b' with
     | true=>exact absurd (h2.1 rfl) h
     | false=>exact h1
   | _=>simp only [le0] at h; cases h
 | int k n =>
   cases B with
   | int k' n'=>simp only [le0] at h; obtain ⟨rfl,rfl⟩:=h; exact ⟨hr,rfl⟩
   | _=>simp only [le0] at h; cases h
 | str k =>
   cases B with
   | str k'=>simp only [le0] at h; subst h; exact ⟨hr,rfl⟩
   | _=>simp only [le0] at h; cases h
 | _=>cases B <;> simp only [le0] at h <;> first | exact ⟨hr,rfl⟩ | (cases h; exact ⟨hr,rfl⟩) | (cases h; done)

mutual
theorem Dc {c : Cx} : ∀ (A B : AV) (cs : List Value),le0 A B -> VR c A cs -> VR c B cs /\ dn B = dn A
 | .ag l,B,cs,h,hr=>by
   cases B with
   | ag m =>
     simp only [le0] at h
     simp only [VR] at hr ⊢
     exact ⟨OT l m cs h hr,rfl⟩
   | _=>simp only [le0] at h; cases h
 | .bool _,_,_,h,hr=>dB rfl (by simp) h hr
 | .tt,_,_,h,hr=>dB rfl (by simp) h hr
 | .ff,_,_,h,hr=>dB rfl (by simp) h hr
 | .dec _,_,_,h,hr=>dB rfl (by simp) h hr
 | .int _ _,_,_,h,hr=>dB rfl (by simp) h hr
 | .str _,_,_,h,hr=>dB rfl (by simp) h hr
 | .bH,_,_,h,hr=>dB rfl (by simp) h hr
 | .jh t x,B,cs,h,hr=>by
   cases B with
   | jh t' y =>
     simp only [le0] at h
     simp only [VR] at hr ⊢
     obtain ⟨rfl,h⟩:=h
     obtain ⟨v,h1,h2,h3⟩:=hr
     exact ⟨⟨v,h1,Fz (TF h) h2,(Dc x y _ h h3).1⟩,rfl⟩
   | _=>simp only [le0] at h; cases h
 | .aV,_,_,h,hr=>dB rfl (by simp) h hr
 | .sl _ _ _,_,_,h,hr=>dB rfl (by simp) h hr
 | .ms _ _ _ _ _,_,_,h,hr=>dB rfl (by simp) h hr
 | .dA _,_,_,h,hr=>dB rfl (by simp) h hr
 | .ptr _ _ _,_,_,h,hr=>dB rfl (by simp) h hr
 | .cp _,_,_,h,hr=>dB rfl (by simp) h hr
 | .fJ,_,_,h,hr=>dB rfl (by simp) h hr
 | .fn _ _,_,_,h,hr=>dB rfl (by simp) h hr
 | .aZ,_,_,h,hr=>dB rfl (by simp) h hr
 | .mp _,_,_,h,hr=>dB rfl (by simp) h hr
 | .gs _ _,_,_,h,hr=>dB rfl (by simp) h hr
 | .bm _ _,_,_,h,hr=>dB rfl (by simp) h hr
 | .jQ,_,_,h,hr=>dB rfl (by simp) h hr
 | .und,_,_,h,hr=>dB rfl (by simp) h hr
theorem OT {c : Cx} : ∀ (l m : List AV) (cs : List Value),ER l m -> lg c l cs -> lg c m cs
 | [],[],_,_,hr=>hr
 | [],_ :: _,_,h,_=>by simp only [ER] at h
 | _ :: _,[],_,h,_=>by simp only [ER] at h
 | x :: l,y :: m,cs,h,hr=>by
   simp only [ER] at h
   simp only [lg] at hr ⊢
   obtain ⟨a,d,h1,h2,h3⟩:=hr
   exact ⟨a,d,h1,(Dc x y a h.1 h2).1,OT l m d h.2 h3⟩
end

theorem zi {c : Cx} {A B : AV} {v : Value} (h : le0 A B) (hv : VV c A v) : VV c B v:=by
 obtain ⟨h1,h2⟩:=Dc A B _ h hv.2
 exact ⟨⟨fun hb=>hv.1.1 (by rw [<- h2]; exact hb),fun hb=>hv.1.2 (by rw [<- h2]; exact hb)⟩,h1⟩

theorem TB {c : Cx} : ∀ {l m : List AV} {vs : List Value},ER l m -> VA c l vs -> VA c m vs
 | [],[],_,_,hr=>hr
 | [],_ :: _,_,h,_=>by simp only [ER] at h
 | _ :: _,[],_,h,_=>by simp only [ER] at h
 | x :: l,y :: m,vs,h,hr=>by
   simp only [ER] at h
   simp only [VA] at hr ⊢
   obtain ⟨v,r,h1,h2,h3,h4⟩:=hr
   have:=zi h.1 ⟨h2,h3⟩
   exact ⟨v,r,h1,this.1,this.2,TB h.2 h4⟩

theorem Tv {c : Cx} {A B : AV} {v : Value} (h : le A B) (hv : EV c A v) : EV c B v:=by
 cases A with
 | dA l =>
   cases B with
   | und=>trivial
   | dA m =>
     obtain ⟨vs,h1,h2⟩:=hv
     exact ⟨vs,h1,TB h h2⟩
   | _=>simp only [le,le0] at h; cases h
 | und =>
   cases B with
   | und=>trivial
   | _=>simp only [le,le0] at h; cases h
 | _ =>
   have hv : VV c _ v:=hv
   cases B with
   | und=>trivial
   | _=>exact aS (zi h hv)

def Cx.cut (c : Cx) (G : Heap) : Cx:={ c with nx:=nextId G,tp:=dw G }

mutual
theorem Eu {c : Cx} {G : Heap} (htp : ∀ k n,dw G k = some n -> c.tp k = some n) : ∀ (A : AV) (cs : List Value),dD (nextId G) A = true -> VR c A cs -> VR (c.cut G) A cs
 | .bool _,_,_,hr=>by simp only [VR] at hr ⊢; exact hr
 | .tt,_,_,hr=>by simp only [VR] at hr ⊢; exact hr
 | .ff,_,_,hr=>by simp only [VR] at hr ⊢; exact hr
 | .dec _,_,_,hr=>by simp only [VR] at hr ⊢; exact hr
 | .int _ _,_,_,hr=>by simp only [VR] at hr ⊢; exact hr
 | .str _,_,_,hr=>by simp only [VR] at hr ⊢; exact hr
 | .bH,_,_,hr=>by simp only [VR] at hr ⊢; exact hr
 | .jh t x,cs,hb,hr=>by
   simp only [VR] at hr ⊢
   obtain ⟨v,h1,h2,h3⟩:=hr
   exact ⟨v,h1,h2,Eu htp x _ (by simpa only [dD] using hb) h3⟩
 | .aV,_,_,hr=>by simp only [VR] at hr ⊢; exact hr
 | .sl _ _ .no,_,_,hr=>by simp only [VR] at hr ⊢; exact hr
 | .sl _ _ .full,_,_,hr=>by simp only [VR] at hr ⊢; exact hr
 | .sl sz l (.own k),cs,hb,hr=>by
   simp only [VR] at hr ⊢
   obtain ⟨h1,h2,h3⟩:=hr
   simp only [dD] at hb
   exact ⟨Nat.le_of_ble_eq_true hb,h2,fun n hn=>h3 n (htp k n hn)⟩
 | .ms k _ _ _ _,_,hb,hr=>by
   simp only [VR] at hr ⊢
   simp only [dD] at hb
   exact ⟨Nat.le_of_ble_eq_true hb,hr.2⟩
 | .ag l,cs,hb,hr=>by
   simp only [VR] at hr ⊢
   exact PE htp l cs (by simpa only [dD] using hb) hr
 | .dA _,_,_,hr=>by simp only [VR] at hr ⊢; exact hr
 | .ptr k _ _,_,hb,hr=>by
   simp only [VR] at hr ⊢
   simp only [dD] at hb
   exact ⟨Nat.le_of_ble_eq_true hb,hr.2⟩
 | .cp x,cs,_,hr=>by simp only [VR] at hr ⊢; exact hr
 | .fJ,_,_,hr=>by simp only [VR] at hr ⊢; exact hr
 | .fn f cap,cs,hb,hr=>by
   simp only [VR] at hr ⊢
   obtain ⟨vs,h1,h2⟩:=hr
   exact ⟨vs,h1,NW htp cap vs (by simpa only [dD] using hb) h2⟩
 | .aZ,_,_,hr=>by simp only [VR] at hr ⊢; exact hr
 | .mp k,_,hb,hr=>by
   simp only [VR] at hr ⊢
   simp only [dD] at hb
   exact ⟨Nat.le_of_ble_eq_true hb,hr.2⟩
 | .bm f k,_,hb,hr=>by
   simp only [VR] at hr ⊢
   simp only [dD] at hb
   exact ⟨Nat.le_of_ble_eq_true hb,hr.2⟩
 | .gs k len,_,hb,hr=>by
   simp only [VR] at hr ⊢
   simp only [dD] at hb
   exact ⟨Nat.le_of_ble_eq_true hb,hr.2.1,fun n hn=>hr.2.2 n (htp k n hn)⟩
 | .jQ,_,_,hr=>by simp only [VR] at hr ⊢; exact hr
 | .und,_,_,hr=>by simp only [VR] at hr ⊢; exact hr
theorem PE {c : Cx} {G : Heap} (htp : ∀ k n,dw G k = some n -> c.tp k = some n) : ∀ (l : List AV) (cs : List Value),fH (nextId G) l = true -> lg c l cs -> lg (c.cut G) l cs
 | [],_,_,hr=>by simpa only [lg] using hr
 | x :: l,cs,hb,hr=>by
   simp only [lg] at hr ⊢
   simp only [fH] at hb
   obtain ⟨a,e,h1,h2,h3⟩:=hr
   cases hx : dD (nextId G) x with
   | false=>rw [hx] at hb; cases hb
   | true=>rw [hx] at hb; exact ⟨a,e,h1,Eu htp x _ hx h2,PE htp l _ hb h3⟩
theorem NW {c : Cx} {G : Heap} (htp : ∀ k n,dw G k = some n -> c.tp k = some n) : ∀ (l : List AV) (vs : List Value),fH (nextId G) l = true -> VA c l vs -> VA (c.cut G) l vs
 | [],_,_,hr=>by simpa only [VA] using hr
 | x :: l,vs,hb,hr=>by
   simp only [VA] at hr ⊢
   simp only [fH] at hb
   obtain ⟨v,r,h1,h2,h3,h4⟩:=hr
   cases hx : dD (nextId G) x with
   | false=>rw [hx] at hb; cases hb
   | true=>rw [hx] at hb; exact ⟨v,r,h1,h2,Eu htp x _ hx h3,NW htp l _ hb h4⟩
end

theorem Es {c : Cx} {G : Heap} (htp : ∀ k n,dw G k = some n -> c.tp k = some n) {A : AV} {v : Value} (hb : dD (nextId G) A = true) (h : VV c A v) : VV (c.cut G) A v:=⟨h.1,Eu htp _ _ hb h.2⟩

theorem EN {c : Cx} {G : Heap} (htp : ∀ k n,dw G k = some n -> c.tp k = some n) {A : AV} {v : Value} (hb : dD (nextId G) A = true) (h : EV c A v) : EV (c.cut G) A v:=by
 cases A <;> first
  | exact Es htp hb h
  | trivial
  | (obtain ⟨vs,h1,h2⟩:=h; exact ⟨vs,h1,NW htp _ _ (by simpa only [dD] using hb) h2⟩)

theorem Pz {c : Cx} {G : Heap} (htp : ∀ k n,dw G k = some n -> c.tp k = some n) : ∀ {l : List (AV × AV)} {es : List MapEntry},wJ (nextId G) l = true -> Aw c l es -> Aw (c.cut G) l es
 | [],_,_,hr=>hr
 | (x,y) :: l,es,hb,hr=>by
   obtain ⟨e,r,h1,h2,h3,h4⟩:=hr
   simp only [wJ] at hb
   cases hx : dD (nextId G) x with
   | false=>rw [hx] at hb; cases hb
   | true =>
     cases hy : dD (nextId G) y with
     | false=>rw [hx,hy] at hb; cases hb
     | true=>rw [hx,hy] at hb; exact ⟨e,r,h1,Es htp hx h2,Es htp hy h3,Pz htp hb h4⟩

theorem BH {H : Heap} {n : Nat} : ∀ {G : Heap},Zg H n G -> ∀ k o,(k,o) ∈ G -> ∃ o',hget H k = some o' /\ LV o' o /\ (match o with | .iK _ es=>wJ n es = true | o=>NK n o = true)
 | [],_,_,_,hm=>by simp at hm
 | (i,x) :: G,h,k,o,hm=>by
   simp only [Zg] at h
   rcases List.mem_cons.1 hm with hm | hm
   ·simp at hm
    obtain ⟨rfl,rfl⟩:=hm
    obtain ⟨o',h1,h2⟩:=cZ.1 h.1
    exact ⟨o',h1,h2⟩
   ·exact BH h.2 k o hm

theorem Ib {o : HO} {s n : Nat} (h : LV o (.tok s n)) : o = .tok s n:=by
 cases o <;> simp only [LV] at h
 obtain ⟨rfl,rfl⟩:=h; rfl

theorem JJ {o : HO} {s : Nat} {l : List AV} (h : LV o (.dU s l)) : ∃ l',o = .dU s l' /\ gq l' l:=by
 cases o <;> simp only [LV] at h
 obtain ⟨rfl,h⟩:=h; exact ⟨_,rfl,h⟩

theorem Oc.tp {H G : Heap} (h : Oc H G) : ∀ k n,dw G k = some n -> dw H k = some n:=by
 intro k n hn
 unfold dw at hn ⊢
 cases hg : hget G k with
 | none=>simp [hg] at hn
 | some o =>
   rw [hg] at hn
   obtain ⟨o',h1,h2,_⟩:=BH h.get k _ (gW hg)
   cases o <;> simp at hn
   ·subst hn
    obtain rfl:=Ib h2
    rw [h1]
   ·subst hn
    obtain ⟨l',rfl,h3⟩:=JJ h2
    rw [h1]; simp [gY h3]

theorem OQ {c d : Cx} {k : Nat} {o' o : HO} (hρ : d.ρ = c.ρ) (ht : d.tk = c.tk) (h : LV o' o) {b : Nat} (hb : aB d (k,o) = some b) : aB c (k,o') = some b:=by
 cases o with
 | gone=>simp [aB] at hb
 | glob _ _=>simp [aB] at hb
 | tok s n =>
   obtain rfl:=Ib h
   simp only [aB,ht] at hb ⊢; exact hb
 | _=>cases o' <;> simp only [LV] at h <;> simp only [aB,hρ,ht] at hb ⊢ <;> exact hb

theorem Ic {c : Cx} : ∀ {l m : List (AV × AV)} {es : List MapEntry},TA l m -> Aw c l es -> Aw c m es
 | [],[],_,_,h=>h
 | [],_ :: _,_,h,_=>by simp only [TA] at h
 | _ :: _,[],_,h,_=>by simp only [TA] at h
 | (x,v) :: l,(y,u) :: m,es,h,hr=>by
   simp only [TA] at h
   obtain ⟨rfl,h1,h2⟩:=h
   obtain ⟨e,r,g1,g2,g3,g4⟩:=hr
   exact ⟨e,r,g1,g2,zi h1 g3,Ic h2 g4⟩

theorem Ie {sh : AV} : ∀ {l m : List (AV × AV)},TA l m -> LM sh l -> LM sh m
 | [],[],_,h=>h
 | [],_ :: _,h,_=>by simp only [TA] at h
 | _ :: _,[],h,_=>by simp only [TA] at h
 | (x,v) :: l,(y,u) :: m,h,hr=>by
   simp only [TA] at h
   obtain ⟨rfl,h1,h2⟩:=h
   exact ⟨hr.1,Ie h2 hr.2⟩

theorem Tr.cut {c0 c : Cx} {H0 H G : Heap} (htr : Tr c0 H0 c H) (hw : Oc H G) (hn : c0.nx <= nextId G) : Tr c0 H0 (c.cut G) G:=by
 have htp : ∀ k n,dw G k = some n -> c.tp k = some n:=fun k n h=>by rw [htr.hr.tp]; exact hw.tp k n h
 have hmem : ∀ x ∈ G,∃ o',(x.1,o') ∈ H /\ LV o' x.2 /\ ∀ b,aB (c.cut G) x = some b -> aB c (x.1,o') = some b:=by
  rintro ⟨k,o⟩ hx
  obtain ⟨o',h1,h2,_⟩:=BH hw.get k o hx
  exact ⟨o',gW h1,h2,fun b hb=>OQ (d:=c.cut G) rfl rfl h2 hb⟩
 refine ⟨⟨rfl,rfl,hw.ids,htr.hr.im,?_,?_⟩,⟨htr.le.im,hn,htr.le.ρ,fun k n hk h=>htr.le.tk k n hk (htp k n h)⟩,htr.os,htr.tape,htr.output,htr.size,htr.fr,?_,htr.VJ⟩
 ·rintro ⟨k,o⟩ hx
  obtain ⟨o',h1,h2,h3⟩:=BH hw.get k o hx
  have hok:=htr.hr.oK h1
  by_cases JR : o = .gone
  ·subst JR; trivial
  cases o' <;> cases o <;> simp only [LV] at h2 <;> first | exact absurd rfl JR | skip
  ·obtain ⟨cs,ty,g1,g2,g3⟩:=hok
   simp only [NK] at h3
   exact ⟨cs,ty,g1,Eu htp _ _ h3 (Dc _ _ _ h2 g2).1,g3⟩
  ·obtain ⟨rfl,rfl,h2⟩:=h2
   obtain ⟨cs,ty,g1,g2,g3,g4,g5,g6⟩:=hok
   have hv : ∀ {sz : Nat} {l : List AV} {cs : List Value},zM c sz l cs -> zM (c.cut G) sz l cs:=by
    intro sz l
    induction l with
    | nil=>intros; trivial
    | cons x l ih=>rintro cs ⟨a,d,h1,h2,h3,h4⟩; exact ⟨a,d,h1,h2,h3,ih h4⟩
   exact ⟨cs,ty,g1,g2,by rw [<- gY h2]; exact g3,g4,hv (uh h2 g5),g6⟩
  ·obtain ⟨rfl,rfl⟩:=h2
   exact hok
  ·obtain ⟨rfl,h2⟩:=h2
   obtain ⟨ents,clock,g1,g2,g3,g4⟩:=hok
   exact ⟨ents,clock,g1,Pz htp h3 (Ic h2 g2),Ie h2 g3,g4⟩
  ·obtain ⟨rfl,h2⟩:=h2
   have hv : ∀ {sz : Nat} {l : List AV} {cs : List Value},zM c sz l cs -> zM (c.cut G) sz l cs:=by
    intro sz l
    induction l with
    | nil=>intros; trivial
    | cons x l ih=>rintro cs ⟨a,d,h1,h2,h3,h4⟩; exact ⟨a,d,h1,h2,h3,ih h4⟩
   have hl:=gY h2
   rcases hok with ⟨g1,g2,g3⟩ | ⟨b,cs,ty,g1,g2,g3,g4,g5,g6,g7⟩
   ·subst g3; exact .inl ⟨g1,g2,List.length_eq_zero_iff.1 (by rw [<- hl]; rfl)⟩
   ·exact .inr ⟨b,cs,ty,g1,g2,g3,by rw [<- hl]; exact g4,g5,hv (uh h2 g6),g7⟩
  ·obtain ⟨rfl,rfl⟩:=h2
   exact hok
 ·refine eP hw.ids fun x hx y hy hne b hb hb'=>?_
  obtain ⟨o1,h1,_,e1⟩:=hmem x hx
  obtain ⟨o2,h2,_,e2⟩:=hmem y hy
  exact htr.hr.apart' h1 h2 hne (e1 b hb) (e2 b hb')
 ·intro y hy b hb
  obtain ⟨o1,h1,_,e1⟩:=hmem y hy
  exact htr.own _ h1 b (e1 b hb)

theorem Po {e : Env} {n : Nat} : ∀ {E : Env},Fe e n E -> ∀ t A,(t,A) ∈ E -> ∃ A',dL e t = some A' /\ le A' A /\ dD n A = true
 | [],_,_,_,hm=>by simp at hm
 | (i,x) :: E,h,t,A,hm=>by
   simp only [Fe] at h
   rcases List.mem_cons.1 hm with hm | hm
   ·simp at hm
    obtain ⟨rfl,rfl⟩:=hm
    obtain ⟨A',h1,h2⟩:=gB.1 h.1
    exact ⟨A',h1,h2⟩
   ·exact Po h.2 t A hm

theorem Dt : ∀ {e : Env} {t : Nat} {A : AV},dL e t = some A -> (t,A) ∈ e
 | [],_,_,h=>by simp [dL] at h
 | (i,x) :: e,t,A,h=>by
   simp only [dL] at h
   cases hb : Nat.beq i t with
   | true =>
     rw [hb] at h
     obtain rfl:=Nat.eq_of_beq_eq_true hb
     simp at h; subst h; simp
   | false=>rw [hb] at h; exact List.mem_cons_of_mem _ (Dt h)

theorem IQ {c : Cx} {e E : Env} {G H : Heap} {a : Act} (he : fC c e a) (hr : HR c H) (hw : Oc H G) (h : Fe e (nextId G) E) : ∀ t A,(t,A) ∈ E -> EV (c.cut G) A (a.tmps.getD t undef):=by
 intro t A hm
 obtain ⟨A',h1,h2,h3⟩:=Po h t A hm
 exact EN (fun k n hn=>by rw [hr.tp]; exact hw.tp k n hn) h3 (Tv h2 (he t A' h1))

mutual
theorem nV : ∀ (A : AV),pK A A
 | .bool _ | .tt | .ff | .dec _ | .str _ | .bH | .aV | .ms _ _ _ _ _ | .dA _ | .ptr _ _ _ | .cp _ | .fJ | .fn _ _ | .aZ | .mp _ | .gs _ _ | .bm _ _ | .jQ | .und=>by simp [pK]
 | .jh t x=>⟨rfl,nV x⟩
 | .int _ _=>⟨rfl,rfl⟩
 | .sl _ l .no=>⟨rfl,bK l⟩
 | .sl _ l .full=>by simp [pK]
 | .sl _ l (.own _)=>by simp [pK]
 | .ag l=>bK l
theorem bK : ∀ (l : List AV),gq l l
 | []=>trivial
 | x :: l=>⟨nV x,bK l⟩
end

mutual
theorem sS : ∀ (A : AV),le0 A A
 | .bool _ | .tt | .ff | .dec _ | .str _ | .bH | .aV | .ms _ _ _ _ _ | .dA _ | .ptr _ _ _ | .cp _ | .fJ | .fn _ _ | .aZ | .mp _ | .gs _ _ | .bm _ _ | .jQ | .und=>by simp [le0]
 | .jh t x=>⟨rfl,sS x⟩
 | .int _ _=>⟨rfl,rfl⟩
 | .sl _ l .no=>⟨rfl,bK l⟩
 | .sl _ l .full=>⟨rfl,bK l⟩
 | .sl _ l (.own _)=>⟨rfl,bK l,rfl⟩
 | .ag l=>au l
theorem au : ∀ (l : List AV),ER l l
 | []=>trivial
 | x :: l=>⟨sS x,au l⟩
end

theorem le_refl (A : AV) : le A A:=by
 cases A <;> first | exact sS _ | exact au _ | trivial

mutual
theorem uf {c : Cx} : ∀ (A : AV) (cs : List Value),VR c A cs -> dD c.nx A = true
 | .bool _,_,_ | .tt,_,_ | .ff,_,_ | .dec _,_,_ | .int _ _,_,_ | .str _,_,_ | .bH,_,_ | .aV,_,_ | .cp _,_,_ | .fJ,_,_ | .aZ,_,_ | .jQ,_,_ | .und,_,_
 | .sl _ _ .no,_,_ | .sl _ _ .full,_,_=>rfl
 | .dA _,_,h=>by simp only [VR,Rd] at h
 | .jh t x,_,h=>by simp only [VR] at h; obtain ⟨v,_,_,h3⟩:=h; exact uf x _ h3
 | .sl _ _ (.own k),_,h=>by simp only [VR] at h; simpa [dD] using h.1
 | .ms _ _ _ _ _,_,h=>by simp only [VR] at h; simpa [dD] using h.1
 | .ptr _ _ _,_,h=>by simp only [VR] at h; simpa [dD] using h.1
 | .mp _,_,h=>by simp only [VR] at h; simpa [dD] using h.1
 | .gs _ _,_,h=>by simp only [VR] at h; simpa [dD] using h.1
 | .bm _ _,_,h=>by simp only [VR] at h; simpa [dD] using h.1
 | .ag l,_,h=>by simp only [VR] at h; exact PG l _ h
 | .fn _ cap,_,h=>by simp only [VR] at h; obtain ⟨vs,_,h2⟩:=h; exact Vl cap _ h2
theorem PG {c : Cx} : ∀ (l : List AV) (cs : List Value),lg c l cs -> fH c.nx l = true
 | [],_,_=>rfl
 | x :: l,_,h=>by
   simp only [lg] at h
   obtain ⟨a,d,_,h2,h3⟩:=h
   simp only [fH,uf x _ h2,PG l _ h3]
theorem Vl {c : Cx} : ∀ (l : List AV) (vs : List Value),VA c l vs -> fH c.nx l = true
 | [],_,_=>rfl
 | x :: l,_,h=>by
   simp only [VA] at h
   obtain ⟨v,r,_,_,h2,h3⟩:=h
   simp only [fH,uf x _ h2,Vl l _ h3]
end

theorem BL {c : Cx} : ∀ {l : List (AV × AV)} {es : List MapEntry},Aw c l es -> wJ c.nx l = true
 | [],_,_=>rfl
 | (x,y) :: l,_,h=>by
   obtain ⟨e,r,_,h2,h3,h4⟩:=h
   simp only [wJ,uf x _ h2.2,uf y _ h3.2,BL h4]

theorem IL {H : Heap} {n : Nat} : ∀ {G : Heap},(∀ k o,(k,o) ∈ G -> ∃ o',hget H k = some o' /\ LV o' o /\ (match o with | .iK _ es=>wJ n es = true | o=>NK n o = true)) -> Zg H n G
 | [],_=>trivial
 | (i,x) :: G,h=>⟨cZ.2 (h i x (by simp)),IL fun k o hm=>h k o (by simp [hm])⟩

theorem jR : ∀ (l : List (AV × AV)),TA l l
 | []=>trivial
 | (_,y) :: l=>⟨rfl,sS y,jR l⟩

theorem C9 (o : HO) : LV o o:=by
 cases o with
 | box A=>exact sS A
 | arr=>exact ⟨rfl,rfl,bK _⟩
 | tok=>exact ⟨rfl,rfl⟩
 | iK=>exact ⟨rfl,jR _⟩
 | dU=>exact ⟨rfl,bK _⟩
 | glob=>exact ⟨rfl,rfl⟩
 | gone=>trivial

theorem HWk.to0 {c : Cx} {H G : Heap} (h : HWk H G) (hr : HR c H) : Oc H G:=by
 cases h with
 | mk h1 h2=>exact ⟨h1,h2⟩
 | refl h =>
   subst h
   refine ⟨IL fun k o hm=>?_,hr.ids⟩
   have hok:=hr.ok _ hm
   refine ⟨o,lW hr.ids hm,C9 o,?_⟩
   rw [<- hr.nx]
   cases o with
   | box A=>obtain ⟨cs,ty,_,h2,_⟩:=hok; exact uf _ _ h2
   | iK sh es=>obtain ⟨ents,clock,_,h2,_⟩:=hok; exact BL h2
   | _=>rfl

end Go.AL
