/-
  A logic for calls of Go functions: values, weakening. Nothing is assumed.
-/
import Derived.Calls
import Derived.Laws.Sem
import Derived.Laws.World
import Derived.Defers
import Derived.Maps.Keyed
import Derived.Laws.AppendOwn
import Derived.Laws.MakeOwn

namespace Go.AL

def maxL : Nat:=9223372036854775807

inductive Tk where
 | no | full | own (k : Nat)
 deriving Inhabited

inductive AV where
 | bool (b : Bool) | tt | ff | dec (p : Prop)
 | int (k : IntKind) (n : Int)
 | str (s : List UInt8)
 | eP | jm (t : Nat) (x : AV)
 | aG | sl (sz : Nat) (l : List AV) (tok : Tk)
 | ms (k off len cap sz : Nat)
 | ag (l : List AV) | eG (l : List AV)
 | ptr (k : Nat) (path : List Nat) (off : Nat) | cp (x : AV) | gK
 | fn (f : Nat) (cap : List AV) | aH
 | mp (k : Nat) | iT
 | gs (k len : Nat)
 | bm (f k : Nat)
 | und
 deriving Inhabited

def dI : AV -> Bool
 | .ag _=>true
 | _=>false

mutual
def flat : AV -> Nat
 | .ag l=>iK l
 | _=>1
def iK : List AV -> Nat
 | []=>0
 | x :: l=>flat x + iK l
end

def jG (w : World) (Im : Nat -> Nat -> Prop) (b off : Nat) (cs : List Value) : Prop :=
 ∀ j v,cs[j]? = some v -> w.cell? ⟨b,off + j,none⟩ = some v /\ Im b (off + j)

def uN (k : IntKind) (n : Int) : Prop:=k.min <= n /\ n <= k.max

def eH (A : AV) (v : Value) : Prop :=
 (dI A = true -> ∃ cs,v = .agg cs) /\ (dI A = false -> v.cells = #[v])

mutual
def Rd (w : World) (Im : Nat -> Nat -> Prop) : AV -> List Value -> Prop
 | .bool b,cs=>cs = [.bool b]
 | .tt,cs=>cs = [.bool true]
 | .ff,cs=>cs = [.bool false]
 | .dec p,cs=>∃ b,cs = [.bool b] /\ (b = true ↔ p)
 | .int k n,cs=>cs = [.int k n] /\ uN k n
 | .str s,cs=>cs = [.string ⟨s.toArray⟩] /\ s.length <= maxL
 | .eP,cs=>cs = [.nilIface]
 | .jm t x,cs=>∃ v,cs = [.iface t v] /\ eH x v /\ Rd w Im x v.cells.toList
 | .aG,cs=>cs = [.slice none 0 0]
 | .sl sz l .no,cs=>l.length <= maxL /\ ((l = [] /\ cs = [.slice none 0 0]) \/
   ∃ a cap,cs = [.slice (some a) l.length cap] /\ l.length <= cap /\ cap <= maxL /\ (l ≠ [] -> a.spot = none) /\ su w Im sz a.block l a.off)
 | .cp x,cs=>∃ a ds,cs = [.pointer (some a)] /\ a.spot = none /\ jG w Im a.block a.off ds /\ Rd w Im x ds
 | .gK,cs=>cs = [.pointer none]
 | .fn f cap,cs=>∃ vs,cs = [.func (.func f) #[] vs.toArray] /\ Vk w Im cap vs
 | .aH,cs=>cs = [.nilFunc]
 | .iT,cs=>cs = [.map none]
 | .ag l,cs=>lM w Im l cs
 | _,_=>False
def lM (w : World) (Im : Nat -> Nat -> Prop) : List AV -> List Value -> Prop
 | [],cs=>cs = []
 | x :: l,cs=>∃ c d,cs = c ++ d /\ Rd w Im x c /\ lM w Im l d
def su (w : World) (Im : Nat -> Nat -> Prop) (sz b : Nat) : List AV -> Nat -> Prop
 | [],_=>True
 | x :: l,off=>(∃ cs,cs.length = sz /\ jG w Im b off cs /\ Rd w Im x cs) /\ su w Im sz b l (off + sz)
def Vk (w : World) (Im : Nat -> Nat -> Prop) : List AV -> List Value -> Prop
 | [],vs=>vs = []
 | x :: l,vs=>∃ v r,vs = v :: r /\ eH x v /\ Rd w Im x v.cells.toList /\ Vk w Im l r
end

structure Cx where
 w : World
 Im : Nat -> Nat -> Prop
 ρ : Nat -> Nat
 nx : Nat
 tk : Nat -> Option Addr × Nat
 tp : Nat -> Option Nat

mutual
def VR (c : Cx) : AV -> List Value -> Prop
 | .ptr k _ off,cs=>k < c.nx /\ cs = [.pointer (some ⟨c.ρ k,off,none⟩)]
 | .ms k off len cap sz,cs=>k < c.nx /\ cs = [.slice (some ⟨c.ρ k,off * sz,none⟩) len cap] /\ len <= cap /\ cap <= maxL
 | .sl sz l .full,cs=>Rd c.w c.Im (.sl sz l .no) cs /\ ∃ a,cs = [.slice a l.length l.length]
 | .sl sz l (.own k),cs=>k < c.nx /\ Rd c.w c.Im (.sl sz l .no) cs /\
   ∀ n,c.tp k = some n -> l.length <= n /\ (l.length = n -> cs = [.slice (c.tk k).1 n (c.tk k).2])
 | .mp k,cs=>k < c.nx /\ cs = [.map (some (c.ρ k))]
 | .bm f k,cs=>k < c.nx /\ cs = [.func (.func f) #[.pointer (some ⟨c.ρ k,0,none⟩)] #[]]
 | .gs k len,cs=>k < c.nx /\ (∃ a n m,cs = [.slice a n m]) /\ ∀ n,c.tp k = some n -> len <= n /\ (len = n -> cs = [.slice (c.tk k).1 n (c.tk k).2])
 | .fn f cap,cs=>∃ vs,cs = [.func (.func f) #[] vs.toArray] /\ VA c cap vs
 | .ag l,cs=>lS c l cs
 | .jm t x,cs=>∃ v,cs = [.iface t v] /\ eH x v /\ VR c x v.cells.toList
 | A,cs=>Rd c.w c.Im A cs
def lS (c : Cx) : List AV -> List Value -> Prop
 | [],cs=>cs = []
 | x :: l,cs=>∃ a d,cs = a ++ d /\ VR c x a /\ lS c l d
def VA (c : Cx) : List AV -> List Value -> Prop
 | [],vs=>vs = []
 | x :: l,vs=>∃ v r,vs = v :: r /\ eH x v /\ VR c x v.cells.toList /\ VA c l r
end

def VV (c : Cx) (A : AV) (v : Value) : Prop:=eH A v /\ VR c A v.cells.toList

def EV (c : Cx) : AV -> Value -> Prop
 | .und,_=>True
 | .eG l,v=>∃ vs,v = .tuple vs /\ VA c l vs.toList
 | A,v=>VV c A v

theorem Ae {w w' : World} {Im OH : Nat -> Nat -> Prop} (h : ∀ b o,Im b o -> OH b o /\ w'.cell? ⟨b,o,none⟩ = w.cell? ⟨b,o,none⟩)
  {b off : Nat} {cs : List Value} (hc : jG w Im b off cs) : jG w' OH b off cs:=by
 intro j v hj
 obtain ⟨h1,h2⟩:=hc j v hj
 exact ⟨(h _ _ h2).2.trans h1,(h _ _ h2).1⟩

mutual
theorem dZ {w w' : World} {Im OH : Nat -> Nat -> Prop} (h : ∀ b o,Im b o -> OH b o /\ w'.cell? ⟨b,o,none⟩ = w.cell? ⟨b,o,none⟩) :
  ∀ (A : AV) (cs : List Value),Rd w Im A cs -> Rd w' OH A cs
 | .bool _,_,hr=>by simpa only [Rd] using hr
 | .tt,_,hr=>by simpa only [Rd] using hr
 | .ff,_,hr=>by simpa only [Rd] using hr
 | .dec _,_,hr=>by simpa only [Rd] using hr
 | .int _ _,_,hr=>by simpa only [Rd] using hr
 | .str _,_,hr=>by simpa only [Rd] using hr
 | .eP,_,hr=>by simpa only [Rd] using hr
 | .jm t x,cs,hr=>by
   simp only [Rd] at hr ⊢
   obtain ⟨v,h1,h2,h3⟩:=hr
   exact ⟨v,h1,h2,dZ h x _ h3⟩
 | .aG,_,hr=>by simpa only [Rd] using hr
 | .sl sz l .no,cs,hr=>by
   simp only [Rd] at hr ⊢
   obtain ⟨h0,hr⟩:=hr
   refine ⟨h0,hr.imp id ?_⟩
   rintro ⟨a,cap,h1,h2,h3,h4,h5⟩
   exact ⟨a,cap,h1,h2,h3,h4,He h _ _ l _ h5⟩
 | .sl sz l .full,cs,hr=>by simp only [Rd] at hr
 | .sl sz l (.own _),cs,hr=>by simp only [Rd] at hr
 | .ms _ _ _ _ _,_,hr=>by simp only [Rd] at hr
 | .ag l,cs,hr=>by
   simp only [Rd] at hr ⊢
   exact OA h l cs hr
 | .eG _,_,hr=>by simp only [Rd] at hr
 | .ptr _ _ _,_,hr=>by simp only [Rd] at hr
 | .cp x,cs,hr=>by
   simp only [Rd] at hr ⊢
   obtain ⟨a,ds,h1,h2,h3,h4⟩:=hr
   exact ⟨a,ds,h1,h2,Ae h h3,dZ h x _ h4⟩
 | .gK,_,hr=>by simpa only [Rd] using hr
 | .fn f cap,cs,hr=>by
   simp only [Rd] at hr ⊢
   obtain ⟨vs,h1,h2⟩:=hr
   exact ⟨vs,h1,OE h cap vs h2⟩
 | .aH,_,hr=>by simpa only [Rd] using hr
 | .mp _,_,hr=>by simp only [Rd] at hr
 | .iT,_,hr=>by simpa only [Rd] using hr
 | .gs _ _,_,hr=>by simp only [Rd] at hr
 | .bm _ _,_,hr=>by simp only [Rd] at hr
 | .und,_,hr=>by simp only [Rd] at hr
theorem OA {w w' : World} {Im OH : Nat -> Nat -> Prop} (h : ∀ b o,Im b o -> OH b o /\ w'.cell? ⟨b,o,none⟩ = w.cell? ⟨b,o,none⟩) :
  ∀ (l : List AV) (cs : List Value),lM w Im l cs -> lM w' OH l cs
 | [],_,hr=>by simpa only [lM] using hr
 | x :: l,cs,hr=>by
   simp only [lM] at hr ⊢
   obtain ⟨c,d,h1,h2,h3⟩:=hr
   exact ⟨c,d,h1,dZ h x _ h2,OA h l _ h3⟩
theorem He {w w' : World} {Im OH : Nat -> Nat -> Prop} (h : ∀ b o,Im b o -> OH b o /\ w'.cell? ⟨b,o,none⟩ = w.cell? ⟨b,o,none⟩) (sz b : Nat) :
  ∀ (l : List AV) (off : Nat),su w Im sz b l off -> su w' OH sz b l off
 | [],_,_=>by simp only [su]
 | x :: l,off,hr=>by
   simp only [su] at hr ⊢
   obtain ⟨⟨cs,h1,h2,h3⟩,h4⟩:=hr
   exact ⟨⟨cs,h1,Ae h h2,dZ h x _ h3⟩,He h sz b l _ h4⟩
theorem OE {w w' : World} {Im OH : Nat -> Nat -> Prop} (h : ∀ b o,Im b o -> OH b o /\ w'.cell? ⟨b,o,none⟩ = w.cell? ⟨b,o,none⟩) :
  ∀ (l : List AV) (vs : List Value),Vk w Im l vs -> Vk w' OH l vs
 | [],_,hr=>by simpa only [Vk] using hr
 | x :: l,vs,hr=>by
   simp only [Vk] at hr ⊢
   obtain ⟨v,r,h1,h2,h3,h4⟩:=hr
   exact ⟨v,r,h1,h2,dZ h x _ h3,OE h l _ h4⟩
end

structure Cx.Le (c d : Cx) : Prop where
 im : ∀ b o,c.Im b o -> d.Im b o /\ d.w.cell? ⟨b,o,none⟩ = c.w.cell? ⟨b,o,none⟩
 nx : c.nx <= d.nx
 ρ : ∀ k,k < c.nx -> d.ρ k = c.ρ k
 tk : ∀ k n,k < c.nx -> d.tp k = some n -> (c.tp k = some n /\ d.tk k = c.tk k) \/ ∃ m,c.tp k = some m /\ m < n

mutual
theorem oC {c d : Cx} (h : c.Le d) : ∀ (A : AV) (cs : List Value),VR c A cs -> VR d A cs
 | .bool _,cs,hr=>by simp only [VR] at hr ⊢; exact dZ h.im _ _ hr
 | .tt,_,hr=>by simp only [VR] at hr ⊢; exact dZ h.im _ _ hr
 | .ff,_,hr=>by simp only [VR] at hr ⊢; exact dZ h.im _ _ hr
 | .dec _,_,hr=>by simp only [VR] at hr ⊢; exact dZ h.im _ _ hr
 | .int _ _,_,hr=>by simp only [VR] at hr ⊢; exact dZ h.im _ _ hr
 | .str _,_,hr=>by simp only [VR] at hr ⊢; exact dZ h.im _ _ hr
 | .eP,_,hr=>by simp only [VR] at hr ⊢; exact dZ h.im _ _ hr
 | .jm t x,cs,hr=>by
   simp only [VR] at hr ⊢
   obtain ⟨v,h1,h2,h3⟩:=hr
   exact ⟨v,h1,h2,oC h x _ h3⟩
 | .aG,_,hr=>by simp only [VR] at hr ⊢; exact dZ h.im _ _ hr
 | .sl _ _ .no,_,hr=>by simp only [VR] at hr ⊢; exact dZ h.im _ _ hr
 | .sl _ _ .full,_,hr=>by simp only [VR] at hr ⊢; exact ⟨dZ h.im _ _ hr.1,hr.2⟩
 | .sl sz l (.own k),cs,hr=>by
   simp only [VR] at hr ⊢
   obtain ⟨h1,h2,h3⟩:=hr
   refine ⟨Nat.lt_of_lt_of_le h1 h.nx,dZ h.im _ _ h2,fun n hn=>?_⟩
   rcases h.tk k n h1 hn with ⟨h4,h5⟩ | ⟨m,h4,h5⟩
   ·rw [h5]; exact h3 n h4
   ·have:=(h3 m h4).1; exact ⟨by omega,fun e=>by omega⟩
 | .ms k _ _ _ _,_,hr=>by
   simp only [VR] at hr ⊢
   rw [h.ρ k hr.1]
   exact ⟨Nat.lt_of_lt_of_le hr.1 h.nx,hr.2⟩
 | .ag l,cs,hr=>by
   simp only [VR] at hr ⊢
   exact Oz h l cs hr
 | .eG _,_,hr=>by simp only [VR] at hr ⊢; exact dZ h.im _ _ hr
 | .ptr k _ _,_,hr=>by
   simp only [VR] at hr ⊢
   rw [h.ρ k hr.1]
   exact ⟨Nat.lt_of_lt_of_le hr.1 h.nx,hr.2⟩
 | .cp x,cs,hr=>by simp only [VR] at hr ⊢; exact dZ h.im _ _ hr
 | .gK,_,hr=>by simp only [VR] at hr ⊢; exact dZ h.im _ _ hr
 | .fn f cap,cs,hr=>by
   simp only [VR] at hr ⊢
   obtain ⟨vs,h1,h2⟩:=hr
   exact ⟨vs,h1,Lc h cap vs h2⟩
 | .aH,_,hr=>by simp only [VR] at hr ⊢; exact dZ h.im _ _ hr
 | .mp k,_,hr=>by
   simp only [VR] at hr ⊢
   rw [h.ρ k hr.1]
   exact ⟨Nat.lt_of_lt_of_le hr.1 h.nx,hr.2⟩
 | .bm f k,_,hr=>by
   simp only [VR] at hr ⊢
   rw [h.ρ k hr.1]
   exact ⟨Nat.lt_of_lt_of_le hr.1 h.nx,hr.2⟩
 | .gs k len,_,hr=>by
   simp only [VR] at hr ⊢
   obtain ⟨h1,h2,h3⟩:=hr
   refine ⟨Nat.lt_of_lt_of_le h1 h.nx,h2,fun n hn=>?_⟩
   rcases h.tk k n h1 hn with ⟨h4,h5⟩ | ⟨m,h4,h5⟩
   ·rw [h5]; exact h3 n h4
   ·have:=(h3 m h4).1; exact ⟨by omega,fun e=>by omega⟩
 | .iT,_,hr=>by simp only [VR] at hr ⊢; exact dZ h.im _ _ hr
 | .und,_,hr=>by simp only [VR] at hr ⊢; exact dZ h.im _ _ hr
theorem Oz {c d : Cx} (h : c.Le d) : ∀ (l : List AV) (cs : List Value),lS c l cs -> lS d l cs
 | [],_,hr=>by simpa only [lS] using hr
 | x :: l,cs,hr=>by
   simp only [lS] at hr ⊢
   obtain ⟨a,e,h1,h2,h3⟩:=hr
   exact ⟨a,e,h1,oC h x _ h2,Oz h l _ h3⟩
theorem Lc {c d : Cx} (h : c.Le d) : ∀ (l : List AV) (vs : List Value),VA c l vs -> VA d l vs
 | [],_,hr=>by simpa only [VA] using hr
 | x :: l,vs,hr=>by
   simp only [VA] at hr ⊢
   obtain ⟨v,r,h1,h2,h3,h4⟩:=hr
   exact ⟨v,r,h1,h2,oC h x _ h3,Lc h l _ h4⟩
end

theorem oz {c d : Cx} (h : c.Le d) {A : AV} {v : Value} (hv : VV c A v) : VV d A v:=⟨hv.1,oC h _ _ hv.2⟩

theorem mG {c d : Cx} (h : c.Le d) : ∀ {A : AV} {v : Value},EV c A v -> EV d A v:=by
 intro A v hv
 cases A <;> first
  | exact oz h hv
  | trivial
  | (obtain ⟨vs,h1,h2⟩:=hv; exact ⟨vs,h1,Lc h _ _ h2⟩)

end Go.AL

namespace Go.AL

mutual
theorem cZ {w : World} {Im : Nat -> Nat -> Prop} : ∀ (A : AV) (cs : List Value),Rd w Im A cs -> cs.length = flat A
 | .bool _,_,hr=>by simp only [Rd] at hr; subst hr; rfl
 | .tt,_,hr=>by simp only [Rd] at hr; subst hr; rfl
 | .ff,_,hr=>by simp only [Rd] at hr; subst hr; rfl
 | .dec _,_,hr=>by simp only [Rd] at hr; obtain ⟨b,rfl,_⟩:=hr; rfl
 | .int _ _,_,hr=>by simp only [Rd] at hr; obtain ⟨rfl,_⟩:=hr; rfl
 | .str _,_,hr=>by simp only [Rd] at hr; obtain ⟨rfl,_⟩:=hr; rfl
 | .eP,_,hr=>by simp only [Rd] at hr; subst hr; rfl
 | .jm t x,cs,hr=>by simp only [Rd] at hr; obtain ⟨v,rfl,_⟩:=hr; rfl
 | .aG,_,hr=>by simp only [Rd] at hr; subst hr; rfl
 | .sl sz l .no,cs,hr=>by
   simp only [Rd] at hr
   obtain ⟨_,⟨_,rfl⟩ | ⟨a,cap,rfl,_⟩⟩:=hr <;> rfl
 | .sl sz l .full,cs,hr=>by simp only [Rd] at hr
 | .sl sz l (.own _),cs,hr=>by simp only [Rd] at hr
 | .ms _ _ _ _ _,_,hr=>by simp only [Rd] at hr
 | .ag l,cs,hr=>by
   simp only [Rd] at hr
   simp only [flat]
   exact G8 l cs hr
 | .eG _,_,hr=>by simp only [Rd] at hr
 | .ptr _ _ _,_,hr=>by simp only [Rd] at hr
 | .cp x,cs,hr=>by simp only [Rd] at hr; obtain ⟨a,ds,rfl,_⟩:=hr; rfl
 | .gK,_,hr=>by simp only [Rd] at hr; subst hr; rfl
 | .fn _ _,_,hr=>by simp only [Rd] at hr; obtain ⟨_,rfl,_⟩:=hr; rfl
 | .aH,_,hr=>by simp only [Rd] at hr; subst hr; rfl
 | .mp _,_,hr=>by simp only [Rd] at hr
 | .gs _ _,_,hr=>by simp only [Rd] at hr
 | .bm _ _,_,hr=>by simp only [Rd] at hr
 | .iT,_,hr=>by simp only [Rd] at hr; subst hr; rfl
 | .und,_,hr=>by simp only [Rd] at hr
theorem G8 {w : World} {Im : Nat -> Nat -> Prop} : ∀ (l : List AV) (cs : List Value),lM w Im l cs -> cs.length = iK l
 | [],_,hr=>by simp only [lM] at hr; subst hr; rfl
 | x :: l,cs,hr=>by
   simp only [lM] at hr
   obtain ⟨c,d,rfl,h2,h3⟩:=hr
   simp only [iK,List.length_append,cZ x _ h2,G8 l _ h3]
end

mutual
theorem gB {c : Cx} : ∀ (A : AV) (cs : List Value),VR c A cs -> cs.length = flat A
 | .bool _,_,hr=>by simp only [VR] at hr; exact cZ _ _ hr
 | .tt,_,hr=>by simp only [VR] at hr; exact cZ _ _ hr
 | .ff,_,hr=>by simp only [VR] at hr; exact cZ _ _ hr
 | .dec _,_,hr=>by simp only [VR] at hr; exact cZ _ _ hr
 | .int _ _,_,hr=>by simp only [VR] at hr; exact cZ _ _ hr
 | .str _,_,hr=>by simp only [VR] at hr; exact cZ _ _ hr
 | .eP,_,hr=>by simp only [VR] at hr; exact cZ _ _ hr
 | .jm t x,cs,hr=>by simp only [VR] at hr; obtain ⟨v,rfl,_⟩:=hr; rfl
 | .aG,_,hr=>by simp only [VR] at hr; exact cZ _ _ hr
 | .sl sz l .no,cs,hr=>by simp only [VR] at hr; exact cZ _ _ hr
 | .sl sz l .full,cs,hr=>by simp only [VR] at hr; exact cZ (.sl sz l .no) _ hr.1
 | .sl sz l (.own _),cs,hr=>by simp only [VR] at hr; exact cZ (.sl sz l .no) _ hr.2.1
 | .ms _ _ _ _ _,_,hr=>by simp only [VR] at hr; obtain ⟨_,rfl,_⟩:=hr; rfl
 | .ag l,cs,hr=>by
   simp only [VR] at hr
   simp only [flat]
   exact GY l cs hr
 | .eG _,_,hr=>by simp only [VR] at hr; exact cZ _ _ hr
 | .ptr _ _ _,_,hr=>by simp only [VR] at hr; obtain ⟨_,rfl⟩:=hr; rfl
 | .cp x,cs,hr=>by simp only [VR] at hr; exact cZ _ _ hr
 | .gK,_,hr=>by simp only [VR] at hr; exact cZ _ _ hr
 | .fn _ _,_,hr=>by simp only [VR] at hr; obtain ⟨_,rfl,_⟩:=hr; rfl
 | .aH,_,hr=>by simp only [VR] at hr; exact cZ _ _ hr
 | .mp _,_,hr=>by simp only [VR] at hr; obtain ⟨_,rfl⟩:=hr; rfl
 | .gs _ _,_,hr=>by simp only [VR] at hr; obtain ⟨_,⟨_,_,_,rfl⟩,_⟩:=hr; rfl
 | .bm _ _,_,hr=>by simp only [VR] at hr; obtain ⟨_,rfl⟩:=hr; rfl
 | .iT,_,hr=>by simp only [VR] at hr; exact cZ _ _ hr
 | .und,_,hr=>by simp only [VR] at hr; exact cZ _ _ hr
theorem GY {c : Cx} : ∀ (l : List AV) (cs : List Value),lS c l cs -> cs.length = iK l
 | [],_,hr=>by simp only [lS] at hr; subst hr; rfl
 | x :: l,cs,hr=>by
   simp only [lS] at hr
   obtain ⟨a,d,rfl,h2,h3⟩:=hr
   simp only [iK,List.length_append,gB x _ h2,GY l _ h3]
end

def mkV (A : AV) (cs : List Value) : Value:=match A with
 | .ag _=>.agg cs.toArray
 | _=>cs.getD 0 default

theorem nD {c : Cx} {A : AV} {cs : List Value} (h : VR c A cs) (hA : dI A = false) : ∃ v,cs = [v] /\ v.cells = #[v]:=by
 cases A with
 | ag l=>simp [dI] at hA
 | dec p=>simp only [VR,Rd] at h; obtain ⟨b,rfl,_⟩:=h; exact ⟨_,rfl,rfl⟩
 | sl sz l tok =>
   cases tok with
   | no=>simp only [VR,Rd] at h; obtain ⟨_,⟨_,rfl⟩ | ⟨a,cap,rfl,_⟩⟩:=h <;> exact ⟨_,rfl,rfl⟩
   | full=>simp only [VR,Rd] at h; obtain ⟨⟨_,⟨_,rfl⟩ | ⟨a,cap,rfl,_⟩⟩,_⟩:=h <;> exact ⟨_,rfl,rfl⟩
   | own k=>simp only [VR,Rd] at h; obtain ⟨_,⟨_,⟨_,rfl⟩ | ⟨a,cap,rfl,_⟩⟩,_⟩:=h <;> exact ⟨_,rfl,rfl⟩
 | jm t x=>simp only [VR] at h; obtain ⟨v,rfl,_⟩:=h; exact ⟨_,rfl,rfl⟩
 | cp x=>simp only [VR,Rd] at h; obtain ⟨a,ds,rfl,_⟩:=h; exact ⟨_,rfl,rfl⟩
 | fn f cap=>simp only [VR] at h; obtain ⟨vs,rfl,_⟩:=h; exact ⟨_,rfl,rfl⟩
 | eG l=>simp only [VR,Rd] at h
 | und=>simp only [VR,Rd] at h
 | ptr=>simp only [VR] at h; obtain ⟨_,rfl⟩:=h; exact ⟨_,rfl,rfl⟩
 | ms=>simp only [VR] at h; obtain ⟨_,rfl,_⟩:=h; exact ⟨_,rfl,rfl⟩
 | mp=>simp only [VR] at h; obtain ⟨_,rfl⟩:=h; exact ⟨_,rfl,rfl⟩
 | gs=>simp only [VR] at h; obtain ⟨_,⟨_,_,_,rfl⟩,_⟩:=h; exact ⟨_,rfl,rfl⟩
 | bm=>simp only [VR] at h; obtain ⟨_,rfl⟩:=h; exact ⟨_,rfl,rfl⟩
 | int=>simp only [VR,Rd] at h; obtain ⟨rfl,_⟩:=h; exact ⟨_,rfl,rfl⟩
 | str=>simp only [VR,Rd] at h; obtain ⟨rfl,_⟩:=h; exact ⟨_,rfl,rfl⟩
 | _=>simp only [VR,Rd] at h; subst h; exact ⟨_,rfl,rfl⟩

theorem TS {c : Cx} {A : AV} {cs : List Value} (h : VR c A cs) : (mkV A cs).cells.toList = cs:=by
 cases hA : dI A with
 | true=>cases A <;> simp [dI] at hA; simp [mkV,Value.cells]
 | false =>
   obtain ⟨v,rfl,hv⟩:=nD h hA
   have : mkV A [v] = v:=by cases A <;> simp [dI] at hA <;> rfl
   rw [this,hv]

theorem KZ {c : Cx} {A : AV} {cs : List Value} (h : VR c A cs) : VV c A (mkV A cs):=by
 refine ⟨⟨fun hA=>?_,fun hA=>?_⟩,by rw [TS h]; exact h⟩
 ·cases A <;> simp [dI] at hA; exact ⟨_,rfl⟩
 ·obtain ⟨v,rfl,hv⟩:=nD h hA
  have : mkV A [v] = v:=by cases A <;> simp [dI] at hA <;> rfl
  rw [this,hv]

theorem Am {c : Cx} {A : AV} {v : Value} (h : VR c A [v]) (hA : dI A = false) : VV c A v:=by
 obtain ⟨u,hu,hv⟩:=nD h hA
 obtain rfl : v = u:=by simpa using hu
 exact ⟨⟨fun h=>by simp [h] at hA,fun _=>hv⟩,by rw [hv]; exact h⟩

theorem U8 {c : Cx} {A : AV} {v : Value} (h : VV c A v) (hA : dI A = false) : VR c A [v]:=by
 have:=h.2; rw [h.1.2 hA] at this; exact this

mutual
def nR : AV -> Bool
 | .ptr _ _ _ | .ms _ _ _ _ _ | .mp _ | .gs _ _ | .bm _ _ | .eG _ | .und=>false
 | .fn _ cap=>yh cap
 | .ag l=>yh l
 | .jm _ x=>nR x
 | _=>true
def yh : List AV -> Bool
 | []=>true
 | x :: l=>match nR x with | true=>yh l | false=>false
end

mutual
def strip : AV -> AV
 | .sl sz l _=>.sl sz l .no
 | .ag l=>.ag (stripL l)
 | .jm t x=>.jm t (strip x)
 | .fn f cap=>.fn f (stripL cap)
 | A=>A
def stripL : List AV -> List AV
 | []=>[]
 | x :: l=>strip x :: stripL l
end

theorem PE (A : AV) : dI (strip A) = dI A:=by cases A <;> rfl

theorem yY {A : AV} {v : Value} (h : eH A v) : eH (strip A) v:=by
 unfold eH at *; rw [PE]; exact h

mutual
theorem pV {c : Cx} : ∀ (A : AV) (cs : List Value),nR A = true -> VR c A cs -> Rd c.w c.Im (strip A) cs
 | .bool _,_,_,hr=>by simpa only [VR,strip] using hr
 | .tt,_,_,hr=>by simpa only [VR,strip] using hr
 | .ff,_,_,hr=>by simpa only [VR,strip] using hr
 | .dec _,_,_,hr=>by simpa only [VR,strip] using hr
 | .int _ _,_,_,hr=>by simpa only [VR,strip] using hr
 | .str _,_,_,hr=>by simpa only [VR,strip] using hr
 | .eP,_,_,hr=>by simpa only [VR,strip] using hr
 | .jm t x,cs,hp,hr=>by
   simp only [VR] at hr
   obtain ⟨v,rfl,h2,h3⟩:=hr
   simp only [strip,Rd]
   exact ⟨v,rfl,yY h2,pV x _ hp h3⟩
 | .aG,_,_,hr=>by simpa only [VR,strip] using hr
 | .sl sz l .no,cs,_,hr=>by simpa only [VR,strip] using hr
 | .sl sz l .full,cs,_,hr=>by simp only [VR] at hr; simpa only [strip] using hr.1
 | .sl sz l (.own _),cs,_,hr=>by simp only [VR] at hr; simpa only [strip] using hr.2.1
 | .ms _ _ _ _ _,_,hp,_=>by simp [nR] at hp
 | .ag l,cs,hp,hr=>by
   simp only [VR] at hr
   simp only [strip,Rd]
   exact Jv l cs hp hr
 | .eG _,_,hp,_=>by simp [nR] at hp
 | .ptr _ _ _,_,hp,_=>by simp [nR] at hp
 | .cp x,cs,_,hr=>by simpa only [VR,strip] using hr
 | .gK,_,_,hr=>by simpa only [VR,strip] using hr
 | .fn f cap,cs,hp,hr=>by
   simp only [VR] at hr
   obtain ⟨vs,h1,h2⟩:=hr
   simp only [strip,Rd]
   exact ⟨vs,h1,Jz cap vs hp h2⟩
 | .aH,_,_,hr=>by simpa only [VR,strip] using hr
 | .mp _,_,hp,_=>by simp [nR] at hp
 | .gs _ _,_,hp,_=>by simp [nR] at hp
 | .bm _ _,_,hp,_=>by simp [nR] at hp
 | .iT,_,_,hr=>by simpa only [VR,strip] using hr
 | .und,_,hp,_=>by simp [nR] at hp
theorem Jv {c : Cx} : ∀ (l : List AV) (cs : List Value),yh l = true -> lS c l cs -> lM c.w c.Im (stripL l) cs
 | [],_,_,hr=>by simpa only [lS,stripL,lM] using hr
 | x :: l,cs,hp,hr=>by
   simp only [lS] at hr
   obtain ⟨a,d,h1,h2,h3⟩:=hr
   simp only [stripL,lM]
   simp only [yh] at hp
   cases hx : nR x with
   | false=>simp [hx] at hp
   | true=>rw [hx] at hp; exact ⟨a,d,h1,pV x _ hx h2,Jv l _ hp h3⟩
theorem Jz {c : Cx} : ∀ (l : List AV) (vs : List Value),yh l = true -> VA c l vs -> Vk c.w c.Im (stripL l) vs
 | [],_,_,hr=>by simpa only [VA,stripL,Vk] using hr
 | x :: l,vs,hp,hr=>by
   simp only [VA] at hr
   obtain ⟨v,r,h1,h2,h3,h4⟩:=hr
   simp only [stripL,Vk]
   simp only [yh] at hp
   cases hx : nR x with
   | false=>simp [hx] at hp
   | true=>rw [hx] at hp; exact ⟨v,r,h1,yY h2,pV x _ hx h3,Jz l _ hp h4⟩
end

mutual
theorem iO {c : Cx} : ∀ (A : AV) (cs : List Value),Rd c.w c.Im A cs -> VR c A cs
 | .bool _,_,hr=>by simpa only [VR] using hr
 | .tt,_,hr=>by simpa only [VR] using hr
 | .ff,_,hr=>by simpa only [VR] using hr
 | .dec _,_,hr=>by simpa only [VR] using hr
 | .int _ _,_,hr=>by simpa only [VR] using hr
 | .str _,_,hr=>by simpa only [VR] using hr
 | .eP,_,hr=>by simpa only [VR] using hr
 | .jm t x,cs,hr=>by
   simp only [Rd] at hr
   obtain ⟨v,h1,h2,h3⟩:=hr
   simp only [VR]
   exact ⟨v,h1,h2,iO x _ h3⟩
 | .aG,_,hr=>by simpa only [VR] using hr
 | .sl sz l .no,cs,hr=>by simpa only [VR] using hr
 | .sl sz l .full,cs,hr=>by simp only [Rd] at hr
 | .sl sz l (.own _),cs,hr=>by simp only [Rd] at hr
 | .ms _ _ _ _ _,_,hr=>by simp only [Rd] at hr
 | .ag l,cs,hr=>by
   simp only [Rd] at hr
   simp only [VR]
   exact GX l cs hr
 | .eG _,_,hr=>by simp only [Rd] at hr
 | .ptr _ _ _,_,hr=>by simp only [Rd] at hr
 | .cp x,cs,hr=>by simpa only [VR] using hr
 | .gK,_,hr=>by simpa only [VR] using hr
 | .fn f cap,cs,hr=>by
   simp only [Rd] at hr
   obtain ⟨vs,h1,h2⟩:=hr
   simp only [VR]
   exact ⟨vs,h1,Jt cap vs h2⟩
 | .aH,_,hr=>by simpa only [VR] using hr
 | .gs _ _,_,hr=>by simp only [Rd] at hr
 | .bm _ _,_,hr=>by simp only [Rd] at hr
 | .mp _,_,hr=>by simp only [Rd] at hr
 | .iT,_,hr=>by simpa only [VR] using hr
 | .und,_,hr=>by simp only [Rd] at hr
theorem GX {c : Cx} : ∀ (l : List AV) (cs : List Value),lM c.w c.Im l cs -> lS c l cs
 | [],_,hr=>by simpa only [lS,lM] using hr
 | x :: l,cs,hr=>by
   simp only [lM] at hr
   obtain ⟨a,d,h1,h2,h3⟩:=hr
   simp only [lS]
   exact ⟨a,d,h1,iO x _ h2,GX l _ h3⟩
theorem Jt {c : Cx} : ∀ (l : List AV) (vs : List Value),Vk c.w c.Im l vs -> VA c l vs
 | [],_,hr=>by simpa only [VA,Vk] using hr
 | x :: l,vs,hr=>by
   simp only [Vk] at hr
   obtain ⟨v,r,h1,h2,h3,h4⟩:=hr
   simp only [VA]
   exact ⟨v,r,h1,h2,iO x _ h3,Jt l _ h4⟩
end

theorem Yo {c : Cx} {A : AV} {v : Value} (hs : eH A v) (h : Rd c.w c.Im A v.cells.toList) : VV c A v:=⟨hs,iO _ _ h⟩

theorem SI {w : World} {Im : Nat -> Nat -> Prop} {sz b : Nat} : ∀ {l : List AV} {off i : Nat} {x : AV},su w Im sz b l off -> l[i]? = some x ->
  ∃ cs,cs.length = sz /\ jG w Im b (off + i * sz) cs /\ Rd w Im x cs
 | [],_,_,_,_,h=>by simp at h
 | y :: l,off,0,x,hr,h=>by
   simp only [su] at hr
   obtain rfl : y = x:=by simpa using h
   simpa using hr.1
 | y :: l,off,i + 1,x,hr,h=>by
   simp only [su] at hr
   obtain ⟨cs,h1,h2,h3⟩:=SI (i:=i) hr.2 (by simpa using h)
   refine ⟨cs,h1,?_,h3⟩
   have : off + (i + 1) * sz = off + sz + i * sz:=by rw [Nat.add_mul]; omega
   rw [this]; exact h2

theorem Hg {w : World} {Im : Nat -> Nat -> Prop} {sz b : Nat} : ∀ {l m : List AV} {off : Nat},su w Im sz b l off -> su w Im sz b m (off + l.length * sz) ->
  su w Im sz b (l ++ m) off
 | [],m,off,_,h=>by simpa using h
 | x :: l,m,off,h,hm=>by
   simp only [su,List.cons_append] at h ⊢
   refine ⟨h.1,Hg h.2 ?_⟩
   have : off + sz + l.length * sz = off + (x :: l).length * sz:=by simp [Nat.add_mul]; omega
   rw [this]; exact hm

theorem OD {w : World} {Im : Nat -> Nat -> Prop} {sz b : Nat} : ∀ {l : List AV} {off : Nat} (n : Nat),su w Im sz b l off -> n <= l.length -> su w Im sz b (l.drop n) (off + n * sz)
 | l,off,0,h,_=>by simpa using h
 | [],off,n + 1,_,hn=>by simp at hn
 | x :: l,off,n + 1,h,hn=>by
   simp only [su] at h
   have:=OD (l:=l) (off:=off + sz) n h.2 (by simpa using hn)
   have e : off + (n + 1) * sz = off + sz + n * sz:=by rw [Nat.add_mul]; omega
   rw [e]; exact this

theorem OC {w : World} {Im : Nat -> Nat -> Prop} {sz b : Nat} : ∀ {l : List AV} {off : Nat} (n : Nat),su w Im sz b l off -> su w Im sz b (l.take n) off
 | l,off,0,h=>by simp [su]
 | [],off,n + 1,h=>by simp [su]
 | x :: l,off,n + 1,h=>by
   simp only [su] at h
   simp only [List.take_succ_cons,su]
   exact ⟨h.1,OC n h.2⟩

end Go.AL

namespace Go.AL

abbrev Env:=List (Nat × AV)

inductive HO where
 | box (A : AV)
 | arr (sz cap : Nat) (l : List AV)
 | tok (sz top : Nat)
 | dU (sh : AV) (es : List (AV × AV))
 | iU (sz : Nat) (l : List AV)
 | gone
 deriving Inhabited

abbrev Heap:=List (Nat × HO)

def xO : Env -> Nat -> (AV -> Prop) -> Prop
 | [],_,_=>False
 | (i,A) :: e,t,k=>match Nat.beq i t with | true=>k A | false=>xO e t k

def dP : Env -> Nat -> Option AV
 | [],_=>none
 | (i,A) :: e,t=>match Nat.beq i t with | true=>some A | false=>dP e t

theorem gW {k : AV -> Prop} : ∀ {e : Env} {t : Nat},xO e t k ↔ ∃ A,dP e t = some A /\ k A
 | [],t=>by simp [xO,dP]
 | (i,A) :: e,t=>by
   simp only [xO,dP]
   cases Nat.beq i t with
   | true=>simp
   | false=>exact gW

def iJ : Heap -> Nat -> (HO -> Prop) -> Prop
 | [],_,_=>False
 | (i,o) :: H,n,k=>match Nat.beq i n with | true=>k o | false=>iJ H n k

def hget : Heap -> Nat -> Option HO
 | [],_=>none
 | (i,o) :: H,n=>match Nat.beq i n with | true=>some o | false=>hget H n

theorem dB {k : HO -> Prop} : ∀ {H : Heap} {n : Nat},iJ H n k ↔ ∃ o,hget H n = some o /\ k o
 | [],n=>by simp [iJ,hget]
 | (i,o) :: H,n=>by
   simp only [iJ,hget]
   cases Nat.beq i n with
   | true=>simp
   | false=>exact dB

def uG : Heap -> Nat -> HO -> (Heap -> Prop) -> Prop
 | [],_,_,_=>False
 | (i,o) :: H,n,o',k=>match Nat.beq i n with | true=>k ((i,o') :: H) | false=>uG H n o' fun H'=>k ((i,o) :: H')

def hset : Heap -> Nat -> HO -> Heap
 | [],_,_=>[]
 | (i,o) :: H,n,o'=>match Nat.beq i n with | true=>(i,o') :: H | false=>(i,o) :: hset H n o'

theorem iZ : ∀ {H : Heap} {n : Nat} {o' : HO} {k : Heap -> Prop},uG H n o' k ↔ (∃ o,hget H n = some o) /\ k (hset H n o')
 | [],n,o',k=>by simp [uG,hget]
 | (i,o) :: H,n,o',k=>by
   simp only [uG,hget,hset]
   cases Nat.beq i n with
   | true=>simp
   | false=>exact iZ

def nextId : Heap -> Nat
 | []=>0
 | (i,_) :: _=>i + 1

def aN (n : Nat) (k : Nat -> Prop) : Prop :=
 match n with
 | 0=>k 1 | 1=>k 2 | 2=>k 3 | 3=>k 4 | 4=>k 5 | 5=>k 6 | 6=>k 7 | 7=>k 8 | 8=>k 9 | 9=>k 10
 | 10=>k 11 | 11=>k 12 | 12=>k 13 | 13=>k 14 | 14=>k 15 | 15=>k 16 | 16=>k 17 | 17=>k 18 | 18=>k 19 | 19=>k 20
 | n + 20=>k (n + 21)

theorem Iw {n : Nat} {k : Nat -> Prop} : aN n k ↔ k (n + 1):=by
 unfold aN
 split <;> exact Iff.rfl

def oQ (H : Heap) (o : HO) (k : Nat -> Heap -> Prop) : Prop :=
 match H with
 | []=>k 0 [(0,o)]
 | (i,x) :: H=>aN i fun j=>k j ((j,o) :: (i,x) :: H)

theorem eF {H : Heap} {o : HO} {k : Nat -> Heap -> Prop} : oQ H o k ↔ k (nextId H) ((nextId H,o) :: H):=by
 cases H with
 | nil=>exact Iff.rfl
 | cons x H=>obtain ⟨i,x⟩:=x; simp only [oQ,Iw,nextId]

def dA (H : Heap) (k : Nat) : Option Nat:=match hget H k with | some (.tok _ n)=>some n | some (.iU _ l)=>some l.length | _=>none

def La (c : Cx) (sz : Nat) : List AV -> List Value -> Prop
 | [],_=>True
 | x :: l,cs=>∃ a d,cs = a ++ d /\ a.length = sz /\ Rd c.w c.Im x a /\ La c sz l d

def C9 (c : Cx) : List (AV × AV) -> List MapEntry -> Prop
 | [],es=>es = []
 | (x,y) :: l,es=>∃ e r,es = e :: r /\ VV c x e.key /\ VV c y e.val /\ C9 c l r

def qg : IntKind -> IntKind -> Bool
 | .i8,.i8 | .i16,.i16 | .i32,.i32 | .i64,.i64 | .u8,.u8 | .u16,.u16 | .u32,.u32 | .u64,.u64=>true
 | _,_=>false

theorem gQ {a b : IntKind} (h : qg a b = true) : a = b:=by cases a <;> cases b <;> first | rfl | simp [qg] at h

mutual
def au : AV -> AV -> Bool
 | .int k _,.int k' _=>qg k k'
 | .str _,.str _=>true
 | .ag l,.ag m=>bW l m
 | _,_=>false
def bW : List AV -> List AV -> Bool
 | [],[]=>true
 | x :: l,y :: m=>au x y && bW l m
 | _,_=>false
end

def OG (sh : AV) : List (AV × AV) -> Prop
 | []=>True
 | (x,_) :: l=>au sh x = true /\ OG sh l

def HO.Ok (c : Cx) (k : Nat) : HO -> Prop
 | .box A=>∃ cs ty,c.w.heap[c.ρ k]? = some (.cells cs.toArray ty) /\ VR c A cs /\ ∀ o,¬ c.Im (c.ρ k) o
 | .arr sz cap l=>∃ cs ty,c.w.heap[c.ρ k]? = some (.cells cs.toArray ty) /\ cs.length = cap * sz /\ l.length <= cap /\ cap <= maxL /\ La c sz l cs /\ ∀ o,¬ c.Im (c.ρ k) o
 | .tok sz top=>(c.tk k).2 = top \/ ∃ b cs ty,(c.tk k).1 = some ⟨b,0,none⟩ /\ c.w.heap[b]? = some (.cells cs ty) /\ cs.size = (c.tk k).2 * sz /\
   top <= (c.tk k).2 /\ (c.tk k).2 <= maxL /\ ∀ o,top * sz <= o -> ¬ c.Im b o
 | .dU sh es=>∃ ents clock,c.w.heap[c.ρ k]? = some (.map ents clock) /\ C9 c es ents.toList /\ OG sh es /\ (∀ e ∈ ents.toList,e.born < clock) /\ ents.toList.Pairwise fun a b=>a.key ≠ b.key
 | .iU sz l=>((c.tk k).1 = none /\ (c.tk k).2 = 0 /\ l = []) \/ ∃ b cs ty,(c.tk k).1 = some ⟨b,0,none⟩ /\ c.w.heap[b]? = some (.cells cs.toArray ty) /\ cs.length = (c.tk k).2 * sz /\
   l.length <= (c.tk k).2 /\ (c.tk k).2 <= maxL /\ La c sz l cs /\ ∀ o,¬ c.Im b o
 | .gone=>True

def aO (c : Cx) (x : Nat × HO) : Option Nat :=
 match x.2 with
 | .tok _ top=>if (c.tk x.1).2 = top then none else (c.tk x.1).1.map (·.block)
 | .iU _ _=>(c.tk x.1).1.map (·.block)
 | .gone=>none
 | _=>some (c.ρ x.1)

def ay : Heap -> Prop
 | []=>True
 | (i,_) :: H=>(∀ x ∈ H,x.1 < i) /\ ay H

structure HR (c : Cx) (H : Heap) : Prop where
 nx : c.nx = nextId H
 tp : c.tp = dA H
 ids : ay H
 im : ∀ b o,c.Im b o -> b < c.w.heap.size
 ok : ∀ x ∈ H,x.2.Ok c x.1
 apart : H.Pairwise fun x y=>∀ b : Nat,aO c x = some b -> aO c y ≠ some b

structure Tr (c : Cx) (H : Heap) (d : Cx) (H' : Heap) : Prop where
 hr : HR d H'
 le : c.Le d
 os : d.w.os = c.w.os
 tape : d.w.tape = c.w.tape
 output : d.w.output = c.w.output
 size : c.w.heap.size <= d.w.heap.size
 fr : ∀ b,b < c.w.heap.size -> (∀ x ∈ H,aO c x ≠ some b) -> d.w.heap[b]? = c.w.heap[b]?
 own : ∀ y ∈ H',∀ b,aO d y = some b -> c.w.heap.size <= b \/ ∃ x ∈ H,aO c x = some b
 YK : ∀ b o,d.Im b o -> c.Im b o \/ c.w.heap.size <= b \/ ∃ x ∈ H,aO c x = some b

theorem Cx.Le.refl (c : Cx) : c.Le c:=⟨fun _ _ h=>⟨h,rfl⟩,Nat.le_refl _,fun _ _=>rfl,fun _ _ _ h=>.inl ⟨h,rfl⟩⟩

theorem Cx.Le.trans {a b c : Cx} (h : a.Le b) (g : b.Le c) : a.Le c:=by
 refine ⟨fun x o hx=>?_,Nat.le_trans h.nx g.nx,fun k hk=>?_,fun k n hk hn=>?_⟩
 ·have h1:=h.im x o hx
  have h2:=g.im x o h1.1
  exact ⟨h2.1,h2.2.trans h1.2⟩
 ·exact (g.ρ k (Nat.lt_of_lt_of_le hk h.nx)).trans (h.ρ k hk)
 ·rcases g.tk k n (Nat.lt_of_lt_of_le hk h.nx) hn with ⟨h1,h2⟩ | ⟨m,h1,h2⟩
  ·rcases h.tk k n hk h1 with ⟨h3,h4⟩ | h3
   ·exact .inl ⟨h3,h2.trans h4⟩
   ·exact .inr h3
  ·rcases h.tk k m hk h1 with ⟨h3,h4⟩ | ⟨m',h3,h4⟩
   ·exact .inr ⟨m,h3,h2⟩
   ·exact .inr ⟨m',h3,by omega⟩

theorem Tr.refl {c : Cx} {H : Heap} (h : HR c H) : Tr c H c H :=
 ⟨h,.refl c,rfl,rfl,rfl,Nat.le_refl _,fun _ _ _=>rfl,fun y hy _ hb=>.inr ⟨y,hy,hb⟩,fun _ _ h=>.inl h⟩

theorem Tr.trans {a b c : Cx} {H H' QF : Heap} (h : Tr a H b H') (g : Tr b H' c QF) : Tr a H c QF:=by
 refine ⟨g.hr,h.le.trans g.le,g.os.trans h.os,g.tape.trans h.tape,g.output.trans h.output,Nat.le_trans h.size g.size,fun x hx hn=>?_,fun y hy x hx=>?_,fun x o hx=>?_⟩
 ·rw [g.fr x (Nat.lt_of_lt_of_le hx h.size) ?_,h.fr x hx hn]
  intro y hy hb
  rcases h.own y hy x hb with h1 | ⟨z,h1,h2⟩
  ·omega
  ·exact hn z h1 h2
 ·rcases g.own y hy x hx with h1 | ⟨z,h1,h2⟩
  ·exact .inl (Nat.le_trans h.size h1)
  ·exact h.own z h1 x h2
 ·rcases g.YK x o hx with h1 | h1 | ⟨z,h1,h2⟩
  ·exact h.YK x o h1
  ·exact .inr (.inl (Nat.le_trans h.size h1))
  ·exact .inr (h.own z h1 x h2)

theorem gU {i n : Nat} (h : Nat.beq i n = false) : i ≠ n:=by
 intro e; subst e; simp at h

theorem gZ : ∀ {H : Heap} {n : Nat} {o : HO},hget H n = some o -> (n,o) ∈ H
 | [],_,_,h=>by simp [hget] at h
 | (i,x) :: H,n,o,h=>by
   simp only [hget] at h
   cases hb : Nat.beq i n with
   | true =>
     rw [hb] at h
     obtain rfl:=Nat.eq_of_beq_eq_true hb
     simp at h; subst h; simp
   | false=>rw [hb] at h; exact List.mem_cons_of_mem _ (gZ h)

theorem mO : ∀ {H : Heap} {n : Nat} {o : HO},ay H -> (n,o) ∈ H -> hget H n = some o
 | [],_,_,_,h=>by simp at h
 | (i,x) :: H,n,o,hi,h=>by
   simp only [ay] at hi
   simp only [hget]
   rcases List.mem_cons.1 h with h | h
   ·simp at h; obtain ⟨rfl,rfl⟩:=h; simp
   ·have:=hi.1 _ h
    have hb : Nat.beq i n = false:=by
     cases hb : Nat.beq i n with
     | false=>rfl
     | true=>have:=Nat.eq_of_beq_eq_true hb; simp at *; omega
    rw [hb]; exact mO hi.2 h

theorem bH : ∀ {H : Heap},ay H -> ∀ x ∈ H,x.1 < nextId H
 | [],_,x,h=>by simp at h
 | (i,y) :: H,hi,x,h=>by
   simp only [ay] at hi
   simp only [nextId]
   rcases List.mem_cons.1 h with h | h
   ·subst h; exact Nat.lt_succ_self _
   ·have:=hi.1 _ h; omega

theorem HR.sV {c : Cx} {H : Heap} (h : HR c H) {k : Nat} {o : HO} (hk : hget H k = some o) : o.Ok c k:=h.ok _ (gZ hk)

end Go.AL

namespace Go.AL

inductive TD where
 | aQ | bool | int (k : IntKind) | str | slice (e : Nat) | struct (fs : List (Nat × Nat × Nat)) | arr (n e : Nat) | map (k e : Nat) | iface | ptr (e : Nat) | other
 deriving Inhabited

structure TI where
 desc : TD
 bytes : Nat
 zero : AV
 key : Option AV:=none
 cmp : Bool:=false
 deriving Inhabited

inductive Lay where
 | nil
 | node (l : Lay) (t : Nat) (i : TI) (r : Lay)

def Lay.bM : Lay -> Nat -> (TI -> Prop) -> Prop
 | .nil,_,_=>False
 | .node l t i r,n,k=>match Nat.beq n t with
   | true=>k i
   | false=>match Nat.ble n t with
     | true=>l.bM n k
     | false=>r.bM n k

def descOf (P : Program) : TypeDesc -> TD
 | .bool=>.bool
 | .int k=>.int k
 | .string=>.str
 | .slice e=>.slice e
 | .struct fs=>.struct (fs.toList.map fun f=>(f.offset,P.cellsOf f.type,f.type))
 | .array n e=>.arr n e
 | .map k e=>.map k e
 | .interface _=>.iface
 | .pointer e=>.ptr e
 | .func ..=>.aQ
 | _=>.other

def WU : TD -> Bool
 | .struct _ | .arr _ _=>true
 | _=>false

def uX (n : Nat) : List AV -> List (Nat × Nat)
 | []=>[]
 | x :: l=>(n,flat x) :: uX (n + flat x) l

structure SK (P : Program) (k : Nat) (sh : AV) : Prop where
 law : Go.Maps.Keyed P k
 rd : ∀ w Im A v,au sh A = true -> eH A v -> Rd w Im A v.cells.toList -> ∃ l,keyOf P k v = some l

def jE : AV -> AV -> Bool
 | .int k _,.int k' _=>qg k k'
 | .str _,.str _=>true
 | .ff,.tt | .ff,.ff | .ff,.bool _ | .ff,.dec _=>true
 | _,_=>false
def gY : List AV -> List AV -> Bool
 | [],[]=>true
 | x :: l,y :: m=>match jE x y with | true=>gY l m | false=>false
 | _,_=>false

def Zm : AV -> Prop
 | .tt=>True
 | .bool b=>b = true
 | .dec p=>p
 | _=>False

def eqP : AV -> AV -> Prop
 | .int _ a,.int _ b=>a = b
 | .str a,.str b=>a = b
 | A,B=>(Zm A ↔ Zm B)
def Ny : List AV -> List AV -> Prop
 | [],[]=>True
 | x :: l,y :: m=>eqP x y /\ Ny l m
 | _,_=>False

structure EqOk (P : Program) (t : Nat) (zs : List AV) : Prop where
 run : ∀ w Im l m cs ds,gY zs l = true -> gY zs m = true -> lM w Im l cs.toList -> lM w Im m ds.toList -> ∃ r,(Op.equal t (.agg cs) (.agg ds)).run P w = .ok r w /\ (r = true ↔ cs = ds)
 grd : P.eqGuardType P.depth t = false

structure pU (P : Program) (t : Nat) (i : TI) : Prop where
 cmpd : i.cmp = true -> ∀ zs,i.zero = .ag zs -> EqOk P t zs
 keyed : ∀ k e sh,i.desc = .map k e -> i.key = some sh -> SK P k sh
 info : ∃ x v,P.info? t = some x /\ x.size = flat i.zero /\ x.bytes = i.bytes /\ x.zero = some v /\ eH i.zero v /\ ∀ w Im,Rd w Im i.zero v.cells.toList
 desc : (P.underlying t).map (descOf P) = some i.desc
 agg : WU i.desc = dI i.zero
 flds : ∀ fs,i.desc = .struct fs -> ∃ zs,i.zero = .ag zs /\ fs.map (fun f=>(f.1,f.2.1)) = uX 0 zs
 inf : ∀ fs,i.desc = .struct fs -> ∀ f ∈ fs,∃ x,P.info? f.2.2 = some x

def dR (P : Program) : Lay -> Prop
 | .nil=>True
 | .node l t i r=>pU P t i /\ dR P l /\ dR P r

theorem Lay.bn {P : Program} {k : TI -> Prop} : ∀ {L : Lay} {t : Nat},dR P L -> L.bM t k -> ∃ i,pU P t i /\ k i
 | .nil,_,_,h=>h.elim
 | .node l t' i r,t,hL,h=>by
   simp only [Lay.bM] at h
   cases hb : Nat.beq t t' with
   | true=>rw [hb] at h; obtain rfl:=Nat.eq_of_beq_eq_true hb; exact ⟨i,hL.1,h⟩
   | false =>
     rw [hb] at h
     cases hc : Nat.ble t t' with
     | true=>rw [hc] at h; exact Lay.bn hL.2.1 h
     | false=>rw [hc] at h; exact Lay.bn hL.2.2 h

def FW (v : Value) (k : AV -> Prop) : Prop :=
 match v with
 | .bool true=>k .tt
 | .bool false=>k .ff
 | .int kd n=>k (.int kd n)
 | .string s=>k (.str s.data.toList)
 | .slice none 0 0=>k .aG
 | .nilIface=>k .eP
 | .pointer none=>k .gK
 | .map none=>k .iT
 | .nilFunc=>k .aH
 | _=>False

def bV (e : Env) (x : Operand) (k : AV -> Prop) : Prop :=
 match x with
 | .tmp t=>xO e t k
 | .const v=>FW v k
 | .func f=>k (.fn f [])
 | .global _=>False

def pG (e : Env) : List Operand -> (List AV -> Prop) -> Prop
 | [],k=>k []
 | x :: l,k=>bV e x fun A=>pG e l fun As=>k (A :: As)

def pY {α : Type} : List α -> Nat -> (α -> Prop) -> Prop
 | [],_,_=>False
 | x :: _,0,k=>k x
 | _ :: l,n + 1,k=>pY l n k

def jr : List AV -> Nat -> AV -> (List AV -> Prop) -> Prop
 | [],_,_,_=>False
 | _ :: l,0,y,k=>k (y :: l)
 | x :: l,n + 1,y,k=>jr l n y fun l'=>k (x :: l')

def Iz : List Nat -> Nat -> (List Nat -> Prop) -> Prop
 | [],x,k=>k [x]
 | y :: l,x,k=>Iz l x fun l'=>k (y :: l')

def Ot : List AV -> List AV -> (List AV -> Prop) -> Prop
 | [],m,k=>k m
 | x :: l,m,k=>Ot l m fun l'=>k (x :: l')

def vk : AV -> List Nat -> (AV -> Prop) -> Prop
 | A,[],k=>k A
 | .ag l,i :: p,k=>pY l i fun x=>vk x p k
 | _,_ :: _,_=>False

def y5 : AV -> List Nat -> AV -> (AV -> Prop) -> Prop
 | _,[],y,k=>k y
 | .ag l,i :: p,y,k=>pY l i fun x=>y5 x p y fun x'=>jr l i x' fun l'=>k (.ag l')
 | _,_ :: _,_,_=>False

def EJ : AV -> List Nat -> Nat
 | .ag l,i :: p=>iK (l.take i) + (match l[i]? with | some x=>EJ x p | none=>0)
 | _,_=>0

def isVal : AV -> Bool
 | .eG _ | .und=>false
 | _=>true

def Ee (A : AV) (k : Prop) : Prop:=match isVal A with | true=>k | false=>False

def BU : List AV -> Prop -> Prop
 | [],k=>k
 | A :: l,k=>Ee A (BU l k)

def yG (L : Lay) (t : Nat) (x : AV) (k : Prop) : Prop :=
 Ee x <| L.bM t fun i=>match Nat.beq (flat x) (flat i.zero) with
  | false=>False
  | true=>match dI x,dI i.zero with
    | true,true=>k
    | false,false=>k
    | _,_=>False

def kH (a b : Nat) (k : Prop) : Prop:=match Nat.beq a b with | true=>k | false=>False
def BI (a b : Nat) (k : Prop) : Prop:=match Nat.ble a b with | true=>k | false=>False

def br (A : AV) (kt kf : Prop) : Prop :=
 match A with
 | .tt=>kt
 | .ff=>kf
 | .bool b=>(b = true -> kt) /\ (b = false -> kf)
 | .dec p=>(p -> kt) /\ (¬ p -> kf)
 | _=>False

def arith (kd : IntKind) (z : Int) (k : AV -> Prop) : Prop :=
 match kd with
 | .i64=>uN .i64 z /\ k (.int .i64 z)
 | kd=>k (.int kd (kd.wrap z))

def jC (op : BinOp) (k : IntKind) (x y : Int) : Int :=
 match op with
 | .and=>k.wrap (BitVec.ofInt k.bits x &&& BitVec.ofInt k.bits y).toNat
 | .or=>k.wrap (BitVec.ofInt k.bits x ||| BitVec.ofInt k.bits y).toNat
 | .xor=>k.wrap (BitVec.ofInt k.bits x ^^^ BitVec.ofInt k.bits y).toNat
 | _=>k.wrap (BitVec.ofInt k.bits x &&& ~~~ (BitVec.ofInt k.bits y)).toNat

def Es (k : IntKind) (x y : Int) : Int:=k.wrap (x * 2 ^ min y.toNat k.bits)
def uK (k : IntKind) (x y : Int) : Int:=x.fdiv (2 ^ min y.toNat k.bits)

def uM : AV -> (AV -> Prop) -> Prop
 | .tt,k=>k .ff
 | .ff,k=>k .tt
 | .bool b,k=>k (.bool (!b))
 | .dec p,k=>k (.dec (¬ p))
 | _,_=>False

def Gj (x : AV) (k : AV -> Prop) : Prop :=
 match x with
 | .tt=>k .tt | .ff=>k .ff | .bool b=>k (.bool b) | .dec p=>k (.dec p) | _=>False

def Zx (A B : AV) (k : AV -> Prop) : Prop :=
 match A,B with
 | .tt,x=>Gj x k
 | x,.tt=>Gj x k
 | .ff,x=>uM x k
 | x,.ff=>uM x k
 | .bool a,.bool b=>k (.dec (a = b))
 | .dec p,.dec q=>k (.dec (p ↔ q))
 | .dec p,.bool b=>k (.dec (p ↔ b = true))
 | .bool b,.dec p=>k (.dec (b = true ↔ p))
 | _,_=>False

def Ce (A B : AV) (k : AV -> Prop) : Prop :=
 match A,B with
 | .eP,.eP=>k .tt
 | .eP,.jm _ _=>k .ff
 | .jm _ _,.eP=>k .ff
 | _,_=>False

def uY (A B : AV) (k : AV -> Prop) : Prop :=
 match A,B with
 | .gK,.gK=>k .tt
 | .cp _,.gK=>k .ff
 | .ptr _ _ _,.gK=>k .ff
 | _,_=>False

def Yh (d : TD) (op : BinOp) (hc : Bool) (A B : AV) (k : AV -> Prop) : Prop :=
 match d,op with
 | .bool,.eql=>Zx A B k
 | .bool,.neq=>Zx A B fun R=>uM R k
 | .iface,.eql=>(match hc with | true=>Ce A B k | false=>False)
 | .iface,.neq=>(match hc with | true=>Ce A B fun R=>uM R k | false=>False)
 | .ptr _,.eql=>uY A B k
 | .ptr _,.neq=>uY A B fun R=>uM R k
 | _,_=>False

def BO (d : TD) (op : BinOp) (hc : Bool) (A B : AV) (k : AV -> Prop) : Prop :=
 match A,B with
 | .int ka a,.int kb b =>
   (match op with
   | .shl=>0 <= b /\ k (.int ka (Es ka a b))
   | .shr=>0 <= b /\ k (.int ka (uK ka a b))
   | op=>match qg ka kb with
     | false=>False
     | true=>match op with
       | .add=>arith ka (a + b) k
       | .sub=>arith ka (a - b) k
       | .mul=>arith ka (a * b) k
       | .quo=>b ≠ 0 /\ arith ka (a.tdiv b) k
       | .rem=>b ≠ 0 /\ k (.int ka (a.tmod b))
       | .eql=>k (.dec (a = b))
       | .neq=>k (.dec (a ≠ b))
       | .lss=>k (.dec (a < b))
       | .leq=>k (.dec (a <= b))
       | .gtr=>k (.dec (b < a))
       | .geq=>k (.dec (b <= a))
       | op=>k (.int ka (jC op ka a b)))
 | .str a,.str b =>
   (match op with
   | .add=>a.length + b.length <= maxL /\ k (.str (a ++ b))
   | .eql=>k (.dec (a = b))
   | .neq=>k (.dec (a ≠ b))
   | .lss=>k (.bool (Op.bytesLess a b))
   | _=>False)
 | A,B=>Yh d op hc A B k

def Ov (i : TI) (op : BinOp) (A B : AV) (k : AV -> Prop) : Prop :=
 match i.cmp,i.zero,A,B with
 | true,.ag zs,.ag l,.ag m=>match gY zs l,gY zs m with
   | true,true=>(match op with
     | .eql=>k (.dec (Ny l m))
     | .neq=>k (.dec (¬ Ny l m))
     | _=>False)
   | _,_=>False
 | _,_,_,_=>False

structure bZ {α : Type} (l : List α) (n : Int) (k : α -> Prop) : Prop where
 ex : ∃ x,(0 <= n /\ l[n.toNat]? = some x) /\ k x

structure OJ {α : Type} (l : List α) (lo hi : Int) (k : List α -> Prop) : Prop where
 ex : (0 <= lo /\ lo <= hi /\ hi <= (l.length : Int)) /\ k ((l.drop lo.toNat).take (hi.toNat - lo.toNat))

inductive bU (e n : Nat) (sz : Nat) (z : AV) (H : Heap) (k : AV -> Heap -> Prop) : Prop where
 | pure (h : n = e /\ k (.sl sz (List.replicate n z) .full) H)
 | wr (h : k (.ms (nextId H) 0 n e sz) ((nextId H,.arr sz e (List.replicate n z)) :: H))

def xJ (A : AV) (k : AV -> Prop) : Prop:=match nR A with | true=>k (strip A) | false=>False

def yX (H : Heap) (sz : Nat) (B : AV) (k : List AV -> Prop) : Prop :=
 match B with
 | .aG=>k []
 | .sl sz' m _=>kH sz' sz (k m)
 | .ms j off len _ sz'=>iJ H j fun o=>match o with
   | .arr VB _ l=>kH sz' sz (kH VB sz (off + len <= l.length /\ k ((l.drop off).take len)))
   | _=>False
 | .str s=>kH sz 1 (k (s.map fun b=>.int .u8 b.toNat))
 | _=>False

structure fE (sz bytes : Nat) (l m : List AV) (k : Prop) : Prop where
 len : l.length + m.length <= maxL
 room : (l.length + m.length) * bytes <= 140737488355328
 next : k

inductive xZ (sz bytes : Nat) (l m : List AV) (H : Heap) (k : AV -> Heap -> Prop) : Prop where
 | tok (len : l.length + m.length <= maxL) (room : (l.length + m.length) * bytes <= 140737488355328) (next : oQ H (.tok sz (l.length + m.length)) fun j H'=>k (.sl sz (l ++ m) (.own j)) H')
 | pure (len : l.length + m.length <= maxL) (room : (l.length + m.length) * bytes <= 140737488355328) (next : k (.sl sz (l ++ m) .no) H)

inductive YG (sz bytes : Nat) (l m : List AV) (H : Heap) (k : AV -> Heap -> Prop) : Prop where
 | tok (len : l.length + m.length <= maxL) (room : (l.length + m.length) * bytes <= 140737488355328) (next : oQ H (.tok sz (l.length + m.length)) fun j H'=>k (.sl sz (l ++ m) (.own j)) H')
 | pure (len : l.length + m.length <= maxL) (room : (l.length + m.length) * bytes <= 140737488355328) (next : k (.sl sz (l ++ m) .no) H)
 | wr (ne : m ≠ []) (len : l.length + m.length <= maxL) (room : (l.length + m.length) * bytes <= 140737488355328)
   (next : ∀ cp,l.length + m.length <= cp -> cp <= maxL -> k (.ms (nextId H) 0 (l.length + m.length) cp sz) ((nextId H,.arr sz cp (l ++ m)) :: H))

mutual
def rZ : AV -> AV -> Prop
 | .tt,.bool b=>b = true
 | .tt,.dec p=>p
 | .ff,.bool b=>b = false
 | .ff,.dec p=>¬ p
 | .bool a,.bool b=>a = b
 | .bool a,.dec p=>(a = true ↔ p)
 | .bool a,.tt=>a = true
 | .bool a,.ff=>a = false
 | .dec p,.bool b=>(p ↔ b = true)
 | .dec p,.dec q=>(p ↔ q)
 | .dec p,.tt=>p
 | .dec p,.ff=>¬ p
 | .int k a,.int k' b=>k = k' /\ a = b
 | .str a,.str b=>a = b
 | .aG,.sl _ l .no=>l = []
 | .sl s l .no,.sl s' l' .no=>s = s' /\ dK l l'
 | .ag l,.ag m=>dK l m
 | .jm t x,.jm t' y=>t = t' /\ rZ x y
 | A,B=>A = B
def dK : List AV -> List AV -> Prop
 | [],[]=>True
 | x :: l,y :: m=>rZ x y /\ dK l m
 | _,_=>False
end

mutual
def le0 : AV -> AV -> Prop
 | .tt,.bool b=>b = true
 | .tt,.dec p=>p
 | .ff,.bool b=>b = false
 | .ff,.dec p=>¬ p
 | .bool a,.bool b=>a = b
 | .bool a,.dec p=>(a = true ↔ p)
 | .bool a,.tt=>a = true
 | .bool a,.ff=>a = false
 | .dec p,.bool b=>(p ↔ b = true)
 | .dec p,.dec q=>(p ↔ q)
 | .dec p,.tt=>p
 | .dec p,.ff=>¬ p
 | .int k a,.int k' b=>k = k' /\ a = b
 | .str a,.str b=>a = b
 | .aG,.sl _ l .no=>l = []
 | .aG,.sl _ l .full=>l = []
 | .sl s l _,.sl s' l' .no=>s = s' /\ dK l l'
 | .sl s l .full,.sl s' l' .full=>s = s' /\ dK l l'
 | .sl s l (.own k),.sl s' l' (.own k')=>s = s' /\ dK l l' /\ k = k'
 | .jm t x,.jm t' y=>t = t' /\ le0 x y
 | .ag l,.ag m=>H9 l m
 | A,B=>A = B
def H9 : List AV -> List AV -> Prop
 | [],[]=>True
 | x :: l,y :: m=>le0 x y /\ H9 l m
 | _,_=>False
end

def le (A B : AV) : Prop:=match A,B with | _,.und=>True | .eG l,.eG m=>H9 l m | A,B=>le0 A B

mutual
def dN (n : Nat) : AV -> Bool
 | .ptr k _ _=>Nat.blt k n
 | .ms k _ _ _ _=>Nat.blt k n
 | .mp k=>Nat.blt k n
 | .gs k _=>Nat.blt k n
 | .bm _ k=>Nat.blt k n
 | .sl _ _ (.own k)=>Nat.blt k n
 | .fn _ cap=>iM n cap
 | .ag l=>iM n l
 | .eG l=>iM n l
 | .jm _ x=>dN n x
 | _=>true
def iM (n : Nat) : List AV -> Bool
 | []=>true
 | x :: l=>match dN n x with | true=>iM n l | false=>false
end

inductive JB (F : Nat -> List AV -> Heap -> AV -> Heap -> Prop) (kC : AV -> Prop) (f : Nat) (args : List AV) (H : Heap) (k : AV -> Heap -> Prop) : Prop where
 | gen (R : AV) (H' : Heap) (h : F f args H R H') (h' : kC R -> k R H')
 | pure (Bs : List AV) (R : AV) (hle : H9 args Bs) (hb : iM 0 Bs = true /\ dN 0 R = true) (h : F f Bs [] R []) (h' : kC R -> k R H)

def jA : Operand -> Bool
 | .const _=>true
 | _=>false

mutual
def Hw : AV -> List Value
 | .int k n=>[.int k n]
 | .str s=>[.string ⟨s.toArray⟩]
 | .ag l=>Zl l
 | _=>[]
def Zl : List AV -> List Value
 | []=>[]
 | x :: l=>Hw x ++ Zl l
end

def LookR (es : List (AV × AV)) (K : AV) : Option AV -> Prop
 | none=>∀ x ∈ es,Hw x.1 ≠ Hw K
 | some v=>∃ x ∈ es,Hw x.1 = Hw K /\ x.2 = v

structure wz (es : List (AV × AV)) (K : AV) (k : Option AV -> Prop) : Prop where
 ex : ∃ r,LookR es K r /\ k r

def UpdR (es : List (AV × AV)) (K V : AV) (es' : List (AV × AV)) : Prop :=
 ((∀ x ∈ es,Hw x.1 ≠ Hw K) /\ es' = es ++ [(K,V)]) \/ ∃ j x,es[j]? = some x /\ Hw x.1 = Hw K /\ es' = es.set j (K,V)

structure Vb (es : List (AV × AV)) (K V : AV) (k : List (AV × AV) -> Prop) : Prop where
 ex : ∃ es',UpdR es K V es' /\ k es'

def MP (b : Bool) (k : Prop) : Prop:=match b with | true=>k | false=>False

def uF (ok : Bool) (z : AV) (r : Option AV) (k : AV -> Prop) : Prop :=
 match ok,r with
 | true,some v=>k (.eG [v,.tt])
 | true,none=>k (.eG [z,.ff])
 | false,some v=>k v
 | false,none=>k z

def KT (z : AV) (s : Nat) (A : AV) (ok : Bool) (k : AV -> Prop) : Prop :=
 match A,ok with
 | .eP,true=>k (.eG [z,.ff])
 | .jm t y,true=>(match Nat.beq t s with | true=>k (.eG [y,.tt]) | false=>k (.eG [z,.ff]))
 | .jm t y,false=>(match Nat.beq t s with | true=>k y | false=>False)
 | _,_=>False

def U2 (op : BinOp) (A : AV) (k : AV -> Prop) : Prop :=
 match op,A with
 | .eql,.aG=>k .tt
 | .neq,.aG=>k .ff
 | .eql,.ms _ _ _ _ _=>k .ff
 | .neq,.ms _ _ _ _ _=>k .tt
 | .eql,.sl _ l _=>∀ b : Bool,(b = true -> l = []) -> k (.bool b)
 | .neq,.sl _ l _=>∀ b : Bool,(b = false -> l = []) -> k (.bool b)
 | _,_=>False

def nX : Op -> Bool
 | .binOp _ _ _ (.const (.slice none 0 0)) _=>true
 | _=>false

def noNil (op : Op) (k : Prop) : Prop:=match nX op with | true=>False | false=>k

def iV (e : Env) : List (Nat × Operand) -> List AV -> (List AV -> Prop) -> Prop
 | [],zs,k=>k zs
 | (i,x) :: ps,zs,k=>bV e x fun A=>Ee A <| pY zs i fun z=>kH (flat A) (flat z) (match dI A,dI z with
   | true,true=>jr zs i A fun zs'=>iV e ps zs' k
   | false,false=>jr zs i A fun zs'=>iV e ps zs' k
   | _,_=>False)

def zO : List AV -> Bool
 | []=>true
 | x :: l=>match Nat.beq (flat x) 1 with | true=>zO l | false=>false

def ji (e : Env) : List (Nat × Operand) -> List AV -> (List AV -> Prop) -> Prop
 | [],zs,k=>k zs
 | (i,x) :: ps,zs,k=>bV e x fun A=>pY zs i fun z=>kH (flat A) (flat z) (match dI A,dI z with
   | true,true=>xJ A fun B=>jr zs i B fun zs'=>ji e ps zs' k
   | false,false=>xJ A fun B=>jr zs i B fun zs'=>ji e ps zs' k
   | _,_=>False)

def JJ (z : AV) : Nat -> (List AV -> Prop) -> Prop
 | 0,k=>k []
 | n + 1,k=>JJ z n fun l=>k (z :: l)

section
variable (F : Nat -> List AV -> Heap -> AV -> Heap -> Prop) (kC : AV -> Prop) (L : Lay)

def jD (t : Nat) (A : AV) (H : Heap) (k : AV -> Prop) : Prop :=
 match A with
 | .cp x=>yG L t x (k x)
 | .ptr i p off=>iJ H i fun o=>match o with
   | .box A=>vk A p fun x=>kH (EJ A p) off (yG L t x (k x))
   | .arr sz _ l=>(match p with
     | [j]=>bZ l (j : Int) fun x=>off = j * sz /\ yG L t x (k x)
     | j :: q=>bZ l (j : Int) fun x=>vk x q fun y=>off = j * sz + EJ x q /\ yG L t y (k y)
     | _=>False)
   | _=>False
 | _=>False

def Gv (t : Nat) (A B : AV) (H : Heap) (k : Heap -> Prop) : Prop :=
 match A with
 | .ptr i p off=>iJ H i fun o=>match o with
   | .box A=>vk A p fun x=>kH (EJ A p) off (yG L t B (kH (flat x) (flat B) (y5 A p B fun A'=>uG H i (.box A') k)))
   | .arr sz cap l=>(match p with
     | [j]=>xJ B fun B'=>kH (flat B) sz (yG L t B (j < l.length /\ off = j * sz /\ uG H i (.arr sz cap (l.set j B')) k))
     | j :: q=>bZ l (j : Int) fun x=>vk x q fun y=>off = j * sz + EJ x q /\ yG L t B (kH (flat y) (flat B) (y5 x q B fun A'=>xJ A' fun A''=>uG H i (.arr sz cap (l.set j A'')) k))
     | _=>False)
   | _=>False
 | _=>False

def Aj (t : Nat) (A K V : AV) (H : Heap) (ks : Heap -> Prop) : Prop :=
 L.bM t fun i=>(match i.desc,i.key with
  | .map _ et,some sh=>MP (au sh K) <| yG L et V <| (match A with
    | .mp j=>iJ H j fun o=>(match o with
      | .dU sh' es=>MP (au sh' sh) <| Vb es K V fun es'=>uG H j (.dU sh' es') ks
      | _=>False)
    | _=>False)
  | _,_=>False)

def BM (t : Nat) (A : AV) (f : Nat) (k : AV -> Prop) : Prop :=
 L.bM t fun i=>match i.desc,i.zero with
  | .struct _,.ag zs=>(match A with
    | .cp (.ag l)=>kH (iK (l.take f)) (iK (zs.take f)) (pY zs f fun z=>(match flat z with
      | 0=>False
      | _ + 1=>pY l f fun x=>k (.cp x)))
    | .ptr j p off=>pY zs f fun z=>(match flat z with
      | 0=>False
      | _ + 1=>Iz p f fun p'=>k (.ptr j p' (off + iK (zs.take f))))
    | _=>False)
  | _,_=>False

def KX (t : Nat) (A : AV) (f : Nat) (k : AV -> Prop) : Prop :=
 L.bM t fun i=>match i.desc,i.zero,A with
  | .struct fs,.ag zs,.ag l=>pY zs f fun _=>pY fs f fun fd=>L.bM fd.2.2 fun j=>(match dI j.zero with
    | false=>kH (iK (l.take f)) (iK (zs.take f)) (pY l f fun y=>(match dI y with | false=>k y | true=>False))
    | true=>False)
  | _,_,_=>False

def l7 (t : Nat) (A I : AV) (k : AV -> Prop) : Prop :=
 match I with
 | .int _ n=>L.bM t fun i=>(match i.desc,A with
   | .slice e,.sl sz l _=>L.bM e fun ei=>kH sz (flat ei.zero) (bZ l n fun x=>k (.cp x))
   | .slice e,.ms j off len _ sz=>L.bM e fun ei=>kH sz (flat ei.zero) ((0 <= n /\ n < (len : Int)) /\ k (.ptr j [off + n.toNat] ((off + n.toNat) * sz)))
   | .arr m e,.ptr j p off=>L.bM e fun ei=>(0 <= n /\ n < (m : Int)) /\ Iz p n.toNat fun p'=>k (.ptr j p' (off + n.toNat * flat ei.zero))
   | _,_=>False)
 | _=>False

def BL (t : Nat) (A I : AV) (k : AV -> Prop) : Prop :=
 match A,I with
 | .str s,.int _ n=>L.bM t fun i=>(match i.desc with
   | .str=>bZ s n fun b=>k (.int .u8 b.toNat)
   | _=>False)
 | _,_=>False

def yH (e : Env) (x : Option Operand) (d : Int) (k : Int -> Prop) : Prop :=
 match x with
 | none=>k d
 | some x=>bV e x fun A=>match A with | .int _ n=>k n | _=>False

def aslice (t : Nat) (e : Env) (A : AV) (lo hi : Option Operand) (k : AV -> Prop) : Prop :=
 L.bM t fun i=>match i.desc,A with
  | .str,.str s=>yH e lo 0 fun l=>yH e hi s.length fun h=>OJ s l h fun s'=>k (.str s')
  | .slice el,.sl sz l _=>L.bM el fun ei=>kH sz (flat ei.zero) (yH e lo 0 fun a=>yH e hi l.length fun b=>OJ l a b fun l'=>k (.sl sz l' .no))
  | .slice el,.ms j off len cap sz=>L.bM el fun ei=>kH sz (flat ei.zero) (yH e lo 0 fun a=>yH e hi len fun b =>
    (0 <= a /\ a <= b /\ b <= (len : Int)) /\ a < (cap : Int) /\ k (.ms j (off + a.toNat) (b.toNat - a.toNat) (cap - a.toNat) sz))
  | _,_=>False

def jH (t : Nat) (A B : AV) (H : Heap) (k : AV -> Heap -> Prop) : Prop :=
 L.bM t fun i=>match i.desc with
  | .slice e=>L.bM e fun ei=>(match A with
    | .aG=>yX H (flat ei.zero) B fun m=>xZ (flat ei.zero) ei.bytes [] m H k
    | .sl sz l .full=>kH sz (flat ei.zero) (yX H sz B fun m=>xZ sz ei.bytes l m H k)
    | .sl sz l (.own j)=>kH sz (flat ei.zero) (yX H sz B fun m=>iJ H j fun o=>match o with
      | .tok sz' top=>kH sz' sz (top = l.length /\ fE sz ei.bytes l m (uG H j (.tok sz (l.length + m.length)) fun H'=>k (.sl sz (l ++ m) (.own j)) H'))
      | _=>False)
    | _=>False)
  | _=>False

def vU (t : Nat) (A B : AV) (H : Heap) (k : AV -> Heap -> Prop) : Prop :=
 L.bM t fun i=>match i.desc with
  | .slice e=>L.bM e fun ei=>(match A with
    | .aG=>yX H (flat ei.zero) B fun m=>YG (flat ei.zero) ei.bytes [] m H k
    | .sl sz l .full=>kH sz (flat ei.zero) (yX H sz B fun m=>YG sz ei.bytes l m H k)
    | .sl sz l (.own j)=>kH sz (flat ei.zero) (yX H sz B fun m=>iJ H j fun o=>match o with
      | .tok sz' top=>kH sz' sz (top = l.length /\ fE sz ei.bytes l m (uG H j (.tok sz (l.length + m.length)) fun H'=>k (.sl sz (l ++ m) (.own j)) H'))
      | _=>False)
    | .gs j len=>yX H (flat ei.zero) B fun m=>iJ H j fun o=>match o with
      | .iU sz l=>kH sz (flat ei.zero) (l.length = len /\ m ≠ [] /\ fE sz ei.bytes l m (uG H j (.iU sz (l ++ m)) fun H'=>k (.gs j (len + m.length)) H'))
      | _=>False
    | _=>False)
  | _=>False

def KW (d : TD) (A : AV) (_ : Heap) (k : AV -> Prop) : Prop :=
 match d,A with
 | .slice _,.aG=>k (.int .i64 0)
 | .slice _,.sl _ l _=>k (.int .i64 l.length)
 | .slice _,.ms _ _ len _ _=>k (.int .i64 len)
 | .str,.str s=>k (.int .i64 s.length)
 | .map _ _,.iT=>k (.int .i64 0)
 | _,_=>False

def Px (A B : AV) (k : AV -> Prop) : Prop :=
 match A,B with
 | .int ka a,.int kb b=>(match qg ka kb with | true=>k (.int ka (max a b)) | false=>False)
 | _,_=>False
def Dp (A B : AV) (k : AV -> Prop) : Prop :=
 match A,B with
 | .int ka a,.int kb b=>(match qg ka kb with | true=>k (.int ka (min a b)) | false=>False)
 | _,_=>False

def gu (b : Builtin) (argTypes : List Nat) (args : List AV) (H : Heap) (k : AV -> Heap -> Prop) : Prop :=
 match b,argTypes,args with
 | .len,t :: _,[A]=>L.bM t fun i=>KW i.desc A H fun R=>k R H
 | .append,t :: u :: _,[A,B]=>L.bM u fun i=>(match i.desc with
   | .slice _=>jH L t A B H k
   | .str=>jH L t A B H k
   | _=>False)
 | .max,_,[A,B]=>Px A B fun R=>k R H
 | .min,_,[A,B]=>Dp A B fun R=>k R H
 | _,_,_=>False

def BN (b : Builtin) (argTypes : List Nat) (args : List AV) (H : Heap) (k : AV -> Heap -> Prop) : Prop :=
 match b,argTypes,args with
 | .len,t :: _,[A]=>L.bM t fun i=>(match i.desc,A with
   | .map _ _,.mp j=>iJ H j fun o=>(match o with
     | .dU _ es=>es.length <= 9223372036854775807 /\ k (.int .i64 es.length) H
     | _=>False)
   | d,A=>KW d A H fun R=>k R H)
 | .append,t :: u :: _,[A,B]=>L.bM u fun i=>(match i.desc with
   | .slice _=>vU L t A B H k
   | .str=>vU L t A B H k
   | _=>False)
 | .max,_,[A,B]=>Px A B fun R=>k R H
 | .min,_,[A,B]=>Dp A B fun R=>k R H
 | .min,_,[A,B,C]=>Dp A B fun R=>Dp R C fun R=>k R H
 | _,_,_=>False

def fZ (op : Op) (e : Env) (H : Heap) (k : AV -> Heap -> Prop) (ks : Heap -> Prop) : Prop :=
 match op with
 | .move x=>bV e x fun A=>k A H
 | .assign x=>bV e x fun A=>k A H
 | .pick c a b=>bV e c fun C=>(match C with
   | .tt=>bV e a fun A=>k A H
   | .ff=>bV e b fun A=>k A H
   | .bool x=>(x = true -> bV e a fun A=>k A H) /\ (x = false -> bV e b fun A=>k A H)
   | .dec p=>(p -> bV e a fun A=>k A H) /\ (¬ p -> bV e b fun A=>k A H)
   | _=>False)
 | .alloc t=>L.bM t fun i=>oQ H (.box i.zero) fun j H'=>k (.ptr j [] 0) H'
 | .box t x=>bV e x fun A=>yG L t A (oQ H (.box A) fun j H'=>k (.ptr j [] 0) H')
 | .build t ps=>L.bM t fun i=>(match i.desc,i.zero with
   | .struct _,.ag zs=>iV e ps.toList zs fun l=>k (.ag l) H
   | .arr _ el,.ag zs=>L.bM el fun ei=>kH (flat ei.zero) 1 (MP (zO zs) (iV e ps.toList zs fun l=>k (.ag l) H))
   | _,_=>False)
 | .buildSlice t n ps=>L.bM t fun i=>(match i.desc with
   | .slice el=>L.bM el fun ei=>BI (n * flat ei.zero) 16777216 <| BI n 16777216 <| JJ ei.zero n fun zs=>ji e ps.toList zs fun l=>k (.sl (flat ei.zero) l .full) H
   | _=>False)
 | .load t x=>bV e x fun A=>jD L t A H fun R=>k R H
 | .store t a x=>bV e a fun A=>bV e x fun B=>Gv L t A B H ks
 | .nilCheck x=>bV e x fun A=>(match A with
   | .ptr _ _ _=>k A H
   | .cp _=>k A H
   | .fn _ _=>k A H
   | _=>False)
 | .binOp op t x y ty=>(match nX (.binOp op t x y ty) with
   | true=>bV e x fun A=>L.bM t fun i=>(match i.desc with | .slice _=>U2 op A fun R=>k R H | _=>False)
   | false=>bV e x fun A=>bV e y fun B=>L.bM t fun i=>match dI A with
     | true=>Ov i op A B fun R=>k R H
     | false=>BO i.desc op (jA x || jA y) A B fun R=>k R H)
 | .typeAssert x _ s ok=>bV e x fun A=>L.bM s fun i=>(match i.desc with
   | .iface=>False
   | _=>KT i.zero s A ok fun R=>k R H)
 | .makeMap t r=>(match r with
   | none=>L.bM t fun i=>(match i.key with | some sh=>oQ H (.dU sh []) fun j H'=>k (.mp j) H' | none=>False)
   | some _=>False)
 | .lookup t x ix ok=>bV e x fun A=>bV e ix fun K=>L.bM t fun i=>(match i.desc,i.key with
   | .map _ et,some sh=>MP (au sh K) <| L.bM et fun ei=>(match A with
     | .mp j=>iJ H j fun o=>(match o with
       | .dU sh' es=>MP (au sh' sh) <| wz es K fun r=>uF ok ei.zero r fun R=>k R H
       | _=>False)
     | _=>False)
   | _,_=>False)
 | .mapUpdate t x ix y=>bV e x fun A=>bV e ix fun K=>bV e y fun V=>Aj L t A K V H ks
 | .unOp op _ x=>bV e x fun A=>(match op,A with
   | .not,A=>uM A fun R=>k R H
   | .neg,.int ka a=>arith ka (0 - a) fun R=>k R H
   | _,_=>False)
 | .convert s d x=>bV e x fun A=>L.bM s fun _=>L.bM d fun i=>(match i.desc,A with
   | .int kd,.int _ n=>k (.int kd (kd.wrap n)) H
   | .str,.str s=>k (.str s) H
   | _,_=>False)
 | .makeInterface t x=>bV e x fun A=>L.bM t fun i=>(match i.desc with
   | .iface=>False
   | _=>Ee A (k (.jm t A) H))
 | .makeFunc f first cap=>(match f,first.toList with
   | .func g,[]=>pG e cap.toList fun As=>BU As (k (.fn g As) H)
   | _,_=>False)
 | .makeSlice t l c=>bV e l fun A=>bV e c fun B=>L.bM t fun i=>(match i.desc,A,B with
   | .slice el,.int _ n,.int _ m=>L.bM el fun ei=>(0 <= n /\ n <= m /\ m * (ei.bytes : Int) <= 281474976710656 /\ m <= 9223372036854775807) /\
     bU m.toNat n.toNat (flat ei.zero) ei.zero H k
   | _,_,_=>False)
 | .slice t x lo hi mx=>(match mx with
   | none=>bV e x fun A=>aslice L t e A lo hi fun R=>k R H
   | some _=>False)
 | .fieldAddr t x f=>bV e x fun A=>BM L t A f fun R=>k R H
 | .indexAddr t x i=>bV e x fun A=>bV e i fun I=>l7 L t A I fun R=>k R H
 | .index t x i=>bV e x fun A=>bV e i fun I=>BL L t A I fun R=>k R H
 | .extract x i=>bV e x fun A=>(match A with
   | .eG l=>pY l i fun R=>k R H
   | _=>False)
 | .call c=>(match c.callee with
   | .value f=>bV e f fun A=>(match A with
     | .fn g cap=>pG e c.args.toList fun As=>Ot As cap fun Bs=>JB F kC g Bs H k
     | _=>False)
   | .builtin b=>pG e c.args.toList fun As=>gu L b c.argTypes.toList As H k
   | .invoke _ _=>False)
 | _=>False

def yJ (op : Op) (e : Env) (H : Heap) (k : AV -> Heap -> Prop) (ks : Heap -> Prop) : Prop :=
 match op with
 | .call c=>(match c.callee with
   | .builtin b=>pG e c.args.toList fun As=>BN L b c.argTypes.toList As H k
   | .value f=>bV e f fun A=>(match A with
     | .bm g j=>pG e c.args.toList fun As=>JB F kC g (.ptr j [] 0 :: As) H k
     | _=>fZ F kC L (.call c) e H k ks)
   | _=>fZ F kC L (.call c) e H k ks)
 | .makeFunc f first cap=>(match first.toList with
   | [x]=>(match f,cap.toList with
     | .func g,[]=>bV e x fun A=>(match A with
       | .ptr j [] 0=>k (.bm g j) H
       | _=>False)
     | _,_=>False)
   | _=>fZ F kC L (.makeFunc f first cap) e H k ks)
 | .insert t x ix y=>bV e x fun A=>bV e ix fun K=>bV e y fun V=>Aj L t A K V H ks
 | .field t x f=>bV e x fun A=>KX L t A f fun R=>k R H
 | op=>fZ F kC L op e H k ks

end

inductive AX where
 | normal
 | exit (id : Nat)
 | ret

def eX : List Oper -> List Nat
 | []=>[]
 | o :: l=>match o.dst with | some d=>d :: eX l | none=>eX l

def writes : Code -> List Nat
 | .region _ ops _=>eX ops.toList
 | .seq a b=>writes a ++ writes b
 | .cond _ a b=>writes a ++ writes b
 | .block _ b=>writes b
 | .loop b=>writes b
 | .scope b=>writes b
 | .rangeFunc _ _ a b=>writes a ++ writes b
 | _=>[]

def Vg : List (AV × AV) -> List (AV × AV) -> Prop
 | [],[]=>True
 | (x,v) :: l,(y,u) :: m=>x = y /\ le0 v u /\ Vg l m
 | _,_=>False

def OM : HO -> HO -> Prop
 | .box A,.box B=>le0 A B
 | .arr s c l,.arr s' c' l'=>s = s' /\ c = c' /\ dK l l'
 | .tok s n,.tok s' n'=>s = s' /\ n = n'
 | .dU s a,.dU s' b=>s = s' /\ Vg a b
 | .iU s l,.iU s' l'=>s = s' /\ dK l l'
 | _,.gone=>True
 | _,_=>False

def Gl (n : Nat) : HO -> Bool
 | .box A=>dN n A
 | _=>true

def oq (n : Nat) : List (AV × AV) -> Bool
 | []=>true
 | (x,y) :: l=>match dN n x,dN n y with | true,true=>oq n l | _,_=>false

def Sm (e : Env) (n : Nat) : Env -> Prop
 | []=>True
 | (t,A) :: E=>xO e t (fun A'=>le A' A /\ dN n A = true) /\ Sm e n E

def WkH (H : Heap) (n : Nat) : Heap -> Prop
 | []=>True
 | (k,o) :: G=>iJ H k (fun o'=>OM o' o /\ (match o with | .dU _ es=>oq n es = true | o=>Gl n o = true)) /\ WkH H n G

structure QE (H : Heap) (G : Heap) : Prop where
 get : WkH H (nextId G) G
 ids : ay G

inductive HWk (H : Heap) (G : Heap) : Prop where
 | refl (h : H = G)
 | mk (get : WkH H (nextId G) G) (ids : ay G)

inductive Cv : Env -> Heap -> Env -> Heap -> Prop where
 | refl (e : Env) (H : Heap) : Cv e H e H
 | grow {e : Env} {H : Heap} {e' : Env} {H' : Heap} (t sz : Nat) (l : List AV) (A : AV) (h : dP e t = some A) (hA : (A = .aG /\ l = []) \/ A = .sl sz l .full)
   (h' : Cv ((t,.sl sz l (.own (nextId H))) :: e) ((nextId H,.tok sz l.length) :: H) e' H') : Cv e H e' H'
 | freeze {e : Env} {H : Heap} {e' : Env} {H' : Heap} (t j off len cap cp sz : Nat) (l : List AV) (h : dP e t = some (.ms j off len cap sz)) (ho : hget H j = some (.arr sz cp l)) (hl : off + len <= l.length)
   (h' : Cv ((t,.sl sz ((l.drop off).take len) .no) :: e) (hset H j .gone) e' H') : Cv e H e' H'
 | keep {e : Env} {H : Heap} {e' : Env} {H' : Heap} (t j len cp sz : Nat) (l : List AV) (h : dP e t = some (.ms j 0 len cp sz)) (ho : hget H j = some (.arr sz cp l)) (hl : len <= l.length)
   (h' : Cv ((t,.sl sz (l.take len) (.own (nextId H))) :: e) ((nextId H,.tok sz len) :: hset H j .gone) e' H') : Cv e H e' H'
 | I9 {e : Env} {H : Heap} {e' : Env} {H' : Heap} (j : Nat) (p : List Nat) (sz : Nat) (l : List AV) (A B A' : AV) (ho : hget H j = some (.box A)) (hp : vk A p (fun x=>x = B)) (hB : (B = .aG /\ l = []) \/ B = .sl sz l .full)
   (hs : y5 A p (.sl sz l (.own (nextId H))) (fun x=>x = A')) (h' : Cv e (hset ((nextId H,.tok sz l.length) :: H) j (.box A')) e' H') : Cv e H e' H'
 | growW {e : Env} {H : Heap} {e' : Env} {H' : Heap} (t sz : Nat) (h : dP e t = some .aG)
   (h' : Cv ((t,.gs (nextId H) 0) :: e) ((nextId H,.iU sz []) :: H) e' H') : Cv e H e' H'
 | Kz {e : Env} {H : Heap} {e' : Env} {H' : Heap} (t j sz : Nat) (l : List AV) (h : dP e t = some (.gs j l.length)) (ho : hget H j = some (.iU sz l)) (hl : l.length <= maxL)
   (h' : Cv ((t,.sl sz l .no) :: e) (hset H j .gone) e' H') : Cv e H e' H'

structure aC (kC : AV -> Prop) (ws : List Nat) (body : (AX -> Env -> Heap -> Prop) -> Env -> Heap -> Prop) (Q : AX -> Env -> Heap -> Prop) (e : Env) (H : Heap) : Prop where
 ex : ∃ (e₁ : Env) (H₁ : Heap) (ι : Type) (E : ι -> Env) (kept : Env) (HS : ι -> Heap) (μ : ι -> Nat) (i₀ : ι) (R : ι -> Env -> Heap -> Prop),
  (∀ i e' H',R i e' H' -> ∃ i' e₂ H₂,Cv e' H' e₂ H₂ /\ (Sm e₂ (nextId (HS i')) (E i') /\ HWk H₂ (HS i')) /\ μ i' < μ i) /\
  Cv e H e₁ H₁ /\
  (∀ t A,(t,A) ∈ kept -> dP e₁ t = some A /\ ws.contains t = false) /\
  (∀ i,nextId (HS i) = nextId H₁) /\
  (Sm e₁ (nextId H₁) (E i₀) /\ HWk H₁ (HS i₀)) /\
  ∀ i,(∀ t A,(t,A) ∈ E i -> kC A) ->
    body (fun x e' H'=>match x with
     | .normal=>R i e' H'
     | x=>Q x e' H') (E i ++ kept) (HS i)

def LoopN (kC : AV -> Prop) (ws : List Nat) (body : (AX -> Env -> Heap -> Prop) -> Env -> Heap -> Prop) (Q : AX -> Env -> Heap -> Prop) : Nat -> Env -> Heap -> Prop
 | 0,e,H=>aC kC ws body Q e H
 | n + 1,e,H=>body (fun x e' H'=>match x with | .normal=>LoopN kC ws body Q n e' H' | x=>Q x e' H') e H

inductive aK (kC : AV -> Prop) (ws : List Nat) (body : (AX -> Env -> Heap -> Prop) -> Env -> Heap -> Prop) (Q : AX -> Env -> Heap -> Prop) (e : Env) (H : Heap) : Prop where
 | ex (h : ∃ n,LoopN kC ws body Q n e H)
 /-- What has grown by appends is written from now on. -/
 | thaw (t j sz : Nat) (l : List AV) (h : dP e t = some (.gs j l.length)) (ho : hget H j = some (.iU sz l)) (ne : l ≠ [])
   (next : ∀ cp,l.length <= cp -> cp <= maxL -> ∃ n,LoopN kC ws body Q n ((t,.ms (nextId H) 0 l.length cp sz) :: e) ((nextId H,.arr sz cp l) :: hset H j .gone))

section
variable (F : Nat -> List AV -> Heap -> AV -> Heap -> Prop) (kC : AV -> Prop) (L : Lay)

def kQ (dst : Option Nat) (A : AV) (e : Env) (k : Env -> Prop) : Prop :=
 match dst with
 | some d=>k ((d,A) :: e)
 | none=>k e

def ZB : List Oper -> Nat -> (Nat -> Prop) -> Prop
 | [],_,_=>False
 | o :: _,0,k=>match o.dst with | some d=>k d | none=>False
 | _ :: l,n + 1,k=>ZB l n k

def jo (ops : List Oper) (g : Option (Nat × Bool)) (e : Env) (yes no : Env -> Prop) : Prop :=
 match g with
 | none=>yes e
 | some (j,b)=>ZB ops j fun d=>xO e d fun A=>match A,b with
   | .tt,true=>yes e
   | .tt,false=>no e
   | .ff,true=>no e
   | .ff,false=>yes e
   | .bool x,true=>(x = true -> yes ((d,.tt) :: e)) /\ (x = false -> no ((d,.ff) :: e))
   | .bool x,false=>(x = true -> no ((d,.tt) :: e)) /\ (x = false -> yes ((d,.ff) :: e))
   | .dec p,true=>(p -> yes ((d,.tt) :: e)) /\ (¬ p -> no ((d,.ff) :: e))
   | .dec p,false=>(p -> no ((d,.tt) :: e)) /\ (¬ p -> yes ((d,.ff) :: e))
   | .eG [],_=>no e
   | _,_=>False

def tX (ops : List Oper) : List Oper -> Env -> Heap -> (Env -> Heap -> Prop) -> Prop
 | [],e,H,k=>k e H
 | o :: l,e,H,k=>jo ops o.guard e
     (fun e=>yJ F kC L o.op e H (fun A H'=>kQ o.dst A e fun e'=>tX ops l e' H' k) (fun H'=>match o.dst with | none=>tX ops l e H' k | some _=>False))
     (fun e=>kQ o.dst (.eG []) e fun e'=>tX ops l e' H k)

end

def EI : List Operand -> List Nat
 | []=>[]
 | .tmp t :: l=>t :: EI l
 | _ :: l=>EI l

def bK : Op -> List Operand
 | .move x | .assign x | .load _ x | .nilCheck x | .unOp _ _ x | .convert _ _ x | .makeInterface _ x | .box _ x | .extract x _ | .fieldAddr _ x _=>[x]
 | .pick a b d=>[a,b,d]
 | .store _ x y | .binOp _ _ x y _ | .makeSlice _ x y | .indexAddr _ x y | .index _ x y | .lookup _ x y _=>[x,y]
 | .typeAssert x _ _ _=>[x]
 | .mapUpdate _ x y z=>[x,y,z]
 | .build _ ps | .buildSlice _ _ ps=>ps.toList.map (·.2)
 | .makeFunc _ _ cap=>cap.toList
 | .slice _ x lo hi _=>x :: (lo.toList ++ hi.toList)
 | .call cl=>(match cl.callee with | .value f=>[f] | _=>[]) ++ cl.args.toList
 | _=>[]

def rG (acc : List Nat) : List Edge -> Nat -> Nat
 | [],s=>s
 | e :: l,s=>rG acc l (match Region.binds .any e with | true=>s ||| 2 ^ e.on ||| acc.getD e.on 0 | false=>s)

def vP : List Oper -> List Nat -> List Nat
 | [],acc=>acc
 | o :: l,acc=>vP l (acc ++ [rG acc o.after.toList 0])

def zx : Op -> Bool
 | .move _ | .assign _ | .pick .. | .build .. | .buildSlice .. | .nilCheck _ | .binOp .. | .unOp .. | .convert .. | .makeInterface .. | .makeFunc .. | .makeSlice .. | .slice .. | .fieldAddr .. | .indexAddr .. | .index .. | .extract .. | .typeAssert ..=>true
 | .call c=>(match c.callee with | .builtin .len=>true | .builtin .max=>true | .builtin .min=>true | .builtin .append=>true | .value _=>true | _=>false)
 | _=>false

def bG : Op -> Bool
 | .load _ _=>true
 | _=>false

def IV (op : Op) : Bool:=zx op || bG op

def ZK (op : Op) : Bool:=match op with
 | .call c=>(match c.callee with | .builtin .append=>false | _=>zx op)
 | op=>zx op

def yN : Op -> Bool
 | .alloc _=>true
 | .makeMap _ _=>true
 | .call c=>(match c.callee with | .builtin .append=>true | _=>false)
 | _=>false

def jX : Op -> Bool
 | .alloc _=>true
 | .makeMap _ none=>true
 | _=>false

def Du : Op -> Bool
 | .call c=>(match c.callee with | .builtin .append=>true | _=>false)
 | _=>false

def dn (ops : List Oper) (o : Oper) : List Nat :=
 o.dst.toList ++ EI (bK o.op) ++ (match o.guard with | some (g,_)=>(match ops[g]? with | some og=>og.dst.toList | none=>[]) | none=>[])

def lW (ops : List Oper) (x y : Oper × Bool) : Bool :=
 (!x.2 && !y.2 && !jX y.1.op && !(bG x.1.op && (bG y.1.op || yN y.1.op)) && !(Du x.1.op && bG y.1.op && ops.all fun o=>!jX o.op)) ||
 (match x.1.dst with | some d=>(dn ops y.1).contains d | none=>false) ||
 (match y.1.dst with | some d=>(dn ops x.1).contains d | none=>false)

def WM (ops : List Oper) (zm : List (Oper × Bool)) : Bool :=
 zm.zipIdx.all fun y=>!(jX y.1.1.op && !y.1.2) || ((match y.1.1.guard with | none=>true | some _=>false) && (match y.1.1.dst with
  | none=>false
  | some d=>zm.zipIdx.all fun x=>!Nat.blt x.2 y.2 || x.1.2 || bG x.1.1.op || ((vP ops []).getD y.2 0).testBit x.2 ||
    zm.zipIdx.all fun z=>!Nat.blt y.2 z.2 || !(dn ops z.1.1).contains d || ((vP ops []).getD z.2 0).testBit x.2))

def FI (ops : List Oper) (mask : List Bool) : Bool :=
 Nat.beq mask.length ops.length && ((ops.zip mask).all fun x=>!x.2 || IV x.1.op) &&
 (ops.zipIdx.all fun y=>y.1.after.toList.all fun e=>!Region.binds .any e || Nat.blt e.on y.2) && WM ops (ops.zip mask) &&
 (let b:=vP ops []
 (ops.zip mask).zipIdx.all fun y=>(ops.zip mask).zipIdx.all fun x=>!Nat.blt x.2 y.2 || !lW ops x.1 y.1 || (b.getD y.2 0).testBit x.2)

def vcallB : Op -> Bool
 | .call c=>(match c.callee with | .value _=>true | _=>false)
 | _=>false

def qO : List Nat -> Nat -> Bool
 | [],_=>false
 | x :: l,n=>match Nat.beq x n with | true=>true | false=>qO l n

def tK (fl : List Nat) (op : Op) : Bool:=vcallB op || (match qO fl 999,op with | false,.store _ _ _=>true | _,_=>false)

def Nw (ops : List Oper) (fl : List Nat) (x y : (Oper × Bool) × Nat) : Bool :=
 qO fl x.2 && bG x.1.1.op && !x.1.2 && tK fl y.1.1.op && !y.1.2 && (match x.1.1.dst with | some d=>!(dn ops y.1.1).contains d | none=>true) && (match y.1.1.dst with | some d=>!(dn ops x.1.1).contains d | none=>true)

def PX (ops : List Oper) (mask : List Bool) (fl : List Nat) : Bool :=
 Nat.beq mask.length ops.length && ((ops.zip mask).all fun x=>!x.2 || IV x.1.op) &&
 (ops.zipIdx.all fun y=>y.1.after.toList.all fun e=>!Region.binds .any e || Nat.blt e.on y.2) && WM ops (ops.zip mask) &&
 (let b:=vP ops []
 (ops.zip mask).zipIdx.all fun y=>(ops.zip mask).zipIdx.all fun x=>!Nat.blt x.2 y.2 || !lW ops x.1 y.1 || (b.getD y.2 0).testBit x.2 || Nw ops fl x y)

def Zv (ops : List Oper) (gl : List Nat) (x y : (Oper × Bool) × Nat) : Bool :=
 qO gl y.2 && bG y.1.1.op && !y.1.2 && !x.1.2 && !bG x.1.1.op && (ops.all fun o=>!jX o.op) && (match x.1.1.dst with | some d=>!(dn ops y.1.1).contains d | none=>true) && (match y.1.1.dst with | some d=>!(dn ops x.1.1).contains d | none=>true)

def PY (ops : List Oper) (mask : List Bool) (fl gl : List Nat) : Bool :=
 Nat.beq mask.length ops.length && ((ops.zip mask).all fun x=>!x.2 || IV x.1.op) &&
 (ops.zipIdx.all fun y=>y.1.after.toList.all fun e=>!Region.binds .any e || Nat.blt e.on y.2) && WM ops (ops.zip mask) &&
 (let b:=vP ops []
 (ops.zip mask).zipIdx.all fun y=>(ops.zip mask).zipIdx.all fun x=>!Nat.blt x.2 y.2 || !lW ops x.1 y.1 || (b.getD y.2 0).testBit x.2 || Nw ops fl x y || Zv ops gl x y)

def rdyB (ops : List Oper) (ls : List Nat) (i : Nat) : Bool :=
 !ls.any (Nat.beq i) && (match ops[i]? with | some o=>o.after.toList.all fun e=>!Region.binds .any e || ls.any (Nat.beq e.on) | none=>false)

def Yf (ops : List Oper) : Bool:=ops.zipIdx.all fun y=>y.1.after.toList.all fun e=>!Region.binds .any e || Nat.blt e.on y.2

def Qv : List Nat -> (Nat -> Prop) -> Prop
 | [],_=>True
 | i :: l,f=>f i /\ Qv l f

inductive fO (F : Nat -> List AV -> Heap -> AV -> Heap -> Prop) (f : Nat) (args : List AV) (k : AV -> Prop) : Prop where
 | pure (Bs : List AV) (R : AV) (hle : H9 args Bs) (hb : iM 0 Bs = true /\ dN 0 R = true) (h : F f Bs [] R []) (h' : k R)

section
variable (F : Nat -> List AV -> Heap -> AV -> Heap -> Prop) (kC : AV -> Prop) (L : Lay)

def yK (op : Op) (e : Env) (k : AV -> Prop) : Prop :=
 match op with
 | .call c=>(match c.callee with
   | .value f=>bV e f fun A=>(match A with
     | .fn g cap=>pG e c.args.toList fun As=>Ot As cap fun Bs=>fO F g Bs k
     | _=>False)
   | .builtin .append=>pG e c.args.toList fun As=>gu L .append c.argTypes.toList As [] fun A H'=>H' = [] /\ k A
   | .builtin b=>pG e c.args.toList fun As=>gu L b c.argTypes.toList As [] fun A _=>k A
   | _=>False)
 | .makeSlice t l c=>bV e l fun A=>bV e c fun B=>L.bM t fun i=>(match i.desc,A,B with
   | .slice el,.int _ n,.int _ m=>L.bM el fun ei=>(0 <= n /\ n <= m /\ m * (ei.bytes : Int) <= 281474976710656 /\ m <= 9223372036854775807) /\
     (n.toNat = m.toNat /\ k (.sl (flat ei.zero) (List.replicate n.toNat ei.zero) .full))
   | _,_,_=>False)
 | op=>noNil op <| fZ F (fun _=>True) L op e [] (fun A _=>k A) (fun _=>False)

def pJ (ops : List Oper) : List (Oper × Bool) -> Env -> Heap -> (Env -> Heap -> Prop) -> Prop
 | [],e,H,k=>k e H
 | (o,nb) :: l,e,H,k=>jo ops o.guard e
   (fun e=>match nb with
    | true=>yK F L o.op e fun A=>kQ o.dst A e fun e'=>pJ ops l e' H k
    | false=>noNil o.op <| fZ F (fun _=>True) L o.op e H (fun A H'=>kQ o.dst A e fun e'=>pJ ops l e' H' k) (fun H'=>match o.dst with | none=>pJ ops l e H' k | some _=>False))
   (fun e=>kQ o.dst (.eG []) e fun e'=>pJ ops l e' H k)

def NS (H : Heap) : List (Nat × AV × AV) -> Prop -> Prop
 | [],k=>k
 | (t,A,R) :: pl,k=>(jD L t A H fun R'=>R' = R) /\ NS H pl k

def Yj (fl : List Nat) (i : Nat) (op : Op) (e : Env) (A : AV) (pl : List (Nat × AV × AV)) (k : List (Nat × AV × AV) -> Prop) : Prop :=
 match qO fl i,op with
 | true,.load t x=>bV e x fun B=>k ((t,B,A) :: pl)
 | _,_=>k pl

def qI (ops : List Oper) (fl : List Nat) : Nat -> List (Oper × Bool) -> List (Nat × AV × AV) -> Env -> Heap -> (Env -> Heap -> Prop) -> Prop
 | _,[],_,e,H,k=>k e H
 | i,(o,nb) :: l,pl,e,H,k=>jo ops o.guard e
   (fun e=>match nb with
    | true=>yK F L o.op e fun A=>kQ o.dst A e fun e'=>qI ops fl (i + 1) l pl e' H k
    | false=>noNil o.op <| fZ F (fun _=>True) L o.op e H
      (fun A H'=>NS L H' (match tK fl o.op with | true=>pl | false=>[]) <| Yj fl i o.op e A pl fun Dn=>kQ o.dst A e fun e'=>qI ops fl (i + 1) l Dn e' H' k)
      (fun H'=>match o.dst with | none=>NS L H' (match tK fl o.op with | true=>pl | false=>[]) <| qI ops fl (i + 1) l pl e H' k | some _=>False))
   (fun e=>kQ o.dst (.eG []) e fun e'=>qI ops fl (i + 1) l pl e' H k)

def XD (t : Nat) (A R : AV) : List Heap -> Prop -> Prop
 | [],k=>k
 | G :: hs,k=>(jD L t A G fun R'=>R' = R) /\ XD t A R hs k

def addG (gl : List Nat) (i : Nat) (op : Op) (e : Env) (A : AV) (hs : List Heap) (k : Prop) : Prop :=
 match qO gl i,op with
 | true,.load t x=>bV e x fun B=>XD L t B A hs k
 | _,_=>k

def ou (ops : List Oper) (fl gl : List Nat) : Nat -> List (Oper × Bool) -> List (Nat × AV × AV) -> List Heap -> Env -> Heap -> (Env -> Heap -> Prop) -> Prop
 | _,[],_,_,e,H,k=>k e H
 | i,(o,nb) :: l,pl,hs,e,H,k=>jo ops o.guard e
   (fun e=>match nb with
    | true=>yK F L o.op e fun A=>kQ o.dst A e fun e'=>ou ops fl gl (i + 1) l pl hs e' H k
    | false=>noNil o.op <| fZ F (fun _=>True) L o.op e H
      (fun A H'=>NS L H' (match tK fl o.op with | true=>pl | false=>[]) <| addG L gl i o.op e A hs <| Yj fl i o.op e A pl fun Dn=>kQ o.dst A e fun e'=>ou ops fl gl (i + 1) l Dn (match bG o.op with | true=>hs | false=>H :: hs) e' H' k)
      (fun H'=>match o.dst with | none=>NS L H' (match tK fl o.op with | true=>pl | false=>[]) <| ou ops fl gl (i + 1) l pl (H :: hs) e H' k | some _=>False))
   (fun e=>kQ o.dst (.eG []) e fun e'=>ou ops fl gl (i + 1) l pl hs e' H k)

def GK (ops : List Oper) : Nat -> List Nat -> Env -> Heap -> (Env -> Heap -> Prop) -> Prop
 | 0,_,e,H,k=>k e H
 | n + 1,ls,e,H,k=>Qv ((List.range ops.length).filter (rdyB ops ls)) fun i=>(match ops[i]? with
   | some o=>jo ops o.guard e
     (fun e=>fZ F (fun _=>True) L o.op e H (fun A H'=>kQ o.dst A e fun e'=>GK ops n (i :: ls) e' H' k) (fun H'=>match o.dst with | none=>GK ops n (i :: ls) e H' k | some _=>False))
     (fun e=>kQ o.dst (.eG []) e fun e'=>GK ops n (i :: ls) e' H k)
   | none=>False)

mutual
def Nh (j : Nat) : AV -> Bool
 | .ptr k _ _=>Nat.beq k j
 | .fn _ cap=>Ry j cap
 | .ag l=>Ry j l
 | .eG l=>Ry j l
 | .jm _ x=>Nh j x
 | _=>false
def Ry (j : Nat) : List AV -> Bool
 | []=>false
 | x :: l=>match Nh j x with | true=>true | false=>Ry j l
end

mutual
def nJ (j : Nat) (B : AV) : AV -> AV
 | .ptr k p off=>match Nat.beq k j,p,off with | true,[],0=>.cp B | _,p,off=>.ptr k p off
 | .fn f cap=>.fn f (xK j B cap)
 | .ag l=>.ag (xK j B l)
 | .eG l=>.eG (xK j B l)
 | .jm t x=>.jm t (nJ j B x)
 | A=>A
def xK (j : Nat) (B : AV) : List AV -> List AV
 | []=>[]
 | x :: l=>nJ j B x :: xK j B l
end

mutual
def FC (j : Nat) (B : AV) : AV -> (AV -> Prop) -> Prop
 | .ptr k p off,c=>(match Nat.beq k j,p,off with | true,[],0=>c (.cp B) | _,p,off=>c (.ptr k p off))
 | .fn f cap,c=>Jb j B cap fun l=>c (.fn f l)
 | .ag l,c=>Jb j B l fun l=>c (.ag l)
 | .eG l,c=>Jb j B l fun l=>c (.eG l)
 | .jm t x,c=>FC j B x fun y=>c (.jm t y)
 | A,c=>c A
def Jb (j : Nat) (B : AV) : List AV -> (List AV -> Prop) -> Prop
 | [],c=>c []
 | x :: l,c=>FC j B x fun y=>Jb j B l fun m=>c (y :: m)
end

def Ky (j : Nat) (B : AV) : Env -> (Env -> Prop) -> Prop
 | [],k=>k []
 | (t,A) :: e,k=>match Nh j A with
   | false=>Ky j B e fun m=>k ((t,A) :: m)
   | true=>FC j B A fun A'=>Ky j B e fun m=>k ((t,A') :: m)

def Ib (j : Nat) (B : AV) : Heap -> (Heap -> Prop) -> Prop
 | [],k=>k []
 | (i,o) :: H,k=>match Nat.beq i j with
   | true=>Ib j B H fun G=>k ((i,.gone) :: G)
   | false=>match o with
     | .box A=>(match Nh j A with
       | false=>Ib j B H fun G=>k ((i,.box A) :: G)
       | true=>FC j B A fun A'=>Ib j B H fun G=>k ((i,.box A') :: G))
     | o=>Ib j B H fun G=>k ((i,o) :: G)

def Nq : List Nat -> Env -> Heap -> (Env -> Heap -> Prop) -> Prop
 | [],e,H,k=>k e H
 | j :: js,e,H,k=>iJ H j fun o=>match o with
   | .box A=>(nR A = true /\ strip A = A) /\ Ky j A e fun e'=>Ib j A H fun H'=>Nq js e' H' k
   | _=>False

inductive aS (ops : List Oper) (e : Env) (H : Heap) (k : Env -> Heap -> Prop) : Prop where
 | mk (ex : ∃ mask : List Bool,FI ops mask = true /\ pJ F L ops (ops.zip mask) e H k)
 | all (hb : Yf ops = true) (h : GK F L ops ops.length [] e H k)
 | late (fl : List Nat) (ex : ∃ mask : List Bool,PX ops mask fl = true /\ qI F L ops fl 0 (ops.zip mask) [] e H k)
 | both (fl gl : List Nat) (ex : ∃ mask : List Bool,PY ops mask fl gl = true /\ ou F L ops fl gl 0 (ops.zip mask) [] [] e H k)
 | PU (js : List Nat) (h : Nq js e H fun e' H'=>∃ mask : List Bool,FI ops mask = true /\ pJ F L ops (ops.zip mask) e' H' k)
end

section
variable (F : Nat -> List AV -> Heap -> AV -> Heap -> Prop) (kC : AV -> Prop) (L : Lay)

def aj : Code -> (AX -> Env -> Heap -> Prop) -> Env -> Heap -> Prop
 | .skip,Q,e,H=>Q .normal e H
 | .region _ ops d,Q,e,H=>(match d with
   | false=>tX F kC L ops.toList ops.toList e H fun e' H'=>Q .normal e' H'
   | true=>aS F L ops.toList e H fun e' H'=>Q .normal e' H')
 | .seq a b,Q,e,H=>aj a (fun x e' H'=>match x with | .normal=>aj b Q e' H' | x=>Q x e' H') e H
 | .cond c a b,Q,e,H=>bV e c fun A=>br A (aj a Q e H) (aj b Q e H)
 | .block i b,Q,e,H=>aj b (fun x e' H'=>match x with
   | .exit j=>(match Nat.beq j i with | true=>Q .normal e' H' | false=>Q (.exit j) e' H')
   | x=>Q x e' H') e H
 | .loop b,Q,e,H=>aK kC (writes b) (aj b) Q e H
 | .exit i,Q,e,H=>Q (.exit i) e H
 | .ret,Q,e,H=>Q .ret e H
 | .label _,Q,e,H=>Q .normal e H
 | _,_,_,_=>False

end
end Go.AL

namespace Go.AL

mutual
def Ok : AV -> Prop
 | .int k n=>uN k n
 | .str s=>s.length <= maxL
 | .sl _ l _=>l.length <= maxL /\ yR l
 | .ag l=>yR l
 | .eG l=>yR l
 | .cp x=>Ok x
 | .jm _ x=>Ok x
 | _=>True
def yR : List AV -> Prop
 | []=>True
 | x :: l=>Ok x /\ yR l
end

mutual
theorem xX {w : World} {Im : Nat -> Nat -> Prop} : ∀ (A : AV) (cs : List Value),Rd w Im A cs -> Ok A
 | .bool _,_,_=>by simp only [Ok]
 | .tt,_,_=>by simp only [Ok]
 | .ff,_,_=>by simp only [Ok]
 | .dec _,_,_=>by simp only [Ok]
 | .int _ _,_,hr=>by simp only [Rd] at hr; simp only [Ok]; exact hr.2
 | .str _,_,hr=>by simp only [Rd] at hr; simp only [Ok]; exact hr.2
 | .eP,_,_=>by simp only [Ok]
 | .jm t x,cs,hr=>by simp only [Rd] at hr; obtain ⟨v,rfl,h2,h3⟩:=hr; simp only [Ok]; exact xX x _ h3
 | .aG,_,_=>by simp only [Ok]
 | .sl sz l .no,cs,hr=>by
   simp only [Rd] at hr
   simp only [Ok]
   obtain ⟨h0,⟨rfl,rfl⟩ | ⟨a,cap,rfl,_,_,_,h⟩⟩:=hr
   ·exact ⟨h0,by simp only [yR]⟩
   ·exact ⟨h0,Yx l _ h⟩
 | .sl sz l .full,cs,hr=>by simp only [Rd] at hr
 | .sl sz l (.own _),cs,hr=>by simp only [Rd] at hr
 | .ms _ _ _ _ _,_,_=>by simp only [Ok]
 | .ag l,cs,hr=>by simp only [Rd] at hr; simp only [Ok]; exact Yw l cs hr
 | .eG _,_,hr=>by simp only [Rd] at hr
 | .ptr _ _ _,_,_=>by simp only [Ok]
 | .cp x,cs,hr=>by simp only [Rd] at hr; obtain ⟨a,ds,rfl,_,_,h⟩:=hr; simp only [Ok]; exact xX x _ h
 | .gK,_,_=>by simp only [Ok]
 | .fn _ _,_,_=>by simp only [Ok]
 | .aH,_,_=>by simp only [Ok]
 | .mp _,_,_=>by simp only [Ok]
 | .gs _ _,_,_=>by simp only [Ok]
 | .bm _ _,_,_=>by simp only [Ok]
 | .iT,_,_=>by simp only [Ok]
 | .und,_,_=>by simp only [Ok]
theorem Yw {w : World} {Im : Nat -> Nat -> Prop} : ∀ (l : List AV) (cs : List Value),lM w Im l cs -> yR l
 | [],_,_=>by simp only [yR]
 | x :: l,cs,hr=>by
   simp only [lM] at hr
   obtain ⟨c,d,rfl,h2,h3⟩:=hr
   simp only [yR]
   exact ⟨xX x _ h2,Yw l _ h3⟩
theorem Yx {w : World} {Im : Nat -> Nat -> Prop} {sz b : Nat} : ∀ (l : List AV) (off : Nat),su w Im sz b l off -> yR l
 | [],_,_=>by simp only [yR]
 | x :: l,off,hr=>by
   simp only [su] at hr
   obtain ⟨⟨cs,h1,h2,h3⟩,h4⟩:=hr
   simp only [yR]
   exact ⟨xX x _ h3,Yx l _ h4⟩
end

mutual
theorem Sv {c : Cx} : ∀ (A : AV) (cs : List Value),VR c A cs -> Ok A
 | .bool _,_,_=>by simp only [Ok]
 | .tt,_,_=>by simp only [Ok]
 | .ff,_,_=>by simp only [Ok]
 | .dec _,_,_=>by simp only [Ok]
 | .int _ _,_,hr=>by simp only [VR] at hr; exact xX _ _ hr
 | .str _,_,hr=>by simp only [VR] at hr; exact xX _ _ hr
 | .eP,_,_=>by simp only [Ok]
 | .jm t x,cs,hr=>by simp only [VR] at hr; obtain ⟨v,rfl,h2,h3⟩:=hr; simp only [Ok]; exact Sv x _ h3
 | .aG,_,_=>by simp only [Ok]
 | .sl sz l .no,cs,hr=>by simp only [VR] at hr; exact xX _ _ hr
 | .sl sz l .full,cs,hr=>by simp only [VR] at hr; exact xX (.sl sz l .no) _ hr.1
 | .sl sz l (.own _),cs,hr=>by simp only [VR] at hr; exact xX (.sl sz l .no) _ hr.2.1
 | .ms _ _ _ _ _,_,_=>by simp only [Ok]
 | .ag l,cs,hr=>by simp only [VR] at hr; simp only [Ok]; exact Yq l cs hr
 | .eG _,_,hr=>by simp only [VR,Rd] at hr
 | .ptr _ _ _,_,_=>by simp only [Ok]
 | .cp x,cs,hr=>by simp only [VR] at hr; exact xX _ _ hr
 | .gK,_,_=>by simp only [Ok]
 | .fn _ _,_,_=>by simp only [Ok]
 | .aH,_,_=>by simp only [Ok]
 | .mp _,_,_=>by simp only [Ok]
 | .gs _ _,_,_=>by simp only [Ok]
 | .bm _ _,_,_=>by simp only [Ok]
 | .iT,_,_=>by simp only [Ok]
 | .und,_,_=>by simp only [Ok]
theorem Yq {c : Cx} : ∀ (l : List AV) (cs : List Value),lS c l cs -> yR l
 | [],_,_=>by simp only [yR]
 | x :: l,cs,hr=>by
   simp only [lS] at hr
   obtain ⟨a,d,rfl,h2,h3⟩:=hr
   simp only [yR]
   exact ⟨Sv x _ h2,Yq l _ h3⟩
end

theorem VA_ok {c : Cx} : ∀ (l : List AV) (vs : List Value),VA c l vs -> yR l
 | [],_,_=>by simp only [yR]
 | x :: l,vs,hr=>by
   simp only [VA] at hr
   obtain ⟨v,r,rfl,h2,h3,h4⟩:=hr
   simp only [yR]
   exact ⟨Sv x _ h3,VA_ok l _ h4⟩

theorem SS {c : Cx} {A : AV} {v : Value} (h : EV c A v) : Ok A:=by
 cases A <;> first
  | exact Sv _ _ h.2
  | (simp only [Ok]; done)
  | (obtain ⟨vs,rfl,h2⟩:=h; simp only [Ok]; exact VA_ok _ _ h2)

theorem cells_one {v x : Value} (hs : v.cells = #[v]) (h : v.cells.toList = [x]) : v = x:=by
 rw [hs] at h; injection h

section
variable {c : Cx} {v : Value}

theorem gX {b : Bool} (h : VV c (.bool b) v) : v = .bool b:=by
 have:=h.2; simp only [VR,Rd] at this; exact cells_one (h.1.2 rfl) this
theorem vV (h : VV c .tt v) : v = .bool true:=by
 have:=h.2; simp only [VR,Rd] at this; exact cells_one (h.1.2 rfl) this
theorem vW (h : VV c .ff v) : v = .bool false:=by
 have:=h.2; simp only [VR,Rd] at this; exact cells_one (h.1.2 rfl) this
theorem kV {p : Prop} (h : VV c (.dec p) v) : ∃ b,v = .bool b /\ (b = true ↔ p):=by
 have:=h.2; simp only [VR,Rd] at this
 obtain ⟨b,h1,h2⟩:=this
 exact ⟨b,cells_one (h.1.2 rfl) h1,h2⟩
theorem VV_int {k : IntKind} {n : Int} (h : VV c (.int k n) v) : v = .int k n /\ uN k n:=by
 have:=h.2; simp only [VR,Rd] at this; exact ⟨cells_one (h.1.2 rfl) this.1,this.2⟩
theorem Qw {s : List UInt8} (h : VV c (.str s) v) : v = .string ⟨s.toArray⟩ /\ s.length <= maxL:=by
 have:=h.2; simp only [VR,Rd] at this; exact ⟨cells_one (h.1.2 rfl) this.1,this.2⟩
theorem Ap (h : VV c .eP v) : v = .nilIface:=by
 have:=h.2; simp only [VR,Rd] at this; exact cells_one (h.1.2 rfl) this
theorem xB (h : VV c .aG v) : v = .slice none 0 0:=by
 have:=h.2; simp only [VR,Rd] at this; exact cells_one (h.1.2 rfl) this
theorem DR (h : VV c .gK v) : v = .pointer none:=by
 have:=h.2; simp only [VR,Rd] at this; exact cells_one (h.1.2 rfl) this
theorem VV_nilm (h : VV c .iT v) : v = .map none:=by
 have:=h.2; simp only [VR,Rd] at this; exact cells_one (h.1.2 rfl) this
theorem Qx {t : Nat} {x : AV} (h : VV c (.jm t x) v) : ∃ u,v = .iface t u /\ VV c x u:=by
 have:=h.2; simp only [VR] at this
 obtain ⟨u,h1,h2,h3⟩:=this
 exact ⟨u,cells_one (h.1.2 rfl) h1,h2,h3⟩
theorem yP {k off : Nat} {p : List Nat} (h : VV c (.ptr k p off) v) : k < c.nx /\ v = .pointer (some ⟨c.ρ k,off,none⟩):=by
 have:=h.2; simp only [VR] at this; exact ⟨this.1,cells_one (h.1.2 rfl) this.2⟩
theorem CZ {k off len cap sz : Nat} (h : VV c (.ms k off len cap sz) v) : k < c.nx /\ v = .slice (some ⟨c.ρ k,off * sz,none⟩) len cap /\ len <= cap /\ cap <= maxL:=by
 have:=h.2; simp only [VR] at this; exact ⟨this.1,cells_one (h.1.2 rfl) this.2.1,this.2.2⟩
theorem VV_mp {k : Nat} (h : VV c (.mp k) v) : k < c.nx /\ v = .map (some (c.ρ k)):=by
 have:=h.2; simp only [VR] at this; exact ⟨this.1,cells_one (h.1.2 rfl) this.2⟩
theorem VV_bm {f k : Nat} (h : VV c (.bm f k) v) : k < c.nx /\ v = .func (.func f) #[.pointer (some ⟨c.ρ k,0,none⟩)] #[]:=by
 have:=h.2; simp only [VR] at this; exact ⟨this.1,cells_one (h.1.2 rfl) this.2⟩
theorem VV_gs {k len : Nat} (h : VV c (.gs k len) v) : k < c.nx /\ (∃ a n m,v = .slice a n m) /\ ∀ n,c.tp k = some n -> len <= n /\ (len = n -> v = .slice (c.tk k).1 n (c.tk k).2):=by
 have:=h.2; simp only [VR] at this
 obtain ⟨h1,⟨a,n,m,h2⟩,h3⟩:=this
 exact ⟨h1,⟨a,n,m,cells_one (h.1.2 rfl) h2⟩,fun n hn=>⟨(h3 n hn).1,fun e=>cells_one (h.1.2 rfl) ((h3 n hn).2 e)⟩⟩
theorem Sr {x : AV} (h : VV c (.cp x) v) : ∃ a ds,v = .pointer (some a) /\ a.spot = none /\ jG c.w c.Im a.block a.off ds /\ Rd c.w c.Im x ds:=by
 have:=h.2; simp only [VR,Rd] at this
 obtain ⟨a,ds,h1,h2⟩:=this
 exact ⟨a,ds,cells_one (h.1.2 rfl) h1,h2⟩
theorem VV_fn {f : Nat} {cap : List AV} (h : VV c (.fn f cap) v) : ∃ vs : List Value,v = .func (.func f) #[] vs.toArray /\ VA c cap vs:=by
 have:=h.2; simp only [VR] at this
 obtain ⟨vs,h1,h2⟩:=this
 exact ⟨vs,cells_one (h.1.2 rfl) h1,h2⟩
theorem GL {sz : Nat} {l : List AV} {tok : Tk} (h : VV c (.sl sz l tok) v) : l.length <= maxL /\ ((l = [] /\ v = .slice none 0 0) \/
  ∃ a cap,v = .slice (some a) l.length cap /\ l.length <= cap /\ cap <= maxL /\ (l ≠ [] -> a.spot = none) /\ su c.w c.Im sz a.block l a.off):=by
 have hv:=h.1.2 rfl
 have key : Rd c.w c.Im (.sl sz l .no) v.cells.toList:=by
  have:=h.2
  cases tok with
  | no=>simpa only [VR] using this
  | full=>simp only [VR] at this; exact this.1
  | own k=>simp only [VR] at this; exact this.2.1
 simp only [Rd] at key
 refine ⟨key.1,?_⟩
 rcases key.2 with (⟨h1,h2⟩ | ⟨a,cap,h1,h2⟩)
 ·exact .inl ⟨h1,cells_one hv h2⟩
 ·exact .inr ⟨a,cap,cells_one hv h1,h2⟩
end

theorem dY {c : Cx} {A : AV} {v : Value} (hA : dI A = false) (hv : v.cells = #[v]) (h : VR c A [v]) : VV c A v :=
 ⟨⟨(fun h=>by rw [hA] at h; cases h),fun _=>hv⟩,by rw [hv]; exact h⟩

theorem bg {c : Cx} {A : AV} {v : Value} (h : VV c A v) : EV c A v:=by
 cases A <;> first
  | exact h
  | trivial
  | (have:=h.2; simp only [VR,Rd] at this)

def bF : Operand -> Bool
 | .const (.int k n)=>decide (k.min <= n) && decide (n <= k.max)
 | .const (.string s)=>decide (s.data.size <= 1000000)
 | _=>true

def gJ (c : Cx) (e : Env) (a : Act) : Prop:=∀ t A,dP e t = some A -> EV c A (a.tmps.getD t undef)

theorem KE {c : Cx} {v : Value} {k : AV -> Prop} (hv : bF (.const v) = true) (h : FW v k) : ∃ A,VV c A v /\ k A:=by
 unfold FW at h
 split at h
 ·exact ⟨_,dY rfl rfl (by simp only [VR,Rd]),h⟩
 ·exact ⟨_,dY rfl rfl (by simp only [VR,Rd]),h⟩
 ·refine ⟨_,dY rfl rfl ?_,h⟩
  simp only [VR,Rd]
  simp only [bF,Bool.and_eq_true,decide_eq_true_eq] at hv
  exact ⟨trivial,hv⟩
 ·refine ⟨_,dY rfl rfl ?_,h⟩
  simp only [VR,Rd]
  simp only [bF,decide_eq_true_eq] at hv
  refine ⟨by simp,?_⟩
  rw [Array.length_toList]; unfold maxL; omega
 ·exact ⟨_,dY rfl rfl (by simp only [VR,Rd]),h⟩
 ·exact ⟨_,dY rfl rfl (by simp only [VR,Rd]),h⟩
 ·exact ⟨_,dY rfl rfl (by simp only [VR,Rd]),h⟩
 ·exact ⟨_,dY rfl rfl (by simp only [VR,Rd]),h⟩
 ·exact ⟨_,dY rfl rfl (by simp only [VR,Rd]),h⟩
 ·exact h.elim

theorem aW {c : Cx} {e : Env} {a : Act} {x : Operand} {k : AV -> Prop} (he : gJ c e a) (hx : bF x = true) (h : bV e x k) : ∃ A,EV c A (a.eval x) /\ k A:=by
 unfold bV at h
 split at h
 ·obtain ⟨A,h1,h2⟩:=gW.1 h
  exact ⟨A,he _ _ h1,h2⟩
 ·obtain ⟨A,h1,h2⟩:=KE (c:=c) hx h
  exact ⟨A,bg h1,h2⟩
 ·refine ⟨_,bg (dY (v:=.func (.func _) #[] #[]) rfl rfl ?_),h⟩
  simp only [VR,VA]
  exact ⟨[],rfl,rfl⟩
 ·exact h.elim

def Az (c : Cx) : List AV -> List Value -> Prop
 | [],vs=>vs = []
 | x :: l,vs=>∃ v r,vs = v :: r /\ EV c x v /\ Az c l r

theorem l9 {c : Cx} {e : Env} {a : Act} (he : gJ c e a) : ∀ {l : List Operand} {k : List AV -> Prop},l.all bF = true -> pG e l k ->
  ∃ As,Az c As (l.map a.eval) /\ k As
 | [],k,_,h=>⟨[],rfl,h⟩
 | x :: l,k,hl,h=>by
   simp only [List.all_cons,Bool.and_eq_true] at hl
   obtain ⟨A,h1,h2⟩:=aW he hl.1 h
   obtain ⟨As,h3,h4⟩:=l9 he hl.2 h2
   exact ⟨A :: As,⟨_,_,rfl,h1,h3⟩,h4⟩

end Go.AL

namespace Go.AL

theorem oL (k : IntKind) (n : Int) : uN k (k.wrap n):=by
 unfold uN IntKind.wrap IntKind.min IntKind.max
 have h0:=Int.emod_nonneg n (b:=(2 ^ k.bits : Int)) (by cases k <;> simp [IntKind.bits])
 have h1:=Int.emod_lt_of_pos n (b:=(2 ^ k.bits : Int)) (by cases k <;> simp [IntKind.bits])
 cases k <;> simp [IntKind.bits,IntKind.signed] at * <;> first | omega | (split <;> omega)

theorem LC {k : IntKind} {n : Int} (h : uN k n) : k.wrap n = n:=by
 unfold uN IntKind.min IntKind.max at h
 unfold IntKind.wrap
 cases k <;> simp [IntKind.bits,IntKind.signed] at * <;> first | omega | (split <;> omega)

theorem Lh {k : IntKind} {a : Int} (h : uN k a) (n : Nat) : uN k (a.fdiv (2 ^ n)):=by
 have hp : (0 : Int) < 2 ^ n:=Int.pow_pos (by omega)
 have h1 : a.fdiv (2 ^ n) = a / (2 ^ n):=Int.fdiv_eq_ediv_of_nonneg a (Int.le_of_lt hp)
 rw [h1]
 unfold uN at *
 have hmin : k.min <= 0:=by cases k <;> simp [IntKind.min,IntKind.signed,IntKind.bits]
 have hmax : 0 <= k.max:=by cases k <;> simp [IntKind.max,IntKind.signed,IntKind.bits]
 by_cases ha : 0 <= a
 ·have h2 : 0 <= a / 2 ^ n:=Int.ediv_nonneg ha (Int.le_of_lt hp)
  have h3 : a / 2 ^ n <= a:=Int.ediv_le_self _ ha
  omega
 ·have h2 : a / 2 ^ n < 0:=Int.ediv_neg_of_neg_of_pos (by omega) hp
  have h3 : a <= a / 2 ^ n:=by
   have:=Int.le_ediv_of_mul_le hp (a:=a) (b:=a) (by
    have h5 : (1 : Int) <= 2 ^ n:=hp
    have : a * 2 ^ n <= a * 1:=Int.mul_le_mul_of_nonpos_left (by omega) h5
    omega)
   exact this
  omega

theorem YB {k : IntKind} {a b : Int} (h : uN k a) : uN k (a.tmod b):=by
 unfold uN at *
 have hmin : k.min <= 0:=by cases k <;> simp [IntKind.min,IntKind.signed,IntKind.bits]
 have hmax : 0 <= k.max:=by cases k <;> simp [IntKind.max,IntKind.signed,IntKind.bits]
 have h1 : (a.tmod b).natAbs <= a.natAbs:=by
  rw [Int.natAbs_tmod]; exact Nat.mod_le _ _
 rcases Int.le_total 0 a with ha | ha
 ·have : 0 <= a.tmod b:=Int.tmod_nonneg _ ha
  omega
 ·have : a.tmod b <= 0:=by
   have h2:=Int.tmod_nonneg b (a:=-a) (by omega)
   rw [Int.neg_tmod] at h2; omega
  omega

section
variable {c : Cx} {P : Program}

theorem dM {kd : IntKind} {n : Int} (h : uN kd n) : VV c (.int kd n) (.int kd n):=dY rfl rfl (by simp only [VR,Rd]; exact ⟨trivial,h⟩)
theorem Js {s : List UInt8} (h : s.length <= maxL) : VV c (.str s) (.string ⟨s.toArray⟩):=dY rfl rfl (by simp only [VR,Rd]; exact ⟨trivial,h⟩)
theorem iG {p : Prop} {b : Bool} (h : b = true ↔ p) : VV c (.dec p) (.bool b):=dY rfl rfl (by simp only [VR,Rd]; exact ⟨b,rfl,h⟩)
theorem mg (b : Bool) : VV c (.bool b) (.bool b):=dY rfl rfl (by simp only [VR,Rd])
theorem pK : VV c .tt (.bool true):=dY rfl rfl (by simp only [VR,Rd])
theorem kJ : VV c .ff (.bool false):=dY rfl rfl (by simp only [VR,Rd])

theorem ni {kd : IntKind} {z : Int} {k : AV -> Prop} (h : arith kd z k) : ∃ R,VV c R (.int kd (kd.wrap z)) /\ k R:=by
 unfold arith at h
 split at h
 ·exact ⟨_,by rw [LC h.1]; exact dM h.1,h.2⟩
 ·exact ⟨_,dM (oL _ _),h⟩

theorem lU {A : AV} {k : AV -> Prop} {b : Bool} (hA : VV c A (.bool b)) (h : uM A k) : ∃ R,VV c R (.bool !b) /\ k R:=by
 unfold uM at h
 split at h
 ·have:=vV hA; simp at this; subst this; exact ⟨_,kJ,h⟩
 ·have:=vW hA; simp at this; subst this; exact ⟨_,pK,h⟩
 ·have:=gX hA; simp at this; subst this; exact ⟨_,mg _,h⟩
 ·obtain ⟨b',h1,h2⟩:=kV hA; simp at h1; subst h1
  refine ⟨_,iG ?_,h⟩
  rw [<- h2]; simp
 ·exact h.elim

theorem CU {x : AV} {k : AV -> Prop} {v : Value} (hx : VV c x v) (h : Gj x k) : ∃ b,v = .bool b /\ VV c x (.bool b) /\ k x:=by
 unfold Gj at h
 split at h
 ·have:=vV hx; subst this; exact ⟨_,rfl,hx,h⟩
 ·have:=vW hx; subst this; exact ⟨_,rfl,hx,h⟩
 ·have:=gX hx; subst this; exact ⟨_,rfl,hx,h⟩
 ·obtain ⟨b',h1,h2⟩:=kV hx; subst h1; exact ⟨_,rfl,hx,h⟩
 ·exact h.elim

theorem Bd {A : AV} {k : AV -> Prop} {v : Value} (hA : VV c A v) (h : uM A k) : ∃ b,v = .bool b:=by
 unfold uM at h
 split at h
 ·exact ⟨_,vV hA⟩
 ·exact ⟨_,vW hA⟩
 ·exact ⟨_,gX hA⟩
 ·obtain ⟨b',h1,_⟩:=kV hA; exact ⟨_,h1⟩
 ·exact h.elim

theorem Jf {A B : AV} {k : AV -> Prop} {v u : Value} (hA : VV c A v) (hB : VV c B u) (h : Zx A B k) :
  ∃ a b R,v = .bool a /\ u = .bool b /\ VV c R (.bool (a == b)) /\ k R:=by
 unfold Zx at h
 split at h
 ·obtain rfl:=vV hA
  obtain ⟨b,rfl,h2,h3⟩:=CU hB h
  exact ⟨true,b,_,rfl,rfl,by simpa using h2,h3⟩
 ·obtain rfl:=vV hB
  obtain ⟨b,rfl,h2,h3⟩:=CU hA h
  exact ⟨b,true,_,rfl,rfl,by simpa using h2,h3⟩
 ·obtain rfl:=vW hA
  obtain ⟨b,rfl⟩:=Bd hB h
  obtain ⟨R,h2,h3⟩:=lU hB h
  exact ⟨false,b,_,rfl,rfl,by simpa using h2,h3⟩
 ·obtain rfl:=vW hB
  obtain ⟨b,rfl⟩:=Bd hA h
  obtain ⟨R,h2,h3⟩:=lU hA h
  exact ⟨b,false,_,rfl,rfl,by simpa using h2,h3⟩
 ·obtain rfl:=gX hA
  obtain rfl:=gX hB
  exact ⟨_,_,_,rfl,rfl,iG (by simp),h⟩
 ·obtain ⟨a,rfl,ha⟩:=kV hA
  obtain ⟨b,rfl,hb⟩:=kV hB
  refine ⟨_,_,_,rfl,rfl,iG ?_,h⟩
  rw [<- ha,<- hb]; cases a <;> cases b <;> simp
 ·obtain ⟨a,rfl,ha⟩:=kV hA
  obtain rfl:=gX hB
  refine ⟨_,_,_,rfl,rfl,iG ?_,h⟩
  rw [<- ha]; rename_i b; cases a <;> cases b <;> simp
 ·obtain rfl:=gX hA
  obtain ⟨b,rfl,hb⟩:=kV hB
  refine ⟨_,_,_,rfl,rfl,iG ?_,h⟩
  rw [<- hb]; rename_i a _ _; cases a <;> cases b <;> simp
 ·exact h.elim

theorem Cc {A B : AV} {k : AV -> Prop} {v u : Value} (hA : VV c A v) (hB : VV c B u) (h : Ce A B k) :
  ∃ b R,((v = .nilIface /\ u = .nilIface /\ b = true) \/ (v = .nilIface /\ (∃ t x,u = .iface t x) /\ b = false) \/ ((∃ t x,v = .iface t x) /\ u = .nilIface /\ b = false)) /\ VV c R (.bool b) /\ k R:=by
 unfold Ce at h
 split at h
 ·exact ⟨true,_,.inl ⟨Ap hA,Ap hB,rfl⟩,pK,h⟩
 ·obtain ⟨x,h1,_⟩:=Qx hB
  exact ⟨false,_,.inr (.inl ⟨Ap hA,⟨_,_,h1⟩,rfl⟩),kJ,h⟩
 ·obtain ⟨x,h1,_⟩:=Qx hA
  exact ⟨false,_,.inr (.inr ⟨⟨_,_,h1⟩,Ap hB,rfl⟩),kJ,h⟩
 ·exact h.elim

theorem zu {A B : AV} {k : AV -> Prop} {v u : Value} (hA : VV c A v) (hB : VV c B u) (h : uY A B k) :
  ∃ b R a,v = .pointer a /\ u = .pointer none /\ b = a.isNone /\ VV c R (.bool b) /\ k R:=by
 unfold uY at h
 split at h
 ·exact ⟨true,_,none,DR hA,DR hB,rfl,pK,h⟩
 ·obtain ⟨a,ds,h1,_⟩:=Sr hA
  exact ⟨false,_,some a,h1,DR hB,rfl,kJ,h⟩
 ·exact ⟨false,_,_,(yP hA).2,DR hB,rfl,kJ,h⟩
 ·exact h.elim

end
end Go.AL

namespace Go.AL

theorem jl {α : Type} {k : α -> Prop} : ∀ {l : List α} {i : Nat},pY l i k ↔ ∃ x,l[i]? = some x /\ k x
 | [],i=>by simp [pY]
 | x :: l,0=>by simp [pY]
 | x :: l,i + 1=>by simp only [pY,List.getElem?_cons_succ]; exact jl

theorem qp {k : List AV -> Prop} {y : AV} : ∀ {l : List AV} {i : Nat},jr l i y k -> i < l.length /\ k (l.set i y)
 | [],i,h=>by simp [jr] at h
 | x :: l,0,h=>by simpa [jr] using h
 | x :: l,i + 1,h=>by
   simp only [jr] at h
   have:=qp h
   exact ⟨by simp; exact this.1,by simpa using this.2⟩

theorem wE {k : List Nat -> Prop} {x : Nat} : ∀ {l : List Nat},Iz l x k ↔ k (l ++ [x])
 | []=>Iff.rfl
 | y :: l=>by simp only [Iz]; exact wE

theorem Gw {k : List AV -> Prop} {m : List AV} : ∀ {l : List AV},Ot l m k ↔ k (l ++ m)
 | []=>Iff.rfl
 | y :: l=>by simp only [Ot]; exact Gw

theorem EF {k : List AV -> Prop} {z : AV} : ∀ {n : Nat},JJ z n k ↔ k (List.replicate n z)
 | 0=>Iff.rfl
 | n + 1=>by simp only [JJ]; exact EF

theorem bI {a b : Nat} {k : Prop} : kH a b k ↔ a = b /\ k:=by
 unfold kH
 cases h : Nat.beq a b with
 | true=>simp [Nat.eq_of_beq_eq_true h]
 | false=>simp [gU h]

theorem uP {A : AV} {k : Prop} : Ee A k ↔ isVal A = true /\ k:=by
 unfold Ee
 cases isVal A <;> simp

def Dt : AV -> List Nat -> Option AV
 | A,[]=>some A
 | .ag l,i :: p=>match l[i]? with | some x=>Dt x p | none=>none
 | _,_ :: _=>none

theorem lu {k : AV -> Prop} : ∀ {p : List Nat} {A : AV},vk A p k ↔ ∃ x,Dt A p = some x /\ k x
 | [],A=>by simp [vk,Dt]
 | i :: p,A=>by
   cases A with
   | ag l =>
     simp only [vk,Dt,jl]
     constructor
     ·rintro ⟨x,h1,h2⟩
      obtain ⟨y,h3,h4⟩:=lu.1 h2
      exact ⟨y,by simp only [h1]; exact h3,h4⟩
     ·rintro ⟨y,h3,h4⟩
      cases hx : l[i]? with
      | none=>simp [hx] at h3
      | some x=>simp only [hx] at h3; exact ⟨x,rfl,lu.2 ⟨y,h3,h4⟩⟩
   | _=>simp [vk,Dt]

theorem rU {c : Cx} : ∀ {l : List AV} {cs : List Value} {i : Nat} {x : AV},lS c l cs -> l[i]? = some x ->
  ∃ pre xs post,cs = pre ++ xs ++ post /\ pre.length = iK (l.take i) /\ VR c x xs /\ ∀ y ys,VR c y ys -> lS c (l.set i y) (pre ++ ys ++ post)
 | [],_,_,_,_,h=>by simp at h
 | z :: l,cs,0,x,hr,h=>by
   simp only [lS] at hr
   obtain ⟨a,d,rfl,h2,h3⟩:=hr
   obtain rfl : z = x:=by simpa using h
   refine ⟨[],a,d,by simp,by simp [iK],h2,fun y ys hy=>?_⟩
   simp only [List.nil_append,List.set_cons_zero,lS]
   exact ⟨ys,d,rfl,hy,h3⟩
 | z :: l,cs,i + 1,x,hr,h=>by
   simp only [lS] at hr
   obtain ⟨a,d,rfl,h2,h3⟩:=hr
   obtain ⟨pre,xs,post,rfl,h5,h6,h7⟩:=rU h3 (by simpa using h : l[i]? = some x)
   refine ⟨a ++ pre,xs,post,by simp,by simp [iK,gB _ _ h2,h5],h6,fun y ys hy=>?_⟩
   simp only [List.set_cons_succ,lS]
   exact ⟨a,pre ++ ys ++ post,by simp,h2,h7 y ys hy⟩

theorem DT {c : Cx} : ∀ {p : List Nat} {A x : AV} {cs : List Value},VR c A cs -> Dt A p = some x ->
  ∃ pre xs post,cs = pre ++ xs ++ post /\ pre.length = EJ A p /\ VR c x xs
 | [],A,x,cs,hr,h=>by
   obtain rfl : A = x:=by simpa [Dt] using h
   exact ⟨[],cs,[],by simp,by cases A <;> simp [EJ],hr⟩
 | i :: p,A,x,cs,hr,h=>by
   cases A with
   | ag l =>
     simp only [Dt] at h
     cases hx : l[i]? with
     | none=>simp [hx] at h
     | some y =>
       simp only [hx] at h
       simp only [VR] at hr
       obtain ⟨pre,ys,post,rfl,h2,h3,_⟩:=rU hr hx
       obtain ⟨pre',xs,post',rfl,h5,h6⟩:=DT h3 h
       exact ⟨pre ++ pre',xs,post' ++ post,by simp,by simp only [List.length_append,EJ,hx,h2,h5],h6⟩
   | _=>simp [Dt] at h

theorem qj {c : Cx} {k : AV -> Prop} {B : AV} {bs : List Value} (hB : VR c B bs) : ∀ {p : List Nat} {A : AV} {cs : List Value},VR c A cs -> y5 A p B k ->
  ∃ A' x pre xs post,Dt A p = some x /\ cs = pre ++ xs ++ post /\ pre.length = EJ A p /\ VR c x xs /\ VR c A' (pre ++ bs ++ post) /\ k A'
 | [],A,cs,hr,h=>by
   have h' : k B:=by cases A <;> simpa [y5] using h
   exact ⟨B,A,[],cs,[],by simp [Dt],by simp,by cases A <;> simp [EJ],hr,by simpa using hB,h'⟩
 | i :: p,A,cs,hr,h=>by
   cases A with
   | ag l =>
     simp only [y5,jl] at h
     obtain ⟨x,hx,h⟩:=h
     simp only [VR] at hr
     obtain ⟨pre,ys,post,rfl,h2,h3,h4⟩:=rU hr hx
     obtain ⟨x',z,pre',xs,post',h5,rfl,h7,h8,h9,h10⟩:=qj hB h3 h
     have h11:=qp h10
     refine ⟨.ag (l.set i x'),z,pre ++ pre',xs,post' ++ post,by simp only [Dt,hx,h5],by simp,by simp only [List.length_append,EJ,hx,h2,h7],h8,?_,h11.2⟩
     simp only [VR]
     have:=h4 x' _ h9
     simpa using this
   | _=>simp [y5] at h

theorem aU {c : Cx} {A : AV} {cs : List Value} (h : VR c A cs) (hA : dI A = false) : ∀ u ∈ cs,u.oneCell' = true:=by
 cases A with
 | ag l=>simp [dI] at hA
 | dec p=>simp only [VR,Rd] at h; obtain ⟨b,rfl,_⟩:=h; simp [Value.oneCell']
 | sl sz l tok =>
   cases tok with
   | no=>simp only [VR,Rd] at h; obtain ⟨_,⟨_,rfl⟩ | ⟨a,cap,rfl,_⟩⟩:=h <;> simp [Value.oneCell']
   | full=>simp only [VR,Rd] at h; obtain ⟨⟨_,⟨_,rfl⟩ | ⟨a,cap,rfl,_⟩⟩,_⟩:=h <;> simp [Value.oneCell']
   | own k=>simp only [VR,Rd] at h; obtain ⟨_,⟨_,⟨_,rfl⟩ | ⟨a,cap,rfl,_⟩⟩,_⟩:=h <;> simp [Value.oneCell']
 | jm t x=>simp only [VR] at h; obtain ⟨v,rfl,_⟩:=h; simp [Value.oneCell']
 | cp x=>simp only [VR,Rd] at h; obtain ⟨a,ds,rfl,_⟩:=h; simp [Value.oneCell']
 | fn f cap=>simp only [VR] at h; obtain ⟨vs,rfl,_⟩:=h; simp [Value.oneCell']
 | eG l=>simp only [VR,Rd] at h
 | und=>simp only [VR,Rd] at h
 | ptr=>simp only [VR] at h; obtain ⟨_,rfl⟩:=h; simp [Value.oneCell']
 | ms=>simp only [VR] at h; obtain ⟨_,rfl,_⟩:=h; simp [Value.oneCell']
 | mp=>simp only [VR] at h; obtain ⟨_,rfl⟩:=h; simp [Value.oneCell']
 | gs=>simp only [VR] at h; obtain ⟨_,⟨_,_,_,rfl⟩,_⟩:=h; simp [Value.oneCell']
 | bm=>simp only [VR] at h; obtain ⟨_,rfl⟩:=h; simp [Value.oneCell']
 | int=>simp only [VR,Rd] at h; obtain ⟨rfl,_⟩:=h; simp [Value.oneCell']
 | str=>simp only [VR,Rd] at h; obtain ⟨rfl,_⟩:=h; simp [Value.oneCell']
 | _=>simp only [VR,Rd] at h; subst h; simp [Value.oneCell']

mutual
theorem pO {c : Cx} : ∀ (A : AV) (cs : List Value),VR c A cs -> ∀ u ∈ cs,u.oneCell' = true
 | .ag l,cs,h=>by simp only [VR] at h; exact Dc l cs h
 | .bool _,_,h=>aU h rfl
 | .tt,_,h=>aU h rfl
 | .ff,_,h=>aU h rfl
 | .dec _,_,h=>aU h rfl
 | .int _ _,_,h=>aU h rfl
 | .str _,_,h=>aU h rfl
 | .eP,_,h=>aU h rfl
 | .jm _ _,_,h=>aU h rfl
 | .aG,_,h=>aU h rfl
 | .sl _ _ _,_,h=>aU h rfl
 | .ms _ _ _ _ _,_,h=>aU h rfl
 | .eG _,_,h=>aU h rfl
 | .ptr _ _ _,_,h=>aU h rfl
 | .cp _,_,h=>aU h rfl
 | .gK,_,h=>aU h rfl
 | .fn _ _,_,h=>aU h rfl
 | .aH,_,h=>aU h rfl
 | .mp _,_,h=>aU h rfl
 | .gs _ _,_,h=>aU h rfl
 | .bm _ _,_,h=>aU h rfl
 | .iT,_,h=>aU h rfl
 | .und,_,h=>aU h rfl
theorem Dc {c : Cx} : ∀ (l : List AV) (cs : List Value),lS c l cs -> ∀ u ∈ cs,u.oneCell' = true
 | [],_,h=>by simp only [lS] at h; subst h; simp
 | x :: l,cs,h=>by
   simp only [lS] at h
   obtain ⟨a,d,rfl,h2,h3⟩:=h
   intro u hu
   rcases List.mem_append.1 hu with hu | hu
   ·exact pO x a h2 u hu
   ·exact Dc l d h3 u hu
end

section
variable {P : Program} {t : Nat} {i : TI}

theorem pU.under (h : pU P t i) : ∃ d,P.underlying t = some d /\ descOf P d = i.desc:=by
 have:=h.desc
 cases hd : P.underlying t with
 | none=>simp [hd] at this
 | some d=>simp [hd] at this; exact ⟨d,rfl,this⟩

theorem pU.IK (h : pU P t i) (w : World) : (isAgg t).run P w = .ok (dI i.zero) w:=by
 obtain ⟨d,h1,h2⟩:=h.under
 rw [<- h.agg,<- h2]
 unfold isAgg
 simp only [Sem.run_bind,run_underlying h1,Result.andThen_ok]
 cases d <;> rfl

theorem pU.oO (h : pU P t i) (w : World) : (sizeOf t).run P w = .ok (flat i.zero) w:=by
 obtain ⟨x,v,h1,h2,_⟩:=h.info
 unfold sizeOf typeInfo
 simp [h1,h2]

theorem pU.y9 (h : pU P t i) (w : World) : ∃ v,(zeroValue t).run P w = .ok v w /\ eH i.zero v /\ ∀ w Im,Rd w Im i.zero v.cells.toList:=by
 obtain ⟨x,v,h1,h2,h3,h4,h5,h6⟩:=h.info
 refine ⟨v,?_,h5,h6⟩
 unfold zeroValue typeInfo
 simp [h1,h4]
end

theorem jw {P : Program} {L : Lay} {t : Nat} {x : AV} {k : Prop} (hL : dR P L) (h : yG L t x k) :
  isVal x = true /\ ∃ i,pU P t i /\ flat x = flat i.zero /\ dI x = dI i.zero /\ k:=by
 unfold yG at h
 obtain ⟨hv,h⟩:=uP.1 h
 refine ⟨hv,?_⟩
 obtain ⟨i,hi,h⟩:=Lay.bn hL h
 refine ⟨i,hi,?_⟩
 cases hb : Nat.beq (flat x) (flat i.zero) with
 | false=>simp [hb] at h
 | true =>
   simp only [hb] at h
   refine ⟨Nat.eq_of_beq_eq_true hb,?_⟩
   cases h1 : dI x <;> cases h2 : dI i.zero <;> simp [h1,h2] at h ⊢ <;> exact h

theorem qw {P : Program} {c : Cx} {t : Nat} {i : TI} {x : AV} {cs : List Value} {b off : Nat} (hT : pU P t i) (hf : flat x = flat i.zero) (ha : dI x = dI i.zero)
  (hr : VR c x cs) (hc : ∀ j v,cs[j]? = some v -> c.w.cell? ⟨b,off + j,none⟩ = some v) : (loadVar t ⟨b,off,none⟩).run P c.w = .ok (mkV x cs) c.w:=by
 unfold loadVar
 simp only [Sem.run_bind,hT.IK,Result.andThen_ok]
 cases hz : dI i.zero with
 | true =>
   have hl : cs.length = flat i.zero:=(gB _ _ hr).trans hf
   have:=run_loadCells_list (P:=P) c.w ⟨b,off,none⟩ cs (fun j v hj=>by
    have:=hc j v hj
    unfold Addr.add; split
    ·rename_i h0; subst h0; simpa using this
    ·simpa using this)
   simp only [if_true,Sem.run_bind,hT.oO,Result.andThen_ok,<- hl,this,Sem.run_pure]
   rw [hz] at ha
   cases x <;> simp [dI] at ha
   rfl
 | false =>
   obtain ⟨v,rfl,hv⟩:=nD hr (by rw [ha,hz])
   have:=hc 0 v rfl
   simp only [Nat.add_zero] at this
   simp only [Bool.false_eq_true,if_false,run_load,this]
   rw [hz] at ha
   have : mkV x [v] = v:=by cases x <;> simp [dI] at ha <;> rfl
   rw [this]

theorem sO {P : Program} {w : World} {t : Nat} {i : TI} {v : Value} {b off : Nat} {cur : Array Value} {ty : Nat} (hT : pU P t i) (hf : v.cells.size = flat i.zero)
  (hg : w.heap[b]? = some (.cells cur ty)) (hl : off + v.cells.size <= cur.size) (h1 : ∀ u ∈ v.cells.toList,u.oneCell' = true) :
  (storeVar t ⟨b,off,none⟩ v).run P w = .ok () (w.setRow b (cur.toList.take off ++ v.cells.toList ++ cur.toList.drop (off + v.cells.size)).toArray):=by
 unfold storeVar
 have:=run_storeCells_at P b off ty v.cells.toList 0 cur w hg (by simpa using hl) h1
 simp only [Nat.add_zero,Array.length_toList] at this
 simp only [Sem.run_bind,hT.oO,Result.andThen_ok,hf,ne_eq,not_true_eq_false,if_false]
 rw [hf] at this
 exact this

theorem cell_of_heap {w : World} {b o : Nat} {cs : Array Value} {ty : Nat} {fr : Nat × Nat} (h : w.heap[b]? = some (.cells cs ty fr)) : w.cell? ⟨b,o,none⟩ = cs[o]?:=by
 simp [World.cell?,h]

theorem nM {c : Cx} {A : AV} {v : Value} (h : EV c A v) (hv : isVal A = true) : VV c A v:=by
 cases A <;> first | exact h | (simp [isVal] at hv)

end Go.AL

namespace Go.AL

theorem rW {c d : Cx} (h : c.Le d) {sz : Nat} : ∀ {l : List AV} {cs : List Value},La c sz l cs -> La d sz l cs
 | [],_,_=>trivial
 | x :: l,cs,hr=>by
   obtain ⟨a,e,h1,h2,h3,h4⟩:=hr
   exact ⟨a,e,h1,h2,dZ h.im _ _ h3,rW h h4⟩

theorem Aq {c d : Cx} (h : c.Le d) : ∀ {l : List (AV × AV)} {es : List MapEntry},C9 c l es -> C9 d l es
 | [],_,hr=>hr
 | (x,y) :: l,es,hr=>by
   obtain ⟨e,r,h1,h2,h3,h4⟩:=hr
   exact ⟨e,r,h1,oz h h2,oz h h3,Aq h h4⟩

theorem nG {c d : Cx} (h : c.Le d) {k : Nat} {o : HO} (hk : k < c.nx) (ht : d.tk k = c.tk k)
  (hb : ∀ b,aO c (k,o) = some b -> d.w.heap[b]? = c.w.heap[b]? /\ ∀ x,d.Im b x -> c.Im b x) (ho : o.Ok c k) : o.Ok d k:=by
 cases o with
 | box A =>
   obtain ⟨cs,ty,h1,h2,h3⟩:=ho
   have:=hb (c.ρ k) rfl
   refine ⟨cs,ty,?_,oC h _ _ h2,?_⟩
   ·rw [h.ρ k hk,this.1,h1]
   ·rw [h.ρ k hk]; exact fun x hx=>h3 x (this.2 x hx)
 | arr sz cap l =>
   obtain ⟨cs,ty,h1,h2,h3,h4,h5,h6⟩:=ho
   have:=hb (c.ρ k) rfl
   refine ⟨cs,ty,?_,h2,h3,h4,rW h h5,?_⟩
   ·rw [h.ρ k hk,this.1,h1]
   ·rw [h.ρ k hk]; exact fun x hx=>h6 x (this.2 x hx)
 | tok sz top =>
   simp only [HO.Ok,ht] at ho ⊢
   by_cases he : (c.tk k).2 = top
   ·exact .inl he
   ·rcases ho with ho | ⟨b,cs,ty,h1,h2,h3,h4,h5,h6⟩
    ·exact .inl ho
    ·have:=hb b (by simp [aO,he,h1])
     exact .inr ⟨b,cs,ty,h1,by rw [this.1,h2],h3,h4,h5,fun x hx hi=>h6 x hx (this.2 x hi)⟩
 | dU sh es =>
   obtain ⟨ents,clock,h1,h2,h3⟩:=ho
   have:=hb (c.ρ k) rfl
   refine ⟨ents,clock,?_,Aq h h2,h3⟩
   rw [h.ρ k hk,this.1,h1]
 | iU sz l =>
   simp only [HO.Ok,ht] at ho ⊢
   rcases ho with ho | ⟨b,cs,ty,h1,h2,h3,h4,h5,h6,h7⟩
   ·exact .inl ho
   ·have:=hb b (by simp [aO,h1])
    exact .inr ⟨b,cs,ty,h1,by rw [this.1,h2],h3,h4,h5,rW h h6,fun x hx=>h7 x (this.2 x hx)⟩
 | gone=>trivial

theorem YD {c : Cx} {k : Nat} {o : HO} (ho : o.Ok c k) {b : Nat} (hb : aO c (k,o) = some b) : b < c.w.heap.size:=by
 have key : ∀ {x : Obj},c.w.heap[b]? = some x -> b < c.w.heap.size:=fun h=>(Array.getElem?_eq_some_iff.1 h).1
 cases o with
 | box A=>obtain ⟨cs,ty,h1,_⟩:=ho; simp [aO] at hb; subst hb; exact key h1
 | arr sz cap l=>obtain ⟨cs,ty,h1,_⟩:=ho; simp [aO] at hb; subst hb; exact key h1
 | tok sz top =>
   simp only [aO] at hb
   split at hb
   ·simp at hb
   ·rcases ho with ho | ⟨b',cs,ty,h1,h2,_⟩
    ·contradiction
    ·simp [h1] at hb; subst hb; exact key h2
 | dU sh es=>obtain ⟨ents,clock,h1,_⟩:=ho; simp [aO] at hb; subst hb; exact key h1
 | iU sz l =>
   rcases ho with ⟨h1,_⟩ | ⟨b',cs,ty,h1,h2,_⟩
   ·simp [aO,h1] at hb
   ·simp [aO,h1] at hb; subst hb; exact key h2
 | gone=>simp [aO] at hb

theorem HR.vO {c : Cx} {H : Heap} (h : HR c H) {x : Nat × HO} (hx : x ∈ H) {b : Nat} (hb : aO c x = some b) : b < c.w.heap.size :=
 YD (h.ok x hx) hb

theorem jR {c d : Cx} {x : Nat × HO} (hρ : d.ρ x.1 = c.ρ x.1) (ht : d.tk x.1 = c.tk x.1) : aO d x = aO c x:=by
 unfold aO; rw [hρ,ht]

theorem jW {α : Type} {R : α -> α -> Prop} : ∀ {l : List α},l.Pairwise R -> ∀ {S : α -> α -> Prop},(∀ x ∈ l,∀ y ∈ l,R x y -> S x y) -> l.Pairwise S
 | [],_,_,_=>.nil
 | x :: l,h,S,hS=>by
   rw [List.pairwise_cons] at h ⊢
   exact ⟨fun y hy=>hS x (by simp) y (by simp [hy]) (h.1 y hy),jW h.2 fun a ha b hb=>hS a (by simp [ha]) b (by simp [hb])⟩

theorem Tr.keep {c d : Cx} {H : Heap} (hr : HR c H) (le : c.Le d) (hnx : d.nx = c.nx) (htp : d.tp = c.tp) (htk : d.tk = c.tk)
  (os : d.w.os = c.w.os) (tape : d.w.tape = c.w.tape) (output : d.w.output = c.w.output) (size : c.w.heap.size <= d.w.heap.size)
  (fr : ∀ b,b < c.w.heap.size -> d.w.heap[b]? = c.w.heap[b]?) (im : ∀ b o,d.Im b o -> c.Im b o \/ (c.w.heap.size <= b /\ b < d.w.heap.size)) : Tr c H d H:=by
 have hbk : ∀ x ∈ H,aO d x = aO c x:=fun x hx=>jR (le.ρ _ (by rw [hr.nx]; exact bH hr.ids x hx)) (by rw [htk])
 refine ⟨⟨hnx.trans hr.nx,htp.trans hr.tp,hr.ids,fun b o h=>?_,fun x hx=>?_,?_⟩,le,os,tape,output,size,fun b hb _=>fr b hb,fun y hy b hb=>.inr ⟨y,hy,by rw [<- hbk y hy]; exact hb⟩,fun b o h=>(im b o h).imp id (fun h=>.inl h.1)⟩
 ·rcases im b o h with h | h
  ·have:=hr.im b o h; omega
  ·exact h.2
 ·refine nG le (by rw [hr.nx]; exact bH hr.ids x hx) (by rw [htk]) (fun b hb=>?_) (hr.ok x hx)
  have hlt:=hr.vO hx hb
  exact ⟨fr b hlt,fun o ho=>(im b o ho).resolve_right (by omega)⟩
 ·exact jW hr.apart fun x hx y hy h b hb=>by rw [hbk y hy]; rw [hbk x hx] at hb; exact h b hb

def Cx.alloc (c : Cx) (o : Obj) : Cx:={ c with w:=c.w.alloc o,Im:=fun b x=>c.Im b x \/ b = c.w.heap.size }

theorem fH (w : World) (o : Obj) {b : Nat} (h : b < w.heap.size) : (w.alloc o).heap[b]? = w.heap[b]?:=by
 show (w.heap.push o)[b]? = _
 rw [Array.getElem?_push,if_neg (by omega)]
theorem alloc_heap_new (w : World) (o : Obj) : (w.alloc o).heap[w.heap.size]? = some o:=by
 show (w.heap.push o)[_]? = _
 simp

theorem jd {w w' : World} {b o : Nat} (h : w'.heap[b]? = w.heap[b]?) : w'.cell? ⟨b,o,none⟩ = w.cell? ⟨b,o,none⟩:=by
 simp [World.cell?,h]

theorem Tr.alloc {c : Cx} {H : Heap} (hr : HR c H) (o : Obj) : Tr c H (c.alloc o) H:=by
 refine Tr.keep hr ⟨fun b x h=>⟨.inl h,?_⟩,Nat.le_refl _,fun _ _=>rfl,fun _ _ _ h=>.inl ⟨h,rfl⟩⟩ rfl rfl rfl rfl rfl rfl (by simp [Cx.alloc]) (fun b hb=>fH _ _ hb) (fun b x h=>?_)
 ·exact jd (fH _ _ (hr.im b x h))
 ·rcases h with h | h
  ·exact .inl h
  ·subst h; exact .inr ⟨Nat.le_refl _,by simp [Cx.alloc]⟩

theorem Tr.drew {c : Cx} {H : Heap} (hr : HR c H) : Tr c H { c with w:=c.w.drew } H :=
 Tr.keep hr ⟨fun _ _ h=>⟨h,rfl⟩,Nat.le_refl _,fun _ _=>rfl,fun _ _ _ h=>.inl ⟨h,rfl⟩⟩ rfl rfl rfl rfl rfl rfl (Nat.le_refl _) (fun _ _=>rfl) (fun _ _ h=>.inl h)

def Cx.push (c : Cx) (o : Obj) (H : Heap) : Cx :=
 { c with w:=c.w.alloc o,ρ:=fun k=>if k = c.nx then c.w.heap.size else c.ρ k,nx:=c.nx + 1,tp:=dA H }

theorem jU {H : Heap} {i k : Nat} {o : HO} (h : i ≠ k) : dA ((i,o) :: H) k = dA H k:=by
 unfold dA
 simp only [hget]
 cases hb : Nat.beq i k with
 | true=>exact absurd (Nat.eq_of_beq_eq_true hb) h
 | false=>rfl

theorem sG {H : Heap} {i : Nat} {o : HO} : dA ((i,o) :: H) i = (match o with | .tok _ n=>some n | .iU _ l=>some l.length | _=>none):=by
 unfold dA
 simp only [hget,Nat.beq_refl]
 cases o <;> rfl

theorem JK {c : Cx} {H : Heap} (hr : HR c H) (o : Obj) (ho : HO) : c.Le (c.push o ((nextId H,ho) :: H)):=by
 refine ⟨fun b x h=>⟨h,jd (fH _ _ (hr.im b x h))⟩,Nat.le_succ _,fun k hk=>?_,fun k n hk hn=>?_⟩
 ·simp only [Cx.push]; rw [if_neg (by omega)]
 ·refine .inl ⟨?_,rfl⟩
  have : nextId H ≠ k:=by rw [<- hr.nx]; omega
  simp only [Cx.push] at hn
  rw [jU this] at hn
  rw [hr.tp]; exact hn

theorem uSρ {c : Cx} {H : Heap} (hr : HR c H) (o : Obj) (G : Heap) : (c.push o G).ρ (nextId H) = c.w.heap.size:=by simp only [Cx.push]; rw [if_pos hr.nx.symm]

theorem Tr.push {c : Cx} {H : Heap} (hr : HR c H) (o : Obj) (ho : HO) (hblk : ∀ d : Cx,aO d (nextId H,ho) = some (d.ρ (nextId H)))
  (hok : ho.Ok (c.push o ((nextId H,ho) :: H)) (nextId H)) : Tr c H (c.push o ((nextId H,ho) :: H)) ((nextId H,ho) :: H):=by
 have hlt : ∀ x ∈ H,x.1 < c.nx:=fun x hx=>by rw [hr.nx]; exact bH hr.ids x hx
 have le:=JK hr o ho
 have hbk : ∀ x ∈ H,aO (c.push o ((nextId H,ho) :: H)) x = aO c x:=fun x hx=>jR (le.ρ _ (hlt x hx)) rfl
 have hρ : (c.push o ((nextId H,ho) :: H)).ρ (nextId H) = c.w.heap.size:=by simp only [Cx.push]; rw [if_pos hr.nx.symm]
 refine ⟨⟨?_,rfl,?_,?_,?_,?_⟩,le,rfl,rfl,rfl,by simp [Cx.push],fun b hb _=>fH _ _ hb,?_,fun b x h=>.inl h⟩
 ·simp only [Cx.push,nextId,hr.nx]
 ·exact ⟨fun x hx=>bH hr.ids x hx,hr.ids⟩
 ·intro b x h
  have:=hr.im b x h
  simp only [Cx.push,World.size_alloc]; omega
 ·intro x hx
  rcases List.mem_cons.1 hx with rfl | hx
  ·exact hok
  ·refine nG le (hlt x hx) rfl (fun b hb=>?_) (hr.ok x hx)
   exact ⟨fH _ _ (hr.vO hx hb),fun y hy=>hy⟩
 ·rw [List.pairwise_cons]
  constructor
  ·intro y hy b hb hb'
   rw [hblk,hρ] at hb
   rw [hbk y hy] at hb'
   have:=hr.vO hy hb'
   simp at hb; omega
  ·exact jW hr.apart fun x hx y hy h b hb=>by rw [hbk y hy]; rw [hbk x hx] at hb; exact h b hb
 ·intro y hy b hb
  rcases List.mem_cons.1 hy with rfl | hy
  ·rw [hblk,hρ] at hb; simp at hb; exact .inl (by omega)
  ·rw [hbk y hy] at hb; exact .inr ⟨y,hy,hb⟩

end Go.AL

namespace Go.AL

theorem fP {R : Nat × HO -> Nat × HO -> Prop} : ∀ {H : Heap},ay H -> (∀ x ∈ H,∀ y ∈ H,x.1 ≠ y.1 -> R x y) -> H.Pairwise R
 | [],_,_=>.nil
 | (i,o) :: H,hi,h=>by
   simp only [ay] at hi
   rw [List.pairwise_cons]
   exact ⟨fun y hy=>h _ (by simp) y (by simp [hy]) (by have:=hi.1 y hy; simp; omega),fP hi.2 fun x hx y hy=>h x (by simp [hx]) y (by simp [hy])⟩

theorem zn {R : Nat × HO -> Nat × HO -> Prop} (hs : ∀ x y,R x y -> R y x) : ∀ {H : Heap},H.Pairwise R -> ∀ x ∈ H,∀ y ∈ H,x.1 ≠ y.1 -> R x y
 | [],_,x,hx,_,_,_=>by simp at hx
 | z :: H,h,x,hx,y,hy,hn=>by
   rw [List.pairwise_cons] at h
   rcases List.mem_cons.1 hx with ex | ex <;> rcases List.mem_cons.1 hy with ey | ey
   ·subst ex; subst ey; exact absurd rfl hn
   ·subst ex; exact h.1 y ey
   ·subst ey; exact hs _ _ (h.1 x ex)
   ·exact zn hs h.2 x ex y ey hn

theorem HR.apart' {c : Cx} {H : Heap} (h : HR c H) {x y : Nat × HO} (hx : x ∈ H) (hy : y ∈ H) (hn : x.1 ≠ y.1) {b : Nat} (hb : aO c x = some b) : aO c y ≠ some b :=
 zn (R:=fun x y=>∀ b,aO c x = some b -> aO c y ≠ some b) (fun _ _ h b hb hb'=>h b hb' hb) h.apart x hx y hy hn b hb

theorem iI : ∀ {H : Heap} {k : Nat} {o' : HO} {x : Nat × HO},ay H -> x ∈ hset H k o' -> x = (k,o') \/ (x ∈ H /\ x.1 ≠ k)
 | [],_,_,_,_,h=>by simp [hset] at h
 | (i,o) :: H,k,o',x,hi,h=>by
   simp only [ay] at hi
   simp only [hset] at h
   cases hb : Nat.beq i k with
   | true =>
     have e:=Nat.eq_of_beq_eq_true hb
     rw [hb] at h
     rcases List.mem_cons.1 h with h | h
     ·exact .inl (by rw [h,e])
     ·exact .inr ⟨List.mem_cons_of_mem _ h,by have:=hi.1 x h; omega⟩
   | false =>
     rw [hb] at h
     rcases List.mem_cons.1 h with h | h
     ·exact .inr ⟨by rw [h]; exact List.mem_cons_self,by rw [h]; exact gU hb⟩
     ·exact (iI hi.2 h).imp id fun h=>⟨List.mem_cons_of_mem _ h.1,h.2⟩

theorem zy : ∀ {H : Heap} {k : Nat} {o' : HO} {x : Nat × HO},x ∈ hset H k o' -> ∃ y ∈ H,y.1 = x.1
 | [],_,_,_,h=>by simp [hset] at h
 | (i,o) :: H,k,o',x,h=>by
   simp only [hset] at h
   cases hb : Nat.beq i k with
   | true =>
     rw [hb] at h
     rcases List.mem_cons.1 h with rfl | h
     ·exact ⟨(i,o),List.mem_cons_self,rfl⟩
     ·exact ⟨x,List.mem_cons_of_mem _ h,rfl⟩
   | false =>
     rw [hb] at h
     rcases List.mem_cons.1 h with rfl | h
     ·exact ⟨(i,o),List.mem_cons_self,rfl⟩
     ·obtain ⟨y,hy,he⟩:=zy h; exact ⟨y,by simp [hy],he⟩

theorem oZ : ∀ {H : Heap} {k : Nat} {o' : HO},ay H -> ay (hset H k o')
 | [],_,_,h=>h
 | (i,o) :: H,k,o',h=>by
   simp only [ay] at h
   simp only [hset]
   cases Nat.beq i k with
   | true=>exact ⟨h.1,h.2⟩
   | false =>
     refine ⟨fun x hx=>?_,oZ h.2⟩
     obtain ⟨y,hy,he⟩:=zy hx
     have:=h.1 y hy; omega

theorem uZ : ∀ {H : Heap} {k : Nat} {o' : HO},nextId (hset H k o') = nextId H
 | [],_,_=>rfl
 | (i,o) :: H,k,o'=>by
   simp only [hset]
   cases Nat.beq i k <;> rfl

theorem sZ : ∀ {H : Heap} {k j : Nat} {o' : HO},j ≠ k -> hget (hset H k o') j = hget H j
 | [],_,_,_,_=>rfl
 | (i,o) :: H,k,j,o',h=>by
   simp only [hset]
   cases hb : Nat.beq i k with
   | true =>
     obtain rfl:=Nat.eq_of_beq_eq_true hb
     simp only [hget]
     cases hc : Nat.beq i j with
     | true=>exact absurd (Nat.eq_of_beq_eq_true hc).symm h
     | false=>rfl
   | false =>
     simp only [hget]
     cases Nat.beq i j with
     | true=>rfl
     | false=>exact sZ h

theorem jZ : ∀ {H : Heap} {k : Nat} {o o' : HO},hget H k = some o -> hget (hset H k o') k = some o'
 | [],_,_,_,h=>by simp [hget] at h
 | (i,x) :: H,k,o,o',h=>by
   simp only [hset]
   cases hb : Nat.beq i k with
   | true=>simp only [hget]; rw [hb]
   | false =>
     simp only [hget] at h ⊢
     rw [hb] at h ⊢
     exact jZ h

theorem Tr.set {c d : Cx} {H : Heap} {k : Nat} {o o' : HO} (hr : HR c H) (hk : hget H k = some o) (le : c.Le d) (hnx : d.nx = c.nx) (htp : d.tp = dA (hset H k o'))
  (htk : ∀ j,j ≠ k -> d.tk j = c.tk j) (os : d.w.os = c.w.os) (tape : d.w.tape = c.w.tape) (output : d.w.output = c.w.output) (size : c.w.heap.size <= d.w.heap.size)
  (fr : ∀ b,b < c.w.heap.size -> aO c (k,o) ≠ some b -> d.w.heap[b]? = c.w.heap[b]?)
  (im : ∀ b x,d.Im b x -> c.Im b x \/ (c.w.heap.size <= b /\ b < d.w.heap.size) \/ aO c (k,o) = some b)
  (hblk : ∀ b,aO d (k,o') = some b -> c.w.heap.size <= b \/ aO c (k,o) = some b) (hok : o'.Ok d k) : Tr c H d (hset H k o'):=by
 have hkm:=gZ hk
 have hlt : ∀ x ∈ H,x.1 < c.nx:=fun x hx=>by rw [hr.nx]; exact bH hr.ids x hx
 have hbk : ∀ x ∈ H,x.1 ≠ k -> aO d x = aO c x:=fun x hx hn=>jR (le.ρ _ (hlt x hx)) (htk _ hn)
 refine ⟨⟨?_,htp,oZ hr.ids,?_,?_,?_⟩,le,os,tape,output,size,?_,?_,?_⟩
 ·rw [uZ,hnx,hr.nx]
 ·intro b x h
  rcases im b x h with h | h | h
  ·have:=hr.im b x h; omega
  ·exact h.2
  ·have:=hr.vO hkm h; omega
 ·intro x hx
  rcases iI hr.ids hx with rfl | ⟨hx,hn⟩
  ·exact hok
  ·refine nG le (hlt x hx) (htk _ hn) (fun b hb=>?_) (hr.ok x hx)
   have hlt':=hr.vO hx hb
   have hne : aO c (k,o) ≠ some b:=fun h=>hr.apart' hkm hx (fun e=>hn e.symm) h hb
   refine ⟨fr b hlt' hne,fun y hy=>?_⟩
   rcases im b y hy with h | h | h
   ·exact h
   ·omega
   ·exact absurd h hne
 ·refine fP (oZ hr.ids) ?_
  intro x hx y hy hn b hb hb'
  rcases iI hr.ids hx with rfl | ⟨hx,hxn⟩ <;> rcases iI hr.ids hy with rfl | ⟨hy,hyn⟩
  ·exact hn rfl
  ·rw [hbk y hy hyn] at hb'
   rcases hblk b hb with h | h
   ·have:=hr.vO hy hb'; omega
   ·exact hr.apart' hkm hy (fun e=>hyn e.symm) h hb'
  ·rw [hbk x hx hxn] at hb
   rcases hblk b hb' with h | h
   ·have:=hr.vO hx hb; omega
   ·exact hr.apart' hkm hx (fun e=>hxn e.symm) h hb
  ·rw [hbk x hx hxn] at hb
   rw [hbk y hy hyn] at hb'
   exact hr.apart' hx hy hn hb hb'
 ·intro b hb hn
  exact fr b hb (hn _ hkm)
 ·intro y hy b hb
  rcases iI hr.ids hy with rfl | ⟨hy,hyn⟩
  ·exact (hblk b hb).imp id fun h=>⟨_,hkm,h⟩
  ·rw [hbk y hy hyn] at hb; exact .inr ⟨y,hy,hb⟩
 ·intro b x h
  rcases im b x h with h | h | h
  ·exact .inl h
  ·exact .inr (.inl h.1)
  ·exact .inr (.inr ⟨_,hkm,h⟩)

theorem jk {H : Heap} {k : Nat} {o o' : HO} (hk : hget H k = some o) (h1 : ∀ s n,o ≠ .tok s n) (h2 : ∀ s n,o' ≠ .tok s n)
  (h3 : ∀ s l,o ≠ .iU s l:=by intros; simp) (h4 : ∀ s l,o' ≠ .iU s l:=by intros; simp) : dA (hset H k o') = dA H:=by
 funext j
 unfold dA
 by_cases hj : j = k
 ·subst hj
  rw [jZ hk,hk]
  cases o <;> cases o' <;> first | rfl | exact absurd rfl (h1 _ _) | exact absurd rfl (h2 _ _) | exact absurd rfl (h3 _ _) | exact absurd rfl (h4 _ _)
 ·rw [sZ hj]

theorem Tr.write {c : Cx} {H : Heap} {k : Nat} {o o' : HO} {cur cs : Array Value} {ty : Nat} (hr : HR c H) (hk : hget H k = some o)
  (_hg : c.w.heap[c.ρ k]? = some (.cells cur ty)) (hb : ∀ d : Cx,aO d (k,o) = some (d.ρ k)) (hb' : ∀ d : Cx,aO d (k,o') = some (d.ρ k)) (him : ∀ x,¬ c.Im (c.ρ k) x)
  (h1 : ∀ s n,o ≠ .tok s n) (h2 : ∀ s n,o' ≠ .tok s n)
  (hok : o'.Ok { c with w:=c.w.setRow (c.ρ k) cs } k) : Tr c H { c with w:=c.w.setRow (c.ρ k) cs } (hset H k o'):=by
 have hother : ∀ b,b ≠ c.ρ k -> (c.w.setRow (c.ρ k) cs).heap[b]? = c.w.heap[b]?:=fun b hb=>setRow_other c.w _ b _ hb
 refine Tr.set hr hk ⟨fun b x h=>⟨h,?_⟩,Nat.le_refl _,fun _ _=>rfl,fun _ _ _ h=>.inl ⟨h,rfl⟩⟩ rfl ?_ (fun _ _=>rfl) rfl rfl rfl (by simp [World.setRow]) (fun b hb' hn=>hother b ?_) (fun b x h=>.inl h) (fun b h=>.inr ?_) hok
 ·exact jd (hother b (fun e=>him x (e ▸ h)))
 ·rw [jk hk h1 h2 (by rintro s l rfl; have:=hb { c with tk:=fun _=>(none,0) }; simp [aO] at this) (by rintro s l rfl; have:=hb' { c with tk:=fun _=>(none,0) }; simp [aO] at this)]; exact hr.tp
 ·intro e; exact hn (by rw [hb,e])
 ·rw [hb'] at h; rw [hb]; exact h

end Go.AL

namespace Go.AL

theorem Rh {c : Cx} {s : Nat} {cs : List Value} (h : VR c .aG cs) : Rd c.w c.Im (.sl s [] .no) cs:=by
 simp only [VR,Rd] at h ⊢
 exact ⟨by simp [maxL],.inl ⟨trivial,h⟩⟩

theorem sl_no {c : Cx} {s : Nat} {l : List AV} {t : Tk} {cs : List Value} (h : VR c (.sl s l t) cs) : Rd c.w c.Im (.sl s l .no) cs:=by
 cases t with
 | no=>simpa only [VR] using h
 | full=>simp only [VR] at h; exact h.1
 | own k=>simp only [VR] at h; exact h.2.1

theorem iF : ∀ {l m : List AV},dK l m -> l.length = m.length
 | [],[],_=>rfl
 | [],_ :: _,h=>by simp only [dK] at h
 | _ :: _,[],h=>by simp only [dK] at h
 | x :: l,y :: m,h=>by simp only [dK] at h; simp [iF h.2]

theorem WI {A B : AV} (h : rZ A B) : dI B = dI A:=by
 cases A with
 | ag l=>cases B <;> simp only [rZ] at h <;> first | rfl | cases h
 | sl s l t=>cases B <;> first | rfl | (cases t <;> simp only [rZ] at h <;> cases h)
 | _=>cases B <;> first | rfl | (simp only [rZ] at h; cases h)

theorem WL {A B : AV} (h : le0 A B) : dI B = dI A:=by
 cases A with
 | ag l=>cases B <;> simp only [le0] at h <;> first | rfl | cases h
 | sl s l t=>cases B <;> first | rfl | (cases t <;> simp only [le0] at h <;> cases h)
 | _=>cases B <;> first | rfl | (simp only [le0] at h; cases h)

theorem IC {A B : AV} {v : Value} (h : dI B = dI A) (hs : eH A v) : eH B v:=by
 unfold eH at *; rw [h]; exact hs

set_option maxHeartbeats 1600000 in
theorem dL {w : World} {Im : Nat -> Nat -> Prop} {A B : AV} {cs : List Value} (h1 : ∀ l,A ≠ .ag l) (h2 : ∀ t x,A ≠ .jm t x) (h3 : ∀ s l t,A ≠ .sl s l t) (h : rZ A B) (hr : Rd w Im A cs) : Rd w Im B cs:=by
 cases A with
 | ag l=>exact absurd rfl (h1 l)
 | jm t x=>exact absurd rfl (h2 t x)
 | sl s l t=>exact absurd rfl (h3 s l t)
 | aG =>
   cases B with
   | sl s' l' t' =>
     cases t' with
     | no=>simp only [rZ] at h; subst h; simp only [Rd] at hr ⊢; exact ⟨by simp [maxL],.inl ⟨trivial,hr⟩⟩
     | full=>simp only [rZ] at h; cases h
     | own k=>simp only [rZ] at h; cases h
   | aG=>exact hr
   | _=>simp only [rZ] at h; cases h
 | tt =>
   cases B <;> simp only [rZ] at h <;> first
    | exact hr
    | (subst h; exact hr)
    | (cases h; done)
    | (simp only [Rd] at hr ⊢; exact ⟨true,hr,by simpa using h⟩)
 | ff =>
   cases B <;> simp only [rZ] at h <;> first
    | exact hr
    | (subst h; exact hr)
    | (cases h; done)
    | (simp only [Rd] at hr ⊢; exact ⟨false,hr,by simpa using h⟩)
 | bool x =>
   cases B <;> simp only [rZ] at h <;> first
    | (subst h; exact hr)
    | (cases h; done)
    | (simp only [Rd] at hr ⊢; exact ⟨x,hr,h⟩)
 | dec p =>
   cases B with
   | bool b =>
     simp only [rZ] at h
     simp only [Rd] at hr ⊢
     obtain ⟨b',h1,h2⟩:=hr
     rw [h1,Bool.eq_iff_iff.2 (h2.trans h)]
   | dec q =>
     simp only [rZ] at h
     simp only [Rd] at hr ⊢
     obtain ⟨b',h1,h2⟩:=hr
     exact ⟨b',h1,h2.trans h⟩
   | tt =>
     simp only [rZ] at h
     simp only [Rd] at hr ⊢
     obtain ⟨b',h1,h2⟩:=hr
     rw [h1,h2.2 h]
   | ff =>
     simp only [rZ] at h
     simp only [Rd] at hr ⊢
     obtain ⟨b',h1,h2⟩:=hr
     cases b' with
     | true=>exact absurd (h2.1 rfl) h
     | false=>exact h1
   | _=>simp only [rZ] at h; cases h
 | int k n =>
   cases B with
   | int k' n'=>simp only [rZ] at h; obtain ⟨rfl,rfl⟩:=h; exact hr
   | _=>simp only [rZ] at h; cases h
 | str k =>
   cases B with
   | str k'=>simp only [rZ] at h; subst h; exact hr
   | _=>simp only [rZ] at h; cases h
 | _=>cases B <;> simp only [rZ] at h <;> first | exact hr | (cases h; exact hr) | (cases h; done)

mutual
theorem EY {w : World} {Im : Nat -> Nat -> Prop} : ∀ (A B : AV) (cs : List Value),rZ A B -> Rd w Im A cs -> Rd w Im B cs
 | .ag l,B,cs,h,hr=>by
   cases B with
   | ag m =>
     simp only [rZ] at h
     simp only [Rd] at hr ⊢
     exact MR l m cs h hr
   | _=>simp only [rZ] at h; cases h
 | .jm t x,B,cs,h,hr=>by
   cases B with
   | jm t' y =>
     simp only [rZ] at h
     simp only [Rd] at hr ⊢
     obtain ⟨rfl,h⟩:=h
     obtain ⟨v,h1,h2,h3⟩:=hr
     exact ⟨v,h1,IC (WI h) h2,EY x y _ h h3⟩
   | _=>simp only [rZ] at h; cases h
 | .sl s l .full,B,cs,h,hr=>by simp only [Rd] at hr
 | .sl s l (.own k),B,cs,h,hr=>by simp only [Rd] at hr
 | .sl s l .no,B,cs,h,hr=>by
   cases B with
   | sl s' l' t' =>
     cases t' with
     | no =>
       simp only [rZ] at h
       obtain ⟨rfl,h⟩:=h
       have hl:=iF h
       simp only [Rd] at hr ⊢
       rw [<- hl]
       refine ⟨hr.1,hr.2.imp ?_ ?_⟩
       ·rintro ⟨rfl,h2⟩
        exact ⟨List.eq_nil_of_length_eq_zero (by simpa using hl.symm),h2⟩
       ·rintro ⟨a,cap,h1,h2,h3,h4,h5⟩
        refine ⟨a,cap,h1,h2,h3,fun hne=>h4 fun e=>hne ?_,MS l l' _ _ _ h h5⟩
        subst e; exact List.eq_nil_of_length_eq_zero (by simpa using hl.symm)
     | full=>simp only [rZ] at h; cases h
     | own k=>simp only [rZ] at h; cases h
   | _=>simp only [rZ] at h; cases h
 | .bool _,_,_,h,hr=>dL (by simp) (by simp) (by simp) h hr
 | .tt,_,_,h,hr=>dL (by simp) (by simp) (by simp) h hr
 | .ff,_,_,h,hr=>dL (by simp) (by simp) (by simp) h hr
 | .dec _,_,_,h,hr=>dL (by simp) (by simp) (by simp) h hr
 | .int _ _,_,_,h,hr=>dL (by simp) (by simp) (by simp) h hr
 | .str _,_,_,h,hr=>dL (by simp) (by simp) (by simp) h hr
 | .eP,_,_,h,hr=>dL (by simp) (by simp) (by simp) h hr
 | .aG,_,_,h,hr=>dL (by simp) (by simp) (by simp) h hr
 | .ms _ _ _ _ _,_,_,h,hr=>dL (by simp) (by simp) (by simp) h hr
 | .eG _,_,_,h,hr=>dL (by simp) (by simp) (by simp) h hr
 | .ptr _ _ _,_,_,h,hr=>dL (by simp) (by simp) (by simp) h hr
 | .cp _,_,_,h,hr=>dL (by simp) (by simp) (by simp) h hr
 | .gK,_,_,h,hr=>dL (by simp) (by simp) (by simp) h hr
 | .fn _ _,_,_,h,hr=>dL (by simp) (by simp) (by simp) h hr
 | .aH,_,_,h,hr=>dL (by simp) (by simp) (by simp) h hr
 | .mp _,_,_,h,hr=>dL (by simp) (by simp) (by simp) h hr
 | .gs _ _,_,_,h,hr=>dL (by simp) (by simp) (by simp) h hr
 | .bm _ _,_,_,h,hr=>dL (by simp) (by simp) (by simp) h hr
 | .iT,_,_,h,hr=>dL (by simp) (by simp) (by simp) h hr
 | .und,_,_,h,hr=>dL (by simp) (by simp) (by simp) h hr
theorem MR {w : World} {Im : Nat -> Nat -> Prop} : ∀ (l m : List AV) (cs : List Value),dK l m -> lM w Im l cs -> lM w Im m cs
 | [],[],_,_,hr=>hr
 | [],_ :: _,_,h,_=>by simp only [dK] at h
 | _ :: _,[],_,h,_=>by simp only [dK] at h
 | x :: l,y :: m,cs,h,hr=>by
   simp only [dK] at h
   simp only [lM] at hr ⊢
   obtain ⟨a,d,h1,h2,h3⟩:=hr
   exact ⟨a,d,h1,EY x y a h.1 h2,MR l m d h.2 h3⟩
theorem MS {w : World} {Im : Nat -> Nat -> Prop} : ∀ (l m : List AV) (sz b off : Nat),dK l m -> su w Im sz b l off -> su w Im sz b m off
 | [],[],_,_,_,_,hr=>hr
 | [],_ :: _,_,_,_,h,_=>by simp only [dK] at h
 | _ :: _,[],_,_,_,h,_=>by simp only [dK] at h
 | x :: l,y :: m,sz,b,off,h,hr=>by
   simp only [dK] at h
   simp only [su] at hr ⊢
   obtain ⟨⟨a,h1,h2,h3⟩,h4⟩:=hr
   exact ⟨⟨a,h1,h2,EY x y a h.1 h3⟩,MS l m sz b _ h.2 h4⟩
end

theorem vZ {c : Cx} {sz : Nat} : ∀ {l m : List AV} {cs : List Value},dK l m -> La c sz l cs -> La c sz m cs
 | [],[],_,_,h=>h
 | [],_ :: _,_,h,_=>by simp only [dK] at h
 | _ :: _,[],_,h,_=>by simp only [dK] at h
 | x :: l,y :: m,cs,h,hr=>by
   simp only [dK] at h
   obtain ⟨a,d,h1,h2,h3,h4⟩:=hr
   exact ⟨a,d,h1,h2,EY x y _ h.1 h3,vZ h.2 h4⟩

theorem J6 {w : World} {Im : Nat -> Nat -> Prop} {s : Nat} {l m : List AV} {cs : List Value} (h : dK l m) (hr : Rd w Im (.sl s l .no) cs) : Rd w Im (.sl s m .no) cs :=
 EY _ _ _ (by simp only [rZ]; exact ⟨trivial,h⟩) hr

set_option maxHeartbeats 1600000 in
theorem dG {c : Cx} {A B : AV} {cs : List Value} (hA : dI A = false) (hI : ∀ t x,A ≠ .jm t x) (h : le0 A B) (hr : VR c A cs) : VR c B cs /\ dI B = false:=by
 cases A with
 | ag l=>cases hA
 | jm t x=>exact absurd rfl (hI t x)
 | sl s l t =>
   cases B with
   | sl s' l' t' =>
     cases t' with
     | no =>
       have h' : s = s' /\ dK l l':=by cases t <;> simpa only [le0] using h
       obtain ⟨e,h'⟩:=h'
       exact ⟨by simp only [VR]; exact e ▸ J6 h' (sl_no hr),rfl⟩
     | full =>
       cases t with
       | full =>
         simp only [le0] at h
         obtain ⟨rfl,h⟩:=h
         simp only [VR] at hr ⊢
         exact ⟨⟨J6 h hr.1,by rw [<- iF h]; exact hr.2⟩,rfl⟩
       | _=>simp only [le0] at h; cases h
     | own k' =>
       cases t with
       | own k =>
         simp only [le0] at h
         obtain ⟨rfl,h,rfl⟩:=h
         simp only [VR] at hr ⊢
         exact ⟨⟨hr.1,J6 h hr.2.1,by rw [<- iF h]; exact hr.2.2⟩,rfl⟩
       | _=>simp only [le0] at h; cases h
   | _=>cases t <;> simp only [le0] at h <;> cases h
 | aG =>
   cases B with
   | sl s' l' t' =>
     cases t' with
     | no=>simp only [le0] at h; subst h; exact ⟨by simp only [VR]; exact Rh hr,rfl⟩
     | full =>
       simp only [le0] at h; subst h
       refine ⟨?_,rfl⟩
       simp only [VR]
       refine ⟨Rh hr,none,?_⟩
       simp only [VR,Rd] at hr
       simpa using hr
     | own k=>simp only [le0] at h; cases h
   | aG=>exact ⟨hr,rfl⟩
   | _=>simp only [le0] at h; cases h
 | tt =>
   cases B <;> simp only [le0] at h <;> first
    | exact ⟨hr,rfl⟩
    | (subst h; exact ⟨hr,rfl⟩)
    | (cases h; done)
    | (refine ⟨?_,rfl⟩; simp only [VR,Rd] at hr ⊢; exact ⟨true,hr,by simpa using h⟩)
 | ff =>
   cases B <;> simp only [le0] at h <;> first
    | exact ⟨hr,rfl⟩
    | (subst h; exact ⟨hr,rfl⟩)
    | (cases h; done)
    | (refine ⟨?_,rfl⟩; simp only [VR,Rd] at hr ⊢; exact ⟨false,hr,by simpa using h⟩)
 | bool x =>
   cases B <;> simp only [le0] at h <;> first
    | (subst h; exact ⟨hr,rfl⟩)
    | (cases h; done)
    | (refine ⟨?_,rfl⟩; simp only [VR,Rd] at hr ⊢; exact ⟨x,hr,h⟩)
 | dec p =>
   cases B with
   | bool b =>
     simp only [le0] at h
     simp only [VR,Rd] at hr ⊢
     obtain ⟨b',h1,h2⟩:=hr
     refine ⟨?_,rfl⟩
     rw [h1,Bool.eq_iff_iff.2 (h2.trans h)]
   | dec q =>
     simp only [le0] at h
     simp only [VR,Rd] at hr ⊢
     obtain ⟨b',h1,h2⟩:=hr
     exact ⟨⟨b',h1,h2.trans h⟩,rfl⟩
   | tt =>
     simp only [le0] at h
     simp only [VR,Rd] at hr ⊢
     obtain ⟨b',h1,h2⟩:=hr
     exact ⟨by rw [h1,h2.2 h],rfl⟩
   | ff =>
     simp only [le0] at h
     simp only [VR,Rd] at hr ⊢
     obtain ⟨b',h1,h2⟩:=hr
     refine ⟨?_,rfl⟩
     cases b' with
     | true=>exact absurd (h2.1 rfl) h
     | false=>exact h1
   | _=>simp only [le0] at h; cases h
 | int k n =>
   cases B with
   | int k' n'=>simp only [le0] at h; obtain ⟨rfl,rfl⟩:=h; exact ⟨hr,rfl⟩
   | _=>simp only [le0] at h; cases h
 | str k =>
   cases B with
   | str k'=>simp only [le0] at h; subst h; exact ⟨hr,rfl⟩
   | _=>simp only [le0] at h; cases h
 | _=>cases B <;> simp only [le0] at h <;> first | exact ⟨hr,rfl⟩ | (cases h; exact ⟨hr,rfl⟩) | (cases h; done)

mutual
theorem EZ {c : Cx} : ∀ (A B : AV) (cs : List Value),le0 A B -> VR c A cs -> VR c B cs /\ dI B = dI A
 | .ag l,B,cs,h,hr=>by
   cases B with
   | ag m =>
     simp only [le0] at h
     simp only [VR] at hr ⊢
     exact ⟨Rw l m cs h hr,rfl⟩
   | _=>simp only [le0] at h; cases h
 | .bool _,_,_,h,hr=>dG rfl (by simp) h hr
 | .tt,_,_,h,hr=>dG rfl (by simp) h hr
 | .ff,_,_,h,hr=>dG rfl (by simp) h hr
 | .dec _,_,_,h,hr=>dG rfl (by simp) h hr
 | .int _ _,_,_,h,hr=>dG rfl (by simp) h hr
 | .str _,_,_,h,hr=>dG rfl (by simp) h hr
 | .eP,_,_,h,hr=>dG rfl (by simp) h hr
 | .jm t x,B,cs,h,hr=>by
   cases B with
   | jm t' y =>
     simp only [le0] at h
     simp only [VR] at hr ⊢
     obtain ⟨rfl,h⟩:=h
     obtain ⟨v,h1,h2,h3⟩:=hr
     exact ⟨⟨v,h1,IC (WL h) h2,(EZ x y _ h h3).1⟩,rfl⟩
   | _=>simp only [le0] at h; cases h
 | .aG,_,_,h,hr=>dG rfl (by simp) h hr
 | .sl _ _ _,_,_,h,hr=>dG rfl (by simp) h hr
 | .ms _ _ _ _ _,_,_,h,hr=>dG rfl (by simp) h hr
 | .eG _,_,_,h,hr=>dG rfl (by simp) h hr
 | .ptr _ _ _,_,_,h,hr=>dG rfl (by simp) h hr
 | .cp _,_,_,h,hr=>dG rfl (by simp) h hr
 | .gK,_,_,h,hr=>dG rfl (by simp) h hr
 | .fn _ _,_,_,h,hr=>dG rfl (by simp) h hr
 | .aH,_,_,h,hr=>dG rfl (by simp) h hr
 | .mp _,_,_,h,hr=>dG rfl (by simp) h hr
 | .gs _ _,_,_,h,hr=>dG rfl (by simp) h hr
 | .bm _ _,_,_,h,hr=>dG rfl (by simp) h hr
 | .iT,_,_,h,hr=>dG rfl (by simp) h hr
 | .und,_,_,h,hr=>dG rfl (by simp) h hr
theorem Rw {c : Cx} : ∀ (l m : List AV) (cs : List Value),H9 l m -> lS c l cs -> lS c m cs
 | [],[],_,_,hr=>hr
 | [],_ :: _,_,h,_=>by simp only [H9] at h
 | _ :: _,[],_,h,_=>by simp only [H9] at h
 | x :: l,y :: m,cs,h,hr=>by
   simp only [H9] at h
   simp only [lS] at hr ⊢
   obtain ⟨a,d,h1,h2,h3⟩:=hr
   exact ⟨a,d,h1,(EZ x y a h.1 h2).1,Rw l m d h.2 h3⟩
end

theorem Bg {c : Cx} {A B : AV} {v : Value} (h : le0 A B) (hv : VV c A v) : VV c B v:=by
 obtain ⟨h1,h2⟩:=EZ A B _ h hv.2
 exact ⟨⟨fun hb=>hv.1.1 (by rw [<- h2]; exact hb),fun hb=>hv.1.2 (by rw [<- h2]; exact hb)⟩,h1⟩

theorem WJ {c : Cx} : ∀ {l m : List AV} {vs : List Value},H9 l m -> VA c l vs -> VA c m vs
 | [],[],_,_,hr=>hr
 | [],_ :: _,_,h,_=>by simp only [H9] at h
 | _ :: _,[],_,h,_=>by simp only [H9] at h
 | x :: l,y :: m,vs,h,hr=>by
   simp only [H9] at h
   simp only [VA] at hr ⊢
   obtain ⟨v,r,h1,h2,h3,h4⟩:=hr
   have:=Bg h.1 ⟨h2,h3⟩
   exact ⟨v,r,h1,this.1,this.2,WJ h.2 h4⟩

theorem WH {c : Cx} {A B : AV} {v : Value} (h : le A B) (hv : EV c A v) : EV c B v:=by
 cases A with
 | eG l =>
   cases B with
   | und=>trivial
   | eG m =>
     obtain ⟨vs,h1,h2⟩:=hv
     exact ⟨vs,h1,WJ h h2⟩
   | _=>simp only [le,le0] at h; cases h
 | und =>
   cases B with
   | und=>trivial
   | _=>simp only [le,le0] at h; cases h
 | _ =>
   have hv : VV c _ v:=hv
   cases B with
   | und=>trivial
   | _=>exact bg (Bg h hv)

def Cx.cut (c : Cx) (G : Heap) : Cx:={ c with nx:=nextId G,tp:=dA G }

mutual
theorem GU {c : Cx} {G : Heap} (htp : ∀ k n,dA G k = some n -> c.tp k = some n) : ∀ (A : AV) (cs : List Value),dN (nextId G) A = true -> VR c A cs -> VR (c.cut G) A cs
 | .bool _,_,_,hr=>by simp only [VR] at hr ⊢; exact hr
 | .tt,_,_,hr=>by simp only [VR] at hr ⊢; exact hr
 | .ff,_,_,hr=>by simp only [VR] at hr ⊢; exact hr
 | .dec _,_,_,hr=>by simp only [VR] at hr ⊢; exact hr
 | .int _ _,_,_,hr=>by simp only [VR] at hr ⊢; exact hr
 | .str _,_,_,hr=>by simp only [VR] at hr ⊢; exact hr
 | .eP,_,_,hr=>by simp only [VR] at hr ⊢; exact hr
 | .jm t x,cs,hb,hr=>by
   simp only [VR] at hr ⊢
   obtain ⟨v,h1,h2,h3⟩:=hr
   exact ⟨v,h1,h2,GU htp x _ (by simpa only [dN] using hb) h3⟩
 | .aG,_,_,hr=>by simp only [VR] at hr ⊢; exact hr
 | .sl _ _ .no,_,_,hr=>by simp only [VR] at hr ⊢; exact hr
 | .sl _ _ .full,_,_,hr=>by simp only [VR] at hr ⊢; exact hr
 | .sl sz l (.own k),cs,hb,hr=>by
   simp only [VR] at hr ⊢
   obtain ⟨h1,h2,h3⟩:=hr
   simp only [dN] at hb
   exact ⟨Nat.le_of_ble_eq_true hb,h2,fun n hn=>h3 n (htp k n hn)⟩
 | .ms k _ _ _ _,_,hb,hr=>by
   simp only [VR] at hr ⊢
   simp only [dN] at hb
   exact ⟨Nat.le_of_ble_eq_true hb,hr.2⟩
 | .ag l,cs,hb,hr=>by
   simp only [VR] at hr ⊢
   exact SG htp l cs (by simpa only [dN] using hb) hr
 | .eG _,_,_,hr=>by simp only [VR] at hr ⊢; exact hr
 | .ptr k _ _,_,hb,hr=>by
   simp only [VR] at hr ⊢
   simp only [dN] at hb
   exact ⟨Nat.le_of_ble_eq_true hb,hr.2⟩
 | .cp x,cs,_,hr=>by simp only [VR] at hr ⊢; exact hr
 | .gK,_,_,hr=>by simp only [VR] at hr ⊢; exact hr
 | .fn f cap,cs,hb,hr=>by
   simp only [VR] at hr ⊢
   obtain ⟨vs,h1,h2⟩:=hr
   exact ⟨vs,h1,QA htp cap vs (by simpa only [dN] using hb) h2⟩
 | .aH,_,_,hr=>by simp only [VR] at hr ⊢; exact hr
 | .mp k,_,hb,hr=>by
   simp only [VR] at hr ⊢
   simp only [dN] at hb
   exact ⟨Nat.le_of_ble_eq_true hb,hr.2⟩
 | .bm f k,_,hb,hr=>by
   simp only [VR] at hr ⊢
   simp only [dN] at hb
   exact ⟨Nat.le_of_ble_eq_true hb,hr.2⟩
 | .gs k len,_,hb,hr=>by
   simp only [VR] at hr ⊢
   simp only [dN] at hb
   exact ⟨Nat.le_of_ble_eq_true hb,hr.2.1,fun n hn=>hr.2.2 n (htp k n hn)⟩
 | .iT,_,_,hr=>by simp only [VR] at hr ⊢; exact hr
 | .und,_,_,hr=>by simp only [VR] at hr ⊢; exact hr
theorem SG {c : Cx} {G : Heap} (htp : ∀ k n,dA G k = some n -> c.tp k = some n) : ∀ (l : List AV) (cs : List Value),iM (nextId G) l = true -> lS c l cs -> lS (c.cut G) l cs
 | [],_,_,hr=>by simpa only [lS] using hr
 | x :: l,cs,hb,hr=>by
   simp only [lS] at hr ⊢
   simp only [iM] at hb
   obtain ⟨a,e,h1,h2,h3⟩:=hr
   cases hx : dN (nextId G) x with
   | false=>rw [hx] at hb; cases hb
   | true=>rw [hx] at hb; exact ⟨a,e,h1,GU htp x _ hx h2,SG htp l _ hb h3⟩
theorem QA {c : Cx} {G : Heap} (htp : ∀ k n,dA G k = some n -> c.tp k = some n) : ∀ (l : List AV) (vs : List Value),iM (nextId G) l = true -> VA c l vs -> VA (c.cut G) l vs
 | [],_,_,hr=>by simpa only [VA] using hr
 | x :: l,vs,hb,hr=>by
   simp only [VA] at hr ⊢
   simp only [iM] at hb
   obtain ⟨v,r,h1,h2,h3,h4⟩:=hr
   cases hx : dN (nextId G) x with
   | false=>rw [hx] at hb; cases hb
   | true=>rw [hx] at hb; exact ⟨v,r,h1,h2,GU htp x _ hx h3,QA htp l _ hb h4⟩
end

theorem GN {c : Cx} {G : Heap} (htp : ∀ k n,dA G k = some n -> c.tp k = some n) {A : AV} {v : Value} (hb : dN (nextId G) A = true) (h : VV c A v) : VV (c.cut G) A v:=⟨h.1,GU htp _ _ hb h.2⟩

theorem Hr {c : Cx} {G : Heap} (htp : ∀ k n,dA G k = some n -> c.tp k = some n) {A : AV} {v : Value} (hb : dN (nextId G) A = true) (h : EV c A v) : EV (c.cut G) A v:=by
 cases A <;> first
  | exact GN htp hb h
  | trivial
  | (obtain ⟨vs,h1,h2⟩:=h; exact ⟨vs,h1,QA htp _ _ (by simpa only [dN] using hb) h2⟩)

theorem SC {c : Cx} {G : Heap} (htp : ∀ k n,dA G k = some n -> c.tp k = some n) : ∀ {l : List (AV × AV)} {es : List MapEntry},oq (nextId G) l = true -> C9 c l es -> C9 (c.cut G) l es
 | [],_,_,hr=>hr
 | (x,y) :: l,es,hb,hr=>by
   obtain ⟨e,r,h1,h2,h3,h4⟩:=hr
   simp only [oq] at hb
   cases hx : dN (nextId G) x with
   | false=>rw [hx] at hb; cases hb
   | true =>
     cases hy : dN (nextId G) y with
     | false=>rw [hx,hy] at hb; cases hb
     | true=>rw [hx,hy] at hb; exact ⟨e,r,h1,GN htp hx h2,GN htp hy h3,SC htp hb h4⟩

theorem DN {H : Heap} {n : Nat} : ∀ {G : Heap},WkH H n G -> ∀ k o,(k,o) ∈ G -> ∃ o',hget H k = some o' /\ OM o' o /\ (match o with | .dU _ es=>oq n es = true | o=>Gl n o = true)
 | [],_,_,_,hm=>by simp at hm
 | (i,x) :: G,h,k,o,hm=>by
   simp only [WkH] at h
   rcases List.mem_cons.1 hm with hm | hm
   ·simp at hm
    obtain ⟨rfl,rfl⟩:=hm
    obtain ⟨o',h1,h2⟩:=dB.1 h.1
    exact ⟨o',h1,h2⟩
   ·exact DN h.2 k o hm

theorem J8 {o : HO} {s n : Nat} (h : OM o (.tok s n)) : o = .tok s n:=by
 cases o <;> simp only [OM] at h
 obtain ⟨rfl,rfl⟩:=h; rfl

theorem MV {o : HO} {s : Nat} {l : List AV} (h : OM o (.iU s l)) : ∃ l',o = .iU s l' /\ dK l' l:=by
 cases o <;> simp only [OM] at h
 obtain ⟨rfl,h⟩:=h; exact ⟨_,rfl,h⟩

theorem QE.tp {H G : Heap} (h : QE H G) : ∀ k n,dA G k = some n -> dA H k = some n:=by
 intro k n hn
 unfold dA at hn ⊢
 cases hg : hget G k with
 | none=>simp [hg] at hn
 | some o =>
   rw [hg] at hn
   obtain ⟨o',h1,h2,_⟩:=DN h.get k _ (gZ hg)
   cases o <;> simp at hn
   ·subst hn
    obtain rfl:=J8 h2
    rw [h1]
   ·subst hn
    obtain ⟨l',rfl,h3⟩:=MV h2
    rw [h1]; simp [iF h3]

theorem Ru {c d : Cx} {k : Nat} {o' o : HO} (hρ : d.ρ = c.ρ) (ht : d.tk = c.tk) (h : OM o' o) {b : Nat} (hb : aO d (k,o) = some b) : aO c (k,o') = some b:=by
 cases o with
 | gone=>simp [aO] at hb
 | tok s n =>
   obtain rfl:=J8 h
   simp only [aO,ht] at hb ⊢; exact hb
 | _=>cases o' <;> simp only [OM] at h <;> simp only [aO,hρ,ht] at hb ⊢ <;> exact hb

theorem J9 {c : Cx} : ∀ {l m : List (AV × AV)} {es : List MapEntry},Vg l m -> C9 c l es -> C9 c m es
 | [],[],_,_,h=>h
 | [],_ :: _,_,h,_=>by simp only [Vg] at h
 | _ :: _,[],_,h,_=>by simp only [Vg] at h
 | (x,v) :: l,(y,u) :: m,es,h,hr=>by
   simp only [Vg] at h
   obtain ⟨rfl,h1,h2⟩:=h
   obtain ⟨e,r,g1,g2,g3,g4⟩:=hr
   exact ⟨e,r,g1,g2,Bg h1 g3,J9 h2 g4⟩

theorem Ko {sh : AV} : ∀ {l m : List (AV × AV)},Vg l m -> OG sh l -> OG sh m
 | [],[],_,h=>h
 | [],_ :: _,h,_=>by simp only [Vg] at h
 | _ :: _,[],h,_=>by simp only [Vg] at h
 | (x,v) :: l,(y,u) :: m,h,hr=>by
   simp only [Vg] at h
   obtain ⟨rfl,h1,h2⟩:=h
   exact ⟨hr.1,Ko h2 hr.2⟩

theorem Tr.cut {c0 c : Cx} {H0 H G : Heap} (htr : Tr c0 H0 c H) (hw : QE H G) (hn : c0.nx <= nextId G) : Tr c0 H0 (c.cut G) G:=by
 have htp : ∀ k n,dA G k = some n -> c.tp k = some n:=fun k n h=>by rw [htr.hr.tp]; exact hw.tp k n h
 have hmem : ∀ x ∈ G,∃ o',(x.1,o') ∈ H /\ OM o' x.2 /\ ∀ b,aO (c.cut G) x = some b -> aO c (x.1,o') = some b:=by
  rintro ⟨k,o⟩ hx
  obtain ⟨o',h1,h2,_⟩:=DN hw.get k o hx
  exact ⟨o',gZ h1,h2,fun b hb=>Ru (d:=c.cut G) rfl rfl h2 hb⟩
 refine ⟨⟨rfl,rfl,hw.ids,htr.hr.im,?_,?_⟩,⟨htr.le.im,hn,htr.le.ρ,fun k n hk h=>htr.le.tk k n hk (htp k n h)⟩,htr.os,htr.tape,htr.output,htr.size,htr.fr,?_,htr.YK⟩
 ·rintro ⟨k,o⟩ hx
  obtain ⟨o',h1,h2,h3⟩:=DN hw.get k o hx
  have hok:=htr.hr.sV h1
  by_cases Na : o = .gone
  ·subst Na; trivial
  cases o' <;> cases o <;> simp only [OM] at h2 <;> first | exact absurd rfl Na | skip
  ·obtain ⟨cs,ty,g1,g2,g3⟩:=hok
   simp only [Gl] at h3
   exact ⟨cs,ty,g1,GU htp _ _ h3 (EZ _ _ _ h2 g2).1,g3⟩
  ·obtain ⟨rfl,rfl,h2⟩:=h2
   obtain ⟨cs,ty,g1,g2,g3,g4,g5,g6⟩:=hok
   have hv : ∀ {sz : Nat} {l : List AV} {cs : List Value},La c sz l cs -> La (c.cut G) sz l cs:=by
    intro sz l
    induction l with
    | nil=>intros; trivial
    | cons x l ih=>rintro cs ⟨a,d,h1,h2,h3,h4⟩; exact ⟨a,d,h1,h2,h3,ih h4⟩
   exact ⟨cs,ty,g1,g2,by rw [<- iF h2]; exact g3,g4,hv (vZ h2 g5),g6⟩
  ·obtain ⟨rfl,rfl⟩:=h2
   exact hok
  ·obtain ⟨rfl,h2⟩:=h2
   obtain ⟨ents,clock,g1,g2,g3,g4⟩:=hok
   exact ⟨ents,clock,g1,SC htp h3 (J9 h2 g2),Ko h2 g3,g4⟩
  ·obtain ⟨rfl,h2⟩:=h2
   have hv : ∀ {sz : Nat} {l : List AV} {cs : List Value},La c sz l cs -> La (c.cut G) sz l cs:=by
    intro sz l
    induction l with
    | nil=>intros; trivial
    | cons x l ih=>rintro cs ⟨a,d,h1,h2,h3,h4⟩; exact ⟨a,d,h1,h2,h3,ih h4⟩
   have hl:=iF h2
   rcases hok with ⟨g1,g2,g3⟩ | ⟨b,cs,ty,g1,g2,g3,g4,g5,g6,g7⟩
   ·subst g3; exact .inl ⟨g1,g2,List.length_eq_zero_iff.1 (by rw [<- hl]; rfl)⟩
   ·exact .inr ⟨b,cs,ty,g1,g2,g3,by rw [<- hl]; exact g4,g5,hv (vZ h2 g6),g7⟩
 ·refine fP hw.ids fun x hx y hy hne b hb hb'=>?_
  obtain ⟨o1,h1,_,e1⟩:=hmem x hx
  obtain ⟨o2,h2,_,e2⟩:=hmem y hy
  exact htr.hr.apart' h1 h2 hne (e1 b hb) (e2 b hb')
 ·intro y hy b hb
  obtain ⟨o1,h1,_,e1⟩:=hmem y hy
  exact htr.own _ h1 b (e1 b hb)

theorem Sl {e : Env} {n : Nat} : ∀ {E : Env},Sm e n E -> ∀ t A,(t,A) ∈ E -> ∃ A',dP e t = some A' /\ le A' A /\ dN n A = true
 | [],_,_,_,hm=>by simp at hm
 | (i,x) :: E,h,t,A,hm=>by
   simp only [Sm] at h
   rcases List.mem_cons.1 hm with hm | hm
   ·simp at hm
    obtain ⟨rfl,rfl⟩:=hm
    obtain ⟨A',h1,h2⟩:=gW.1 h.1
    exact ⟨A',h1,h2⟩
   ·exact Sl h.2 t A hm

theorem ND : ∀ {e : Env} {t : Nat} {A : AV},dP e t = some A -> (t,A) ∈ e
 | [],_,_,h=>by simp [dP] at h
 | (i,x) :: e,t,A,h=>by
   simp only [dP] at h
   cases hb : Nat.beq i t with
   | true =>
     rw [hb] at h
     obtain rfl:=Nat.eq_of_beq_eq_true hb
     simp at h; subst h; simp
   | false=>rw [hb] at h; exact List.mem_cons_of_mem _ (ND h)

theorem WkE_all {c : Cx} {e E : Env} {G H : Heap} {a : Act} (he : gJ c e a) (hr : HR c H) (hw : QE H G) (h : Sm e (nextId G) E) : ∀ t A,(t,A) ∈ E -> EV (c.cut G) A (a.tmps.getD t undef):=by
 intro t A hm
 obtain ⟨A',h1,h2,h3⟩:=Sl h t A hm
 exact Hr (fun k n hn=>by rw [hr.tp]; exact hw.tp k n hn) h3 (WH h2 (he t A' h1))

mutual
theorem EX : ∀ (A : AV),rZ A A
 | .bool _ | .tt | .ff | .dec _ | .str _ | .eP | .aG | .ms _ _ _ _ _ | .eG _ | .ptr _ _ _ | .cp _ | .gK | .fn _ _ | .aH | .mp _ | .gs _ _ | .bm _ _ | .iT | .und=>by simp [rZ]
 | .jm t x=>⟨rfl,EX x⟩
 | .int _ _=>⟨rfl,rfl⟩
 | .sl _ l .no=>⟨rfl,aB l⟩
 | .sl _ l .full=>by simp [rZ]
 | .sl _ l (.own _)=>by simp [rZ]
 | .ag l=>aB l
theorem aB : ∀ (l : List AV),dK l l
 | []=>trivial
 | x :: l=>⟨EX x,aB l⟩
end

mutual
theorem fG : ∀ (A : AV),le0 A A
 | .bool _ | .tt | .ff | .dec _ | .str _ | .eP | .aG | .ms _ _ _ _ _ | .eG _ | .ptr _ _ _ | .cp _ | .gK | .fn _ _ | .aH | .mp _ | .gs _ _ | .bm _ _ | .iT | .und=>by simp [le0]
 | .jm t x=>⟨rfl,fG x⟩
 | .int _ _=>⟨rfl,rfl⟩
 | .sl _ l .no=>⟨rfl,aB l⟩
 | .sl _ l .full=>⟨rfl,aB l⟩
 | .sl _ l (.own _)=>⟨rfl,aB l,rfl⟩
 | .ag l=>ak l
theorem ak : ∀ (l : List AV),H9 l l
 | []=>trivial
 | x :: l=>⟨fG x,ak l⟩
end

theorem le_refl (A : AV) : le A A:=by
 cases A <;> first | exact fG _ | exact ak _ | trivial

mutual
theorem vX {c : Cx} : ∀ (A : AV) (cs : List Value),VR c A cs -> dN c.nx A = true
 | .bool _,_,_ | .tt,_,_ | .ff,_,_ | .dec _,_,_ | .int _ _,_,_ | .str _,_,_ | .eP,_,_ | .aG,_,_ | .cp _,_,_ | .gK,_,_ | .aH,_,_ | .iT,_,_ | .und,_,_
 | .sl _ _ .no,_,_ | .sl _ _ .full,_,_=>rfl
 | .eG _,_,h=>by simp only [VR,Rd] at h
 | .jm t x,_,h=>by simp only [VR] at h; obtain ⟨v,_,_,h3⟩:=h; exact vX x _ h3
 | .sl _ _ (.own k),_,h=>by simp only [VR] at h; simpa [dN] using h.1
 | .ms _ _ _ _ _,_,h=>by simp only [VR] at h; simpa [dN] using h.1
 | .ptr _ _ _,_,h=>by simp only [VR] at h; simpa [dN] using h.1
 | .mp _,_,h=>by simp only [VR] at h; simpa [dN] using h.1
 | .gs _ _,_,h=>by simp only [VR] at h; simpa [dN] using h.1
 | .bm _ _,_,h=>by simp only [VR] at h; simpa [dN] using h.1
 | .ag l,_,h=>by simp only [VR] at h; exact SH l _ h
 | .fn _ cap,_,h=>by simp only [VR] at h; obtain ⟨vs,_,h2⟩:=h; exact Yu cap _ h2
theorem SH {c : Cx} : ∀ (l : List AV) (cs : List Value),lS c l cs -> iM c.nx l = true
 | [],_,_=>rfl
 | x :: l,_,h=>by
   simp only [lS] at h
   obtain ⟨a,d,_,h2,h3⟩:=h
   simp only [iM,vX x _ h2,SH l _ h3]
theorem Yu {c : Cx} : ∀ (l : List AV) (vs : List Value),VA c l vs -> iM c.nx l = true
 | [],_,_=>rfl
 | x :: l,_,h=>by
   simp only [VA] at h
   obtain ⟨v,r,_,_,h2,h3⟩:=h
   simp only [iM,vX x _ h2,Yu l _ h3]
end

theorem DV {c : Cx} : ∀ {l : List (AV × AV)} {es : List MapEntry},C9 c l es -> oq c.nx l = true
 | [],_,_=>rfl
 | (x,y) :: l,_,h=>by
   obtain ⟨e,r,_,h2,h3,h4⟩:=h
   simp only [oq,vX x _ h2.2,vX y _ h3.2,DV h4]

theorem KY {H : Heap} {n : Nat} : ∀ {G : Heap},(∀ k o,(k,o) ∈ G -> ∃ o',hget H k = some o' /\ OM o' o /\ (match o with | .dU _ es=>oq n es = true | o=>Gl n o = true)) -> WkH H n G
 | [],_=>trivial
 | (i,x) :: G,h=>⟨dB.2 (h i x (by simp)),KY fun k o hm=>h k o (by simp [hm])⟩

theorem aJ : ∀ (l : List (AV × AV)),Vg l l
 | []=>trivial
 | (_,y) :: l=>⟨rfl,fG y,aJ l⟩

theorem zF (o : HO) : OM o o:=by
 cases o with
 | box A=>exact fG A
 | arr=>exact ⟨rfl,rfl,aB _⟩
 | tok=>exact ⟨rfl,rfl⟩
 | dU=>exact ⟨rfl,aJ _⟩
 | iU=>exact ⟨rfl,aB _⟩
 | gone=>trivial

theorem HWk.to0 {c : Cx} {H G : Heap} (h : HWk H G) (hr : HR c H) : QE H G:=by
 cases h with
 | mk h1 h2=>exact ⟨h1,h2⟩
 | refl h =>
   subst h
   refine ⟨KY fun k o hm=>?_,hr.ids⟩
   have hok:=hr.ok _ hm
   refine ⟨o,mO hr.ids hm,zF o,?_⟩
   rw [<- hr.nx]
   cases o with
   | box A=>obtain ⟨cs,ty,_,h2,_⟩:=hok; exact vX _ _ h2
   | dU sh es=>obtain ⟨ents,clock,_,h2,_⟩:=hok; exact DV h2
   | _=>rfl

end Go.AL
