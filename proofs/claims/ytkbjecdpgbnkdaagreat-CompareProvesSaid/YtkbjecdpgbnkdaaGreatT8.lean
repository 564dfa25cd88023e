/-
  Contracts of functions of the program, over the logic of the texts before. Nothing is assumed.
-/
import Derived.Test.YtkbjecdpgbnkdaaGreatT7

open Go Go.AL Go.Proofs
namespace S
set_option maxRecDepth 100000

inductive Sp where
 | mk (v : Int) (ks : List Sp) (r : Int)
 deriving Inhabited

mutual
def Sp.av : Sp -> AV
 | .mk v ks r=>.ag [.int .i64 v,.sl 3 (Sp.avL ks) .no,.int .i64 r]
def Sp.avL : List Sp -> List AV
 | []=>[]
 | t :: l=>t.av :: Sp.avL l
end

theorem Sp.SC : ∀ (l : List Sp),Sp.avL l = l.map Sp.av
 | []=>by simp only [Sp.avL,List.map_nil]
 | t :: l=>by simp only [Sp.avL,List.map_cons]; rw [Sp.SC l]

theorem Sp.gI (v : Int) (ks : List Sp) (r : Int) : (Sp.mk v ks r).av = .ag [.int .i64 v,.sl 3 (ks.map Sp.av) .no,.int .i64 r]:=by
 simp only [Sp.av]; rw [Sp.SC]

mutual
def Y2 : Sp -> Nat -> Nat
 | .mk _ ks _,n=>Vu ks (n + 1)
def Vu : List Sp -> Nat -> Nat
 | [],n=>n
 | t :: l,n=>if n <= 600 then Vu l (Y2 t n) else n
end

theorem VU (v : Int) (ks : List Sp) (r : Int) (n : Nat) : Y2 (.mk v ks r) n = Vu ks (n + 1):=by simp only [Y2]
theorem ML (t : Sp) (l : List Sp) (n : Nat) : Vu (t :: l) n = if n <= 600 then Vu l (Y2 t n) else n:=by simp only [Vu]
theorem Rh (n : Nat) : Vu [] n = n:=by simp only [Vu]

mutual
theorem Q8 : ∀ (t : Sp) (n : Nat),n <= 600 -> n < Y2 t n /\ Y2 t n <= 601
 | .mk _ ks _,n,h=>by
   rw [VU]
   have:=Q9 ks (n + 1) (by omega)
   omega
theorem Q9 : ∀ (l : List Sp) (n : Nat),n <= 601 -> n <= Vu l n /\ Vu l n <= 601
 | [],n,h=>by rw [Rh]; omega
 | t :: l,n,h=>by
   rw [ML]
   split
   ·rename_i h6
    have:=Q8 t n h6
    have:=Q9 l (Y2 t n) (by omega)
    omega
   ·omega
end

mutual
def eY (vars : Nat) : Sp -> Nat -> Nat -> Nat × Int
 | .mk v ks r,path,n =>
   if 4096 < n + 1 then (n + 1,4)
   else if ks.length ≠ 0 /\ ks.length ≠ 2 then (n + 1,11)
   else if ks.length = 0 then (n + 1,if v ≠ 0 then 2 else 0)
   else if v < 0 \/ (vars : Int) <= v then (n + 1,3)
   else if path.testBit v.toNat = true then (n + 1,6)
   else if r ≠ 0 then (n + 1,2)
   else uM vars ks (path ||| 2 ^ v.toNat) (n + 1)
def uM (vars : Nat) : List Sp -> Nat -> Nat -> Nat × Int
 | [],_,n=>(n,0)
 | t :: l,path,n=>if (eY vars t path n).2 ≠ 0 then eY vars t path n else uM vars l path (eY vars t path n).1
end

theorem mW (vars : Nat) (v : Int) (ks : List Sp) (r : Int) (path n : Nat) : eY vars (.mk v ks r) path n =
  if 4096 < n + 1 then (n + 1,4)
  else if ks.length ≠ 0 /\ ks.length ≠ 2 then (n + 1,11)
  else if ks.length = 0 then (n + 1,if v ≠ 0 then 2 else 0)
  else if v < 0 \/ (vars : Int) <= v then (n + 1,3)
  else if path.testBit v.toNat = true then (n + 1,6)
  else if r ≠ 0 then (n + 1,2)
  else uM vars ks (path ||| 2 ^ v.toNat) (n + 1):=by simp only [eY]
theorem jg (vars : Nat) (t : Sp) (l : List Sp) (path n : Nat) : uM vars (t :: l) path n = if (eY vars t path n).2 ≠ 0 then eY vars t path n else uM vars l path (eY vars t path n).1:=by simp only [uM]
theorem ru (vars path n : Nat) : uM vars [] path n = (n,0):=by simp only [uM]

def oZ (vars : Int) (t : Sp) : Int:=if vars < 0 \/ 24 < vars then 3 else (eY vars.toNat t 0 0).2

inductive xQ (vars : Nat) : Nat -> Sp -> Prop where
 | leaf (path : Nat) (r : Int) : xQ vars path (.mk 0 [] r)
 | node (path v : Nat) (a b : Sp) (hv : v < vars) (hp : path.testBit v = false) (ha : xQ vars (path ||| 2 ^ v) a) (hb : xQ vars (path ||| 2 ^ v) b) : xQ vars path (.mk v [a,b] 0)

mutual
theorem Et (vars : Nat) : ∀ (t : Sp) (path n : Nat),(eY vars t path n).2 = 0 -> xQ vars path t
 | .mk v ks r,path,n,h=>by
   rw [mW] at h
   split at h
   ·cases h
   split at h
   ·cases h
   rename_i h1 h2
   split at h
   ·rename_i h3
    obtain rfl:=List.length_eq_zero_iff.1 h3
    dsimp only at h
    split at h
    ·cases h
    ·rename_i h4
     obtain rfl : v = 0:=by simpa using h4
     exact .leaf path r
   rename_i h3
   have h2 : ks.length = 2:=by omega
   split at h
   ·cases h
   split at h
   ·cases h
   split at h
   ·cases h
   rename_i h4 h5 h6
   obtain rfl : r = 0:=by simpa using h6
   have hl:=Mc vars ks (path ||| 2 ^ v.toNat) (n + 1) h
   match ks,h2,hl with
   | [a,b],_,hl =>
     have:=xQ.node (vars:=vars) path v.toNat a b (by omega) (by simpa using h5) (hl a (by simp)) (hl b (by simp))
     rw [show ((v.toNat : Nat) : Int) = v by omega] at this
     exact this
theorem Mc (vars : Nat) : ∀ (l : List Sp) (path n : Nat),(uM vars l path n).2 = 0 -> ∀ t ∈ l,xQ vars path t
 | [],_,_,_,t,ht=>by cases ht
 | x :: l,path,n,h,t,ht=>by
   rw [jg] at h
   split at h
   ·contradiction
   ·rename_i h1
    rcases List.mem_cons.1 ht with e | ht
    ·rw [e]; exact Et vars x path n (by simpa using h1)
    ·exact Mc vars l path _ h t ht
end

inductive SpN : Nat -> Sp -> Prop where
 | leaf (r : Int) : SpN 1 (.mk 0 [] r)
 | node (v : Int) (a b : Sp) (i j : Nat) (ha : SpN i a) (hb : SpN j b) : SpN (i + j + 1) (.mk v [a,b] 0)

theorem VG {vars : Nat} {path : Nat} {t : Sp} (h : xQ vars path t) : ∀ {c n : Nat},SpN c t -> n + c <= 4096 -> eY vars t path n = (n + c,0):=by
 induction h with
 | leaf path r =>
   intro c n hc hn
   cases hc
   rw [mW,if_neg (by omega),if_neg (by simp),if_pos (show ([] : List Sp).length = 0 from rfl),if_neg (by simp)]
 | node path v a b hv hp _ _ iha ihb =>
   intro c n hc hn
   cases hc with
   | node _ _ _ i j ha hb =>
     rw [mW,if_neg (by omega),if_neg (by simp),if_neg (by simp),if_neg (by omega),if_neg (by rw [Int.toNat_natCast,hp]; simp),if_neg (by simp),jg,Int.toNat_natCast]
     rw [iha (n:=n + 1) ha (by omega),if_neg (by simp),jg]
     dsimp only
     rw [ihb (n:=n + 1 + i) hb (by omega),if_neg (by simp),ru]
     dsimp only
     rw [show n + 1 + i + j = n + (i + j + 1) by omega]

def xO : Sp -> Nat -> Nat -> List (Nat × Nat × Int)
 | .mk _ [] r,y,n=>[(y,n,r)]
 | .mk v [a,b] _,y,n=>xO a y (n ||| 2 ^ v.toNat) ++ xO b (y ||| 2 ^ v.toNat) n
 | .mk _ _ _,_,_=>[]

structure LY (vars path y n : Nat) : Prop where
 yl : y < 2 ^ vars
 nl : n < 2 ^ vars
 dis : ∀ i,¬ (y.testBit i = true /\ n.testBit i = true)
 pth : ∀ i,path.testBit i = true ↔ (y.testBit i = true \/ n.testBit i = true)

theorem or_bit (a v i : Nat) : (a ||| 2 ^ v).testBit i = true ↔ a.testBit i = true \/ v = i:=by
 rw [Nat.testBit_or,Nat.testBit_two_pow]
 simp

theorem LY.no {vars path y n : Nat} (h : LY vars path y n) {v : Nat} (hv : v < vars) (hp : path.testBit v = false) : LY vars (path ||| 2 ^ v) y (n ||| 2 ^ v):=by
 refine ⟨h.yl,Nat.or_lt_two_pow h.nl (Nat.pow_lt_pow_right (by decide) hv),fun i hi=>?_,fun i=>?_⟩
 ·rw [or_bit] at hi
  rcases hi with ⟨h1,h2 | rfl⟩
  ·exact h.dis i ⟨h1,h2⟩
  ·have:=(h.pth v).2 (.inl h1)
   rw [hp] at this; cases this
 ·rw [or_bit,or_bit,h.pth i,or_assoc]

theorem LY.yes {vars path y n : Nat} (h : LY vars path y n) {v : Nat} (hv : v < vars) (hp : path.testBit v = false) : LY vars (path ||| 2 ^ v) (y ||| 2 ^ v) n:=by
 refine ⟨Nat.or_lt_two_pow h.yl (Nat.pow_lt_pow_right (by decide) hv),h.nl,fun i hi=>?_,fun i=>?_⟩
 ·rw [or_bit] at hi
  rcases hi with ⟨h1 | rfl,h2⟩
  ·exact h.dis i ⟨h1,h2⟩
  ·have:=(h.pth v).2 (.inr h2)
   rw [hp] at this; cases this
 ·rw [or_bit,or_bit,h.pth i]
  constructor
  ·rintro ((h | h) | h)
   ·exact .inl (.inl h)
   ·exact .inr h
   ·exact .inl (.inr h)
  ·rintro ((h | h) | h)
   ·exact .inl (.inl h)
   ·exact .inr h
   ·exact .inl (.inr h)

theorem LY.zero (vars : Nat) : LY vars 0 0 0:=⟨Nat.pow_pos (by decide),Nat.pow_pos (by decide),fun i h=>by simp at h,fun i=>by simp⟩

theorem lvs_cu {vars path : Nat} {t : Sp} (h : xQ vars path t) : ∀ {y n : Nat},LY vars path y n -> ∀ x ∈ xO t y n,∃ p,LY vars p x.1 x.2.1:=by
 induction h with
 | leaf path r =>
   intro y n hc x hx
   obtain rfl : x = (y,n,r):=by simpa [xO] using hx
   exact ⟨path,hc⟩
 | node path v a b hv hp _ _ iha ihb =>
   intro y n hc x hx
   rw [xO,Int.toNat_natCast] at hx
   rcases List.mem_append.1 hx with hx | hx
   ·exact iha (hc.no hv hp) x hx
   ·exact ihb (hc.yes hv hp) x hx

theorem ZC {vars path : Nat} {t : Sp} (h : xQ vars path t) {s : Nat} : ∀ {y n : Nat},InC y n s -> ∃ x ∈ xO t y n,InC x.1 x.2.1 s:=by
 induction h with
 | leaf path r=>intro y n hc; exact ⟨(y,n,r),by simp [xO],hc⟩
 | node path v a b hv hp _ _ iha ihb =>
   intro y n hc
   rw [xO,Int.toNat_natCast]
   cases hs : s.testBit v with
   | false =>
     obtain ⟨x,hx,hi⟩:=iha (y:=y) (n:=n ||| 2 ^ v) ⟨hc.yes,fun i hi=>by
      rw [or_bit] at hi
      rcases hi with hi | rfl
      ·exact hc.no i hi
      ·exact hs⟩
     exact ⟨x,List.mem_append_left _ hx,hi⟩
   | true =>
     obtain ⟨x,hx,hi⟩:=ihb (y:=y ||| 2 ^ v) (n:=n) ⟨fun i hi=>by
      rw [or_bit] at hi
      rcases hi with hi | rfl
      ·exact hc.yes i hi
      ·exact hs,hc.no⟩
     exact ⟨x,List.mem_append_right _ hx,hi⟩

def qH (a b : Fo) (x : Nat × Nat × Int) : Bool:=decide (tri a x.1 x.2.1 = x.2.2) && decide (tri b x.1 x.2.1 = x.2.2) && decide (x.2.2 = 0 \/ x.2.2 = 1)
def Vl (a b : Fo) (t : Sp) : Bool:=(xO t 0 0).all (qH a b)

theorem YG {a b : Fo} (ha : qB a) (hb : qB b) {vars : Nat} {t : Sp} (h : xQ vars 0 t) (hacc : Vl a b t = true) (s : Nat) : xP a s = xP b s:=by
 obtain ⟨x,hx,hi⟩:=ZC h (s:=s) (y:=0) (n:=0) ⟨fun i h=>by simp at h,fun i h=>by simp at h⟩
 have hl:=List.all_eq_true.1 hacc x hx
 unfold qH at hl
 simp only [Bool.and_eq_true,decide_eq_true_iff] at hl
 obtain ⟨⟨h1,h2⟩,h3⟩:=hl
 have g1:=y8 ha hi
 have g2:=y8 hb hi
 rcases h3 with e | e
 ·rw [g1.2 (by rw [h1,e]),g2.2 (by rw [h2,e])]
 ·rw [g1.1 (by rw [h1,e]),g2.1 (by rw [h2,e])]

def NI (a b : Fo) (o : List Int) : Nat -> Nat -> Nat -> Nat -> Sp
 | k,d,y,n =>
   if tri a y n ≠ 2 /\ tri b y n ≠ 2 then .mk 0 [] (tri a y n)
   else match k with
    | 0=>.mk 0 [] 0
    | k + 1=>.mk (o.getD d 0) [NI a b o k (d + 1) y (n ||| 2 ^ (o.getD d 0).toNat),NI a b o k (d + 1) (y ||| 2 ^ (o.getD d 0).toNat) n] 0

def KP (a b : Fo) (o : List Int) : Nat -> Nat -> Nat -> Nat -> Nat
 | k,d,y,n =>
   if tri a y n ≠ 2 /\ tri b y n ≠ 2 then 1
   else match k with
    | 0=>1
    | k + 1=>KP a b o k (d + 1) y (n ||| 2 ^ (o.getD d 0).toNat) + KP a b o k (d + 1) (y ||| 2 ^ (o.getD d 0).toNat) n + 1

theorem vK {a b : Fo} {o : List Int} {k d y n : Nat} (h : tri a y n ≠ 2 /\ tri b y n ≠ 2) : NI a b o k d y n = .mk 0 [] (tri a y n):=by
 unfold NI; rw [if_pos h]
theorem FY {a b : Fo} {o : List Int} {k d y n : Nat} (h : ¬ (tri a y n ≠ 2 /\ tri b y n ≠ 2)) : NI a b o (k + 1) d y n = .mk (o.getD d 0) [NI a b o k (d + 1) y (n ||| 2 ^ (o.getD d 0).toNat),NI a b o k (d + 1) (y ||| 2 ^ (o.getD d 0).toNat) n] 0:=by
 conv=>lhs; unfold NI
 rw [if_neg h]
theorem zZ {a b : Fo} {o : List Int} {k d y n : Nat} (h : tri a y n ≠ 2 /\ tri b y n ≠ 2) : KP a b o k d y n = 1:=by
 unfold KP; rw [if_pos h]
theorem FZ {a b : Fo} {o : List Int} {k d y n : Nat} (h : ¬ (tri a y n ≠ 2 /\ tri b y n ≠ 2)) : KP a b o (k + 1) d y n = KP a b o k (d + 1) y (n ||| 2 ^ (o.getD d 0).toNat) + KP a b o k (d + 1) (y ||| 2 ^ (o.getD d 0).toNat) n + 1:=by
 conv=>lhs; unfold KP
 rw [if_neg h]

theorem BN (a b : Fo) (o : List Int) : ∀ (k d y n : Nat),1 <= KP a b o k d y n /\ KP a b o k d y n + 1 <= 2 ^ (k + 1)
 | 0,d,y,n=>by
   unfold KP
   split <;> simp
 | k + 1,d,y,n=>by
   by_cases h : tri a y n ≠ 2 /\ tri b y n ≠ 2
   ·rw [zZ h]
    have : 2 ^ 1 <= 2 ^ (k + 1 + 1):=Nat.pow_le_pow_right (by decide) (by omega)
    omega
   ·rw [FZ h]
    have h1:=BN a b o k (d + 1) y (n ||| 2 ^ (o.getD d 0).toNat)
    have h2:=BN a b o k (d + 1) (y ||| 2 ^ (o.getD d 0).toNat) n
    rw [Nat.pow_succ 2 (k + 1)]
    omega

structure uF (o : List Int) (v d y n : Nat) : Prop where
 dl : d <= v
 cu : LY v (y ||| n) y n
 fst : ∀ i,(y.testBit i = true \/ n.testBit i = true) ↔ ∃ j,j < d /\ o[j]? = some (i : Int)

structure Vr (o : List Int) (v : Nat) : Prop where
 len : o.length = v
 rng : ∀ x ∈ o,0 <= x /\ x < (v : Int)
 nd : o.Nodup
 all : ∀ i < v,(i : Int) ∈ o

theorem uF.get {o : List Int} {v d y n : Nat} (h : uF o v d y n) (ho : Vr o v) (hd : d < v) : ∃ e : Nat,o[d]? = some (e : Int) /\ o.getD d 0 = (e : Int) /\ e < v /\ (y ||| n).testBit e = false:=by
 have hl:=ho.len
 have hm:=ho.rng _ (List.getElem_mem (show d < o.length by omega))
 refine ⟨(o[d]'(by omega)).toNat,?_,?_,by omega,?_⟩
 ·rw [List.getElem?_eq_getElem (by omega)]; congr 1; omega
 ·rw [List.getD_eq_getElem?_getD,List.getElem?_eq_getElem (by omega)]; show o[d] = _; omega
 ·cases hb : (y ||| n).testBit (o[d]'(by omega)).toNat with
  | false=>rfl
  | true =>
    rw [Nat.testBit_or,Bool.or_eq_true] at hb
    obtain ⟨j,hj,ej⟩:=(h.fst _).1 hb
    rw [List.getElem?_eq_getElem (by omega)] at ej
    have ej:=Option.some.inj ej
    have : o[j]'(by omega) = o[d]'(by omega):=by rw [ej]; omega
    exact absurd this (List.pairwise_iff_getElem.1 ho.nd j d (by omega) (by omega) hj)

theorem or_right_comm (a b c : Nat) : a ||| b ||| c = a ||| c ||| b:=by rw [Nat.or_assoc,Nat.or_comm b c,<- Nat.or_assoc]

theorem uF.no {o : List Int} {v d y n e : Nat} (h : uF o v d y n) (hd : d < v) (he : o[d]? = some (e : Int)) (hv : e < v) (hp : (y ||| n).testBit e = false) : uF o v (d + 1) y (n ||| 2 ^ e):=by
 refine ⟨by omega,?_,fun i=>?_⟩
 ·have:=h.cu.no hv hp
  rw [Nat.or_assoc] at this; exact this
 ·rw [or_bit,<- or_assoc,h.fst i]
  constructor
  ·rintro (⟨j,hj,ej⟩ | rfl)
   ·exact ⟨j,by omega,ej⟩
   ·exact ⟨d,by omega,he⟩
  ·rintro ⟨j,hj,ej⟩
   by_cases e1 : j = d
   ·subst e1; rw [he] at ej; right; have:=Option.some.inj ej; omega
   ·exact .inl ⟨j,by omega,ej⟩

theorem or_rc {p q r : Prop} : ((p \/ q) \/ r) = ((p \/ r) \/ q):=by
 apply propext; constructor <;> (rintro ((h | h) | h)) <;> simp [h]

theorem uF.yes {o : List Int} {v d y n e : Nat} (h : uF o v d y n) (hd : d < v) (he : o[d]? = some (e : Int)) (hv : e < v) (hp : (y ||| n).testBit e = false) : uF o v (d + 1) (y ||| 2 ^ e) n:=by
 refine ⟨by omega,?_,fun i=>?_⟩
 ·have:=h.cu.yes hv hp
  rw [or_right_comm]; exact this
 ·rw [or_bit,or_rc,h.fst i]
  constructor
  ·rintro (⟨j,hj,ej⟩ | rfl)
   ·exact ⟨j,by omega,ej⟩
   ·exact ⟨d,by omega,he⟩
  ·rintro ⟨j,hj,ej⟩
   by_cases e1 : j = d
   ·subst e1; rw [he] at ej; right; have:=Option.some.inj ej; omega
   ·exact .inl ⟨j,by omega,ej⟩

theorem uF.full {o : List Int} {v y n : Nat} (h : uF o v v y n) (ho : Vr o v) : ∀ i < v,y.testBit i = true \/ n.testBit i = true:=fun i hi=>by
 rw [h.fst i]
 obtain ⟨j,hj,ej⟩:=List.mem_iff_getElem.1 (ho.all i hi)
 exact ⟨j,by have:=ho.len; omega,by rw [List.getElem?_eq_getElem hj,ej]⟩

theorem P5 {a b : Fo} {o : List Int} {v : Nat} (ho : Vr o v) : ∀ (k d y n : Nat),d + k = v -> uF o v d y n -> xQ v (y ||| n) (NI a b o k d y n) /\ SpN (KP a b o k d y n) (NI a b o k d y n)
 | 0,d,y,n,_,_=>by
   unfold NI KP
   split
   ·exact ⟨.leaf _ _,.leaf _⟩
   ·exact ⟨.leaf _ _,.leaf _⟩
 | k + 1,d,y,n,hk,h=>by
   by_cases ht : tri a y n ≠ 2 /\ tri b y n ≠ 2
   ·rw [vK ht,zZ ht]
    exact ⟨.leaf _ _,.leaf _⟩
   ·obtain ⟨e,e1,e2,e3,e4⟩:=h.get ho (by omega)
    rw [FY ht,FZ ht,e2,Int.toNat_natCast]
    obtain ⟨h1,h2⟩:=P5 (a:=a) (b:=b) ho k (d + 1) y (n ||| 2 ^ e) (by omega) (h.no (by omega) e1 e3 e4)
    obtain ⟨h3,h4⟩:=P5 (a:=a) (b:=b) ho k (d + 1) (y ||| 2 ^ e) n (by omega) (h.yes (by omega) e1 e3 e4)
    rw [<- Nat.or_assoc] at h1
    rw [or_right_comm] at h3
    exact ⟨.node _ _ _ _ e3 e4 h1 h3,.node _ _ _ _ _ h2 h4⟩

theorem ZO {a b : Fo} (ha : qB a) (hb : qB b) {o : List Int} (hv : a.vars = b.vars) (ho : Vr o a.vars.toNat) (hs : ∀ s < 2 ^ a.vars.toNat,xP a s = xP b s) : ∀ (k d y n : Nat),d + k = a.vars.toNat -> uF o a.vars.toNat d y n -> (xO (NI a b o k d y n) y n).all (qH a b) = true:=by
 have leaf : ∀ d y n,uF o a.vars.toNat d y n -> tri a y n ≠ 2 /\ tri b y n ≠ 2 -> qH a b (y,n,tri a y n) = true:=fun d y n h ht=>by
  have hin : InC y n y:=⟨fun i h=>h,fun i hi=>by
   cases hy : y.testBit i with
   | false=>rfl
   | true=>exact absurd ⟨hy,hi⟩ (h.cu.dis i)⟩
  have g1:=y8 ha hin
  have g2:=y8 hb hin
  have r1:=wM ha y n
  have r2:=wM hb y n
  have e:=hs y h.cu.yl
  have heq : tri b y n = tri a y n:=by
   have q1 : tri a y n = 0 \/ tri a y n = 1:=by omega
   have q2 : tri b y n = 0 \/ tri b y n = 1:=by omega
   rcases q1 with q1 | q1 <;> rcases q2 with q2 | q2
   ·rw [q1,q2]
   ·have:=g1.2 q1; have:=g2.1 q2; simp_all
   ·have:=g1.1 q1; have:=g2.2 q2; simp_all
   ·rw [q1,q2]
  unfold qH
  dsimp only
  rw [heq]
  simp
  omega
 intro k
 induction k with
 | zero =>
   intro d y n hk h
   have hf : ∀ i < a.vars.toNat,y.testBit i = true \/ n.testBit i = true:=by
    have : d = a.vars.toNat:=by omega
    subst this
    exact h.full ho
   have ht : tri a y n ≠ 2 /\ tri b y n ≠ 2:=⟨y9 ha hf,y9 hb (by rw [<- hv]; exact hf)⟩
   rw [vK ht]
   rw [xO,List.all_cons,leaf d y n h ht]; rfl
 | succ k ih =>
   intro d y n hk h
   by_cases ht : tri a y n ≠ 2 /\ tri b y n ≠ 2
   ·rw [vK ht]
    rw [xO,List.all_cons,leaf d y n h ht]; rfl
   ·obtain ⟨e,e1,e2,e3,e4⟩:=h.get ho (by omega)
    rw [FY ht,e2,xO,Int.toNat_natCast,List.all_append,ih (d + 1) y (n ||| 2 ^ e) (by omega) (h.no (by omega) e1 e3 e4),ih (d + 1) (y ||| 2 ^ e) n (by omega) (h.yes (by omega) e1 e3 e4)]
    rfl

def mkT (a b : Fo) (o : List Int) : Sp:=NI a b o a.vars.toNat 0 0 0

theorem uF.zero (o : List Int) (v : Nat) : uF o v 0 0 0:=⟨Nat.zero_le _,LY.zero v,fun i=>by simp⟩

mutual
theorem Sp.ind {p : Sp -> Prop} (h : ∀ v ks r,(∀ u ∈ ks,p u) -> p (.mk v ks r)) : ∀ t,p t
 | .mk v ks r=>h v ks r (Sp.indL h ks)
theorem Sp.indL {p : Sp -> Prop} (h : ∀ v ks r,(∀ u ∈ ks,p u) -> p (.mk v ks r)) : ∀ (l : List Sp),∀ u ∈ l,p u
 | [],u,hu=>by cases hu
 | t :: l,u,hu=>by
   rcases List.mem_cons.1 hu with e | hu
   ·rw [e]; exact Sp.ind h t
   ·exact Sp.indL h l u hu
end

theorem X9 (t : Sp) : ∀ n : Nat,n <= 600 -> aA Tryz.prog 38 [t.av,.int .i64 n] [] (.int .i64 (Y2 t n)) []:=by
 induction t using Sp.ind with
 | h v ks r ih =>
 intro n hn
 rw [Sp.gI,VU]
 refine aA.intro lay mixed Tryz.func38 (by kernel_rfl) rfl (by kernel_rfl) rfl fun hok=>?_
 (try dsimp only[aZ,aN]);(try dsimp only[ak]);conv=>whnf
 refine zA ?_;conv=>whnf
 refine aK.of <| aB.inv (.refl _ _) (fun (q : Nat × Nat)=>q.1 <= ks.length /\ q.2 <= 601 /\ n < q.2 /\ q.1 <= q.2 /\ Vu (ks.drop q.1) q.2 = Vu ks (n + 1)) (fun (q : Nat × Nat)=>[(6,.int .i64 q.1),(5,.int .i64 q.2)]) (fun _=>_) (fun (q : Nat × Nat)=>ks.length - q.1) (0,n + 1) ?_ (fun _=>rfl) ?_ ?_
 ·exact ⟨Nat.zero_le _,by dsimp only; omega,by simp,Nat.zero_le _,rfl⟩
 ·all_goals exact wk
 rintro ⟨k,m⟩ ⟨hk,hm,hnm,hkm,hz⟩ _
 dsimp only at hk hm hnm hkm hz
 (try dsimp only[ak]);conv=>whnf
 refine And.intro (fun g=>?_) (fun g=>?_)
 ·have hlt : k < ks.length:=by simpa using g
  rw [List.drop_eq_getElem_cons hlt,ML] at hz
  (try dsimp only[ak]);conv=>whnf
  refine And.intro (fun g2=>?_) (fun g2=>?_)
  ·rw [if_pos (by omega)] at hz
   have hi:=ih _ (List.getElem_mem hlt) m (by omega)
   have hb:=Q8 ks[k] m (by omega)
   (try dsimp only[ak]);conv=>whnf
   refine jq hlt ?_
   generalize ks[k] = u at *
   obtain ⟨v',ks',r'⟩:=u
   rw [Sp.gI] at hi ⊢
   (try dsimp only[ak]);conv=>whnf
   refine .pure _ _ ?_ ⟨rfl,rfl⟩ hi fun _=>?_
   ·exact aj _
   (try dsimp only[ak]);conv=>whnf
   refine zA ?_;conv=>whnf
   refine ⟨(k + 1,Y2 (.mk v' ks' r') m),?_,?_,?_⟩
   ·exact ⟨hlt,hb.2,Nat.lt_trans hnm hb.1,Nat.succ_le_of_lt (Nat.lt_of_le_of_lt hkm hb.1),hz⟩
   ·all_goals exact wk
   ·dsimp only; omega
  ·rw [if_neg (by omega)] at hz
   subst hz
   (try dsimp only[ak]);conv=>whnf
   refine fM ?_;(conv=>whnf);refine ⟨?_,rfl⟩;conv=>whnf
   all_goals exact wk
 ·have hk : k = ks.length:=by (have : ¬ k < ks.length:=by simpa using g); omega
  subst hk
  rw [List.drop_length,Rh] at hz
  subst hz
  (try dsimp only[ak]);conv=>whnf
  refine fM ?_;(conv=>whnf);refine ⟨?_,rfl⟩;conv=>whnf
  all_goals exact wk

mutual
theorem qZ (vars : Nat) : ∀ (t : Sp) (path n : Nat),n <= 4096 -> (eY vars t path n).1 <= 4097 /\ ((eY vars t path n).2 = 0 -> (eY vars t path n).1 <= 4096)
 | .mk v ks r,path,n,h=>by
   rw [mW]
   repeat' split
   all_goals first | exact Me vars ks _ _ (by omega) | (dsimp only; omega) | (dsimp only; exact ⟨by omega,fun h=>absurd h (by decide)⟩)
theorem Me (vars : Nat) : ∀ (l : List Sp) (path n : Nat),n <= 4096 -> (uM vars l path n).1 <= 4097 /\ ((uM vars l path n).2 = 0 -> (uM vars l path n).1 <= 4096)
 | [],path,n,h=>by rw [ru]; dsimp only; omega
 | t :: l,path,n,h=>by
   rw [jg]
   have:=qZ vars t path n h
   split
   ·exact this
   ·rename_i h1
    exact Me vars l path _ (this.2 (by simpa using h1))
end

abbrev ckH (n vars : Nat) : Heap:=[(0,.box (.ag [.int .i64 n,.int .i64 vars]))]

theorem X7 (vars : Nat) (hv : vars <= 24) (t : Sp) : ∀ (path n : Nat),path < 2 ^ 24 -> n <= 4096 ->
  aA Tryz.prog 251 [.ptr 0 [] 0,t.av,.int .i64 path] (ckH n vars) (x9 (eY vars t path n).2) (ckH (eY vars t path n).1 vars):=by
 induction t using Sp.ind with
 | h v ks r ih =>
 intro path n hp hn
 have hW:=mW vars v ks r path n
 rw [Sp.gI]
 refine aA.intro lay mixed Tryz.func251 (by kernel_rfl) rfl (by kernel_rfl) rfl fun hok=>?_
 (try dsimp only[aZ,aN]);(try dsimp only[ak]);conv=>whnf
 refine zA ?_;conv=>whnf
 refine And.intro (fun g=>?_) (fun g=>?_)
 ·rw [if_pos (by omega)] at hW
  rw [show eY vars (.mk v ks r) path n = (n + 1,4) from hW]
  (try dsimp only[ak]);conv=>whnf
  refine ⟨⟨_,_,.refl _ _,?_⟩⟩
  conv=>whnf
  refine ⟨?_,rfl,by simp [nextId],.mk ?_ (by simp [ay])⟩
  ·all_goals exact wk
  ·all_goals exact wk
 rw [if_neg (by omega)] at hW
 have hcont : ks.length ≠ 0 /\ ks.length ≠ 2 \/ ks.length = 0 \/ ks.length = 2:=by omega
 rcases hcont with hc | hc | hc
 ·rw [if_pos hc] at hW
  (try dsimp only[ak]);conv=>whnf
  refine And.intro (fun g1=>?_) (fun g1=>by exfalso; rw [List.length_map] at g1; omega)
  (try dsimp only[ak]);conv=>whnf
  refine And.intro (fun g1=>?_) (fun g1=>by exfalso; rw [List.length_map] at g1; omega)
  rw [show eY vars (.mk v ks r) path n = (n + 1,11) from hW]
  (try dsimp only[ak]);conv=>whnf
  refine ⟨⟨_,_,.refl _ _,?_⟩⟩
  conv=>whnf
  refine ⟨?_,rfl,by simp [nextId],.mk ?_ (by simp [ay])⟩
  ·all_goals exact wk
  ·all_goals exact wk
 ·rw [if_neg (by omega),if_pos hc] at hW
  (try dsimp only[ak]);conv=>whnf
  refine And.intro (fun g1=>by exfalso; rw [List.length_map] at g1; omega) (fun g1=>?_)
  (try dsimp only[ak]);conv=>whnf
  refine And.intro (fun g1=>?_) (fun g1=>by exfalso; rw [List.length_map] at g1; omega)
  (try dsimp only[ak]);conv=>whnf
  refine And.intro (fun g1=>?_) (fun g1=>?_)
  ·rw [if_pos g1] at hW
   rw [show eY vars (.mk v ks r) path n = (n + 1,2) from hW]
   (try dsimp only[ak]);conv=>whnf
   refine ⟨⟨_,_,.refl _ _,?_⟩⟩
   conv=>whnf
   refine ⟨?_,rfl,by simp [nextId],.mk ?_ (by simp [ay])⟩
   ·all_goals exact wk
   ·all_goals exact wk
  ·rw [if_neg g1] at hW
   rw [show eY vars (.mk v ks r) path n = (n + 1,0) from hW]
   (try dsimp only[ak]);conv=>whnf
   refine ⟨⟨_,_,.refl _ _,?_⟩⟩
   conv=>whnf
   refine ⟨?_,rfl,by simp [nextId],.mk ?_ (by simp [ay])⟩
   ·all_goals exact wk
   ·all_goals exact wk
 rw [if_neg (by omega),if_neg (by omega)] at hW
 obtain ⟨a,b,rfl⟩ : ∃ a b,ks = [a,b]:=by
  match ks,hc with
  | [a,b],_=>exact ⟨a,b,rfl⟩
 have iha:=ih a (by simp)
 have ihb:=ih b (by simp)
 clear ih
 (try dsimp only[ak]);conv=>whnf
 refine And.intro (fun g1=>?_) (fun g1=>by exfalso; simp at g1)
 (try dsimp only[ak]);conv=>whnf
 refine And.intro (fun g1=>by exfalso; simp at g1) (fun g1=>?_)
 (try dsimp only[ak]);conv=>whnf
 refine And.intro (fun g1=>by exfalso; simp at g1) (fun g1=>?_)
 (try dsimp only[ak]);conv=>whnf
 refine aO.auto (by kernel_rfl) ?_;conv=>whnf
 refine And.intro (fun g2=>?_) (fun g2=>?_)
 ·rw [if_pos (.inl g2)] at hW
  rw [show eY vars (.mk v [a,b] r) path n = (n + 1,3) from hW]
  (try dsimp only[ak]);conv=>whnf
  refine ⟨⟨_,_,.refl _ _,?_⟩⟩
  conv=>whnf
  refine ⟨?_,rfl,by simp [nextId],.mk ?_ (by simp [ay])⟩
  ·all_goals exact wk
  ·all_goals exact wk
 conv=>whnf
 refine And.intro (fun g3=>?_) (fun g3=>?_)
 ·rw [if_pos (.inr g3)] at hW
  rw [show eY vars (.mk v [a,b] r) path n = (n + 1,3) from hW]
  (try dsimp only[ak]);conv=>whnf
  refine ⟨⟨_,_,.refl _ _,?_⟩⟩
  conv=>whnf
  refine ⟨?_,rfl,by simp [nextId],.mk ?_ (by simp [ay])⟩
  ·all_goals exact wk
  ·all_goals exact wk
 rw [if_neg (by omega)] at hW
 obtain ⟨w,rfl⟩ : ∃ w : Nat,v = w:=⟨v.toNat,by omega⟩
 rw [Int.toNat_natCast] at hW
 have hb:=vZ (a:=path) (i:=w) (by omega) (by omega)
 (try dsimp only[ak]);conv=>whnf
 refine ⟨by omega,?_⟩
 (try dsimp only[ak]);conv=>whnf
 rw [hb]
 by_cases hpb : path.testBit w = true
 ·rw [if_pos hpb] at hW
  rw [if_pos hpb]
  refine And.intro (fun _=>?_) (fun h=>absurd rfl h)
  rw [show eY vars (.mk w [a,b] r) path n = (n + 1,6) from hW]
  (try dsimp only[ak]);conv=>whnf
  refine ⟨⟨_,_,.refl _ _,?_⟩⟩
  conv=>whnf
  refine ⟨?_,rfl,by simp [nextId],.mk ?_ (by simp [ay])⟩
  ·all_goals exact wk
  ·all_goals exact wk
 rw [if_neg hpb] at hW
 rw [if_neg hpb]
 refine And.intro (fun h=>absurd h (by decide)) (fun _=>?_)
 (try dsimp only[ak]);conv=>whnf
 refine And.intro (fun g4=>?_) (fun g4=>?_)
 ·rw [if_pos g4] at hW
  rw [show eY vars (.mk w [a,b] r) path n = (n + 1,2) from hW]
  (try dsimp only[ak]);conv=>whnf
  refine ⟨⟨_,_,.refl _ _,?_⟩⟩
  conv=>whnf
  refine ⟨?_,rfl,by simp [nextId],.mk ?_ (by simp [ay])⟩
  ·all_goals exact wk
  ·all_goals exact wk
 rw [if_neg g4] at hW
 have hP : path ||| 2 ^ w < 2 ^ 24:=Nat.or_lt_two_pow hp (Nat.pow_lt_pow_right (by decide) (by omega))
 have hpw : 2 ^ w < 2 ^ 24:=Nat.pow_lt_pow_right (by decide) (by omega)
 have hsh:=oh (i:=w) (by omega)
 have hor:=yE (a:=path) (b:=2 ^ w) (by omega) (by omega)
 have ca:=iha (path ||| 2 ^ w) (n + 1) hP (by omega)
 have hla:=qZ vars a (path ||| 2 ^ w) (n + 1) (by omega)
 rw [jg] at hW
 obtain ⟨va,ka,ra⟩:=a
 obtain ⟨vb,kb,rb⟩:=b
 rw [Sp.gI] at ca
 generalize hA : eY vars (.mk va ka ra) (path ||| 2 ^ w) (n + 1) = A at *
 obtain ⟨n1,e1⟩:=A
 dsimp only at hla hW ca
 (try dsimp only[ak]);conv=>whnf
 refine aK.step 3 ?_
 (try dsimp only[ak]);conv=>whnf
 refine bY (by simp) ?_
 (try dsimp only[ak]);conv=>whnf
 refine dh.mk ⟨_,⟨by decide,rfl⟩,?_⟩
 rw [Sp.gI]
 (try dsimp only[ak]);conv=>whnf
 refine aO.mk ⟨[true,false,true,true,false,true,true,false,true],by kernel_rfl,?_⟩
 conv=>whnf
 refine ⟨by omega,?_⟩
 rw [hsh]
 conv=>whnf
 rw [hor]
 refine .gen _ _ (aA.frame [0] ca ⟨rfl,rfl,rfl,rfl⟩ ?_ ?_) fun _=>?_
 ·all_goals exact wk
 ·all_goals exact wk
 by_cases he : e1 ≠ 0
 ·rw [if_pos he] at hW
  rw [hW]
  rw [jB he]
  (try dsimp only[ak]);conv=>whnf
  refine ⟨⟨_,_,.refl _ _,?_⟩⟩
  conv=>whnf
  refine ⟨?_,rfl,by simp [nextId],.mk ?_ (by simp [ay])⟩
  ·all_goals exact wk
  ·all_goals exact wk
 obtain rfl : e1 = 0:=by simpa using he
 rw [if_neg (by simp),jg] at hW
 have hn1:=hla.2 rfl
 have cb:=ihb (path ||| 2 ^ w) n1 hP (by omega)
 have hlb:=qZ vars (.mk vb kb rb) (path ||| 2 ^ w) n1 (by omega)
 rw [Sp.gI] at cb
 generalize hB : eY vars (.mk vb kb rb) (path ||| 2 ^ w) n1 = B at *
 obtain ⟨n2,e2⟩:=B
 dsimp only at hlb hW cb
 (try dsimp only[ak]);conv=>whnf
 refine zA ?_;conv=>whnf
 refine bY (by simp) ?_
 (try dsimp only[ak]);conv=>whnf
 refine dh.mk ⟨_,⟨by decide,rfl⟩,?_⟩
 rw [Sp.gI]
 (try dsimp only[ak]);conv=>whnf
 refine aO.mk ⟨[true,false,true,true,false,true,true,false,true],by kernel_rfl,?_⟩
 conv=>whnf
 refine ⟨by omega,?_⟩
 rw [hsh]
 conv=>whnf
 rw [hor]
 refine .gen _ _ (aA.frame [0] cb ⟨rfl,rfl,rfl,rfl⟩ ?_ ?_) fun _=>?_
 ·all_goals exact wk
 ·all_goals exact wk
 by_cases he2 : e2 ≠ 0
 ·rw [if_pos he2] at hW
  rw [hW]
  rw [jB he2]
  (try dsimp only[ak]);conv=>whnf
  refine ⟨⟨_,_,.refl _ _,?_⟩⟩
  conv=>whnf
  refine ⟨?_,rfl,by simp [nextId],.mk ?_ (by simp [ay])⟩
  ·all_goals exact wk
  ·all_goals exact wk
 obtain rfl : e2 = 0:=by simpa using he2
 rw [if_neg (by simp),ru] at hW
 rw [hW]
 (try dsimp only[ak]);conv=>whnf
 refine zA ?_;conv=>whnf
 refine bN (by simp) ?_
 (try dsimp only[ak]);conv=>whnf
 refine ⟨⟨_,_,.refl _ _,?_⟩⟩
 conv=>whnf
 refine ⟨?_,rfl,by simp [nextId],.mk ?_ (by simp [ay])⟩
 ·all_goals exact wk
 ·all_goals exact wk

theorem U0 (vars : Int) (t : Sp) (R : AV) (hR : R = x9 (oZ vars t)) : aA Tryz.prog 191 [t.av,.int .i64 vars] [] R []:=by
 by_cases hv : vars < 0 \/ 24 < vars
 ·rw [show oZ vars t = 3 from if_pos hv] at hR
  obtain ⟨v,ks,r⟩:=t
  rw [Sp.gI]
  subst hR
  refine aA.intro lay mixed Tryz.func191 (by kernel_rfl) rfl (by kernel_rfl) rfl fun hok=>?_
  (try dsimp only[aZ,aN]);(try dsimp only[ak]);conv=>whnf
  refine And.intro (fun g=>?_) (fun g=>?_)
  ·(try dsimp only[ak]);conv=>whnf
   refine fM ?_;(conv=>whnf);refine ⟨?_,rfl⟩;conv=>whnf
   all_goals exact wk
  (try dsimp only[ak]);conv=>whnf
  refine And.intro (fun g=>?_) (fun g=>by exfalso; omega)
  (try dsimp only[ak]);conv=>whnf
  refine fM ?_;(conv=>whnf);refine ⟨?_,rfl⟩;conv=>whnf
  all_goals exact wk
 rw [show oZ vars t = (eY vars.toNat t 0 0).2 from if_neg hv] at hR
 have cn:=X7 vars.toNat (by omega) t 0 0 (by decide) (by decide)
 unfold ckH at cn
 rw [show ((vars.toNat : Nat) : Int) = vars by omega] at cn
 obtain ⟨v,ks,r⟩:=t
 rw [Sp.gI] at cn ⊢
 generalize eY vars.toNat (.mk v ks r) 0 0 = W at *
 obtain ⟨n1,e1⟩:=W
 dsimp only at hR cn
 subst hR
 refine aA.intro lay mixed Tryz.func191 (by kernel_rfl) rfl (by kernel_rfl) rfl fun hok=>?_
 (try dsimp only[aZ,aN]);(try dsimp only[ak]);conv=>whnf
 refine And.intro (fun g=>by exfalso; omega) (fun g=>?_)
 (try dsimp only[ak]);conv=>whnf
 refine And.intro (fun g=>by exfalso; omega) (fun g=>?_)
 (try dsimp only[ak]);conv=>whnf
 refine .gen _ _ (aA.frame [1] cn ⟨rfl,rfl,rfl,rfl⟩ ?_ ?_) fun _=>?_
 ·all_goals exact wk
 ·all_goals exact wk
 by_cases he : e1 ≠ 0
 ·rw [jB he]
  (try dsimp only[ak]);conv=>whnf
  refine ⟨⟨_,_,.refl _ _,?_⟩⟩
  conv=>whnf
  refine ⟨?_,rfl,by simp [nextId],.mk ?_ (by simp [ay])⟩
  ·all_goals exact wk
  ·all_goals exact wk
 ·obtain rfl : e1 = 0:=by simpa using he
  (try dsimp only[ak]);conv=>whnf
  refine ⟨⟨_,_,.refl _ _,?_⟩⟩
  conv=>whnf
  refine ⟨?_,rfl,by simp [nextId],.mk ?_ (by simp [ay])⟩
  ·all_goals exact wk
  ·all_goals exact wk

theorem U1 (vars : Nat) (hv : vars <= 24) (t : Sp) : ∀ (path n : Nat),path < 2 ^ 24 -> n <= 4096 ->
  aA Tryz.prog 105 [t.av,.int .i64 vars,.int .i64 path,.int .i64 n] [] (.dV [.int .i64 (eY vars t path n).1,.int .i64 (eY vars t path n).2]) []:=by
 induction t using Sp.ind with
 | h v ks r ih =>
 intro path n hp hn
 have hW:=mW vars v ks r path n
 rw [Sp.gI]
 refine aA.intro lay mixed Tryz.func105 (by kernel_rfl) rfl (by kernel_rfl) rfl fun hok=>?_
 (try dsimp only[aZ,aN]);(try dsimp only[ak]);conv=>whnf
 refine zA ?_;conv=>whnf
 refine And.intro (fun g=>?_) (fun g=>?_)
 ·rw [if_pos (by omega)] at hW
  rw [hW]
  (try dsimp only[ak]);conv=>whnf
  refine fM ?_;(conv=>whnf);refine ⟨?_,rfl⟩;conv=>whnf
  all_goals exact wk
 rw [if_neg (by omega)] at hW
 have hcont : ks.length ≠ 0 /\ ks.length ≠ 2 \/ ks.length = 0 \/ ks.length = 2:=by omega
 rcases hcont with hc | hc | hc
 ·rw [if_pos hc] at hW
  (try dsimp only[ak]);conv=>whnf
  refine And.intro (fun g1=>?_) (fun g1=>by exfalso; rw [List.length_map] at g1; omega)
  (try dsimp only[ak]);conv=>whnf
  refine And.intro (fun g1=>?_) (fun g1=>by exfalso; rw [List.length_map] at g1; omega)
  rw [hW]
  (try dsimp only[ak]);conv=>whnf
  refine fM ?_;(conv=>whnf);refine ⟨?_,rfl⟩;conv=>whnf
  all_goals exact wk
 ·rw [if_neg (by omega),if_pos hc] at hW
  (try dsimp only[ak]);conv=>whnf
  refine And.intro (fun g1=>by exfalso; rw [List.length_map] at g1; omega) (fun g1=>?_)
  (try dsimp only[ak]);conv=>whnf
  refine And.intro (fun g1=>?_) (fun g1=>by exfalso; rw [List.length_map] at g1; omega)
  (try dsimp only[ak]);conv=>whnf
  refine And.intro (fun g1=>?_) (fun g1=>?_)
  ·rw [if_pos g1] at hW
   rw [hW]
   (try dsimp only[ak]);conv=>whnf
   refine fM ?_;(conv=>whnf);refine ⟨?_,rfl⟩;conv=>whnf
   all_goals exact wk
  ·rw [if_neg g1] at hW
   rw [hW]
   (try dsimp only[ak]);conv=>whnf
   refine fM ?_;(conv=>whnf);refine ⟨?_,rfl⟩;conv=>whnf
   all_goals exact wk
 rw [if_neg (by omega),if_neg (by omega)] at hW
 obtain ⟨a,b,rfl⟩ : ∃ a b,ks = [a,b]:=by
  match ks,hc with
  | [a,b],_=>exact ⟨a,b,rfl⟩
 have iha:=ih a (by simp)
 have ihb:=ih b (by simp)
 clear ih
 (try dsimp only[ak]);conv=>whnf
 refine And.intro (fun g1=>?_) (fun g1=>by exfalso; simp at g1)
 (try dsimp only[ak]);conv=>whnf
 refine And.intro (fun g1=>by exfalso; simp at g1) (fun g1=>?_)
 (try dsimp only[ak]);conv=>whnf
 refine And.intro (fun g1=>by exfalso; simp at g1) (fun g1=>?_)
 (try dsimp only[ak]);conv=>whnf
 refine And.intro (fun g2=>?_) (fun g2=>?_)
 ·rw [if_pos (.inl g2)] at hW
  rw [hW]
  (try dsimp only[ak]);conv=>whnf
  refine fM ?_;(conv=>whnf);refine ⟨?_,rfl⟩;conv=>whnf
  all_goals exact wk
 (try dsimp only[ak]);conv=>whnf
 refine And.intro (fun g3=>?_) (fun g3=>?_)
 ·rw [if_pos (.inr g3)] at hW
  rw [hW]
  (try dsimp only[ak]);conv=>whnf
  refine fM ?_;(conv=>whnf);refine ⟨?_,rfl⟩;conv=>whnf
  all_goals exact wk
 rw [if_neg (by omega)] at hW
 obtain ⟨w,rfl⟩ : ∃ w : Nat,v = w:=⟨v.toNat,by omega⟩
 rw [Int.toNat_natCast] at hW
 have hb:=vZ (a:=path) (i:=w) (by omega) (by omega)
 (try dsimp only[ak]);conv=>whnf
 refine ⟨by omega,?_⟩
 (try dsimp only[ak]);conv=>whnf
 rw [hb]
 by_cases hpb : path.testBit w = true
 ·rw [if_pos hpb] at hW
  rw [if_pos hpb]
  refine And.intro (fun _=>?_) (fun h=>absurd rfl h)
  rw [hW]
  (try dsimp only[ak]);conv=>whnf
  refine fM ?_;(conv=>whnf);refine ⟨?_,rfl⟩;conv=>whnf
  all_goals exact wk
 rw [if_neg hpb] at hW
 rw [if_neg hpb]
 refine And.intro (fun h=>absurd h (by decide)) (fun _=>?_)
 (try dsimp only[ak]);conv=>whnf
 refine And.intro (fun g4=>?_) (fun g4=>?_)
 ·rw [if_pos g4] at hW
  rw [hW]
  (try dsimp only[ak]);conv=>whnf
  refine fM ?_;(conv=>whnf);refine ⟨?_,rfl⟩;conv=>whnf
  all_goals exact wk
 rw [if_neg g4] at hW
 have hP : path ||| 2 ^ w < 2 ^ 24:=Nat.or_lt_two_pow hp (Nat.pow_lt_pow_right (by decide) (by omega))
 have hpw : 2 ^ w < 2 ^ 24:=Nat.pow_lt_pow_right (by decide) (by omega)
 have hsh:=oh (i:=w) (by omega)
 have hor:=yE (a:=path) (b:=2 ^ w) (by omega) (by omega)
 have ca:=iha (path ||| 2 ^ w) (n + 1) hP (by omega)
 have hla:=qZ vars a (path ||| 2 ^ w) (n + 1) (by omega)
 rw [jg] at hW
 obtain ⟨va,ka,ra⟩:=a
 obtain ⟨vb,kb,rb⟩:=b
 rw [Sp.gI] at ca
 generalize hA : eY vars (.mk va ka ra) (path ||| 2 ^ w) (n + 1) = A at *
 obtain ⟨n1,e1⟩:=A
 dsimp only at hla hW ca
 (try dsimp only[ak]);conv=>whnf
 refine aK.step 3 ?_
 (try dsimp only[ak]);conv=>whnf
 refine bY (by simp) ?_
 (try dsimp only[ak]);conv=>whnf
 refine dh.mk ⟨_,⟨by decide,rfl⟩,?_⟩
 rw [Sp.gI]
 (try dsimp only[ak]);conv=>whnf
 refine aO.auto (by kernel_rfl) ?_;conv=>whnf
 refine ⟨by omega,?_⟩
 rw [hsh]
 conv=>whnf
 rw [hor]
 refine eU.pure _ _ ?_ ⟨rfl,rfl⟩ ca ?_
 ·all_goals exact wk
 by_cases he : e1 ≠ 0
 ·rw [if_pos he] at hW
  rw [hW]
  (try dsimp only[ak]);conv=>whnf
  refine bY he ?_
  (try dsimp only[ak]);conv=>whnf
  refine fM ?_;(conv=>whnf);refine ⟨?_,rfl⟩;conv=>whnf
  all_goals exact wk
 obtain rfl : e1 = 0:=by simpa using he
 rw [if_neg (by simp),jg] at hW
 have hn1:=hla.2 rfl
 have cb:=ihb (path ||| 2 ^ w) n1 hP (by omega)
 have hlb:=qZ vars (.mk vb kb rb) (path ||| 2 ^ w) n1 (by omega)
 rw [Sp.gI] at cb
 generalize hB : eY vars (.mk vb kb rb) (path ||| 2 ^ w) n1 = B at *
 obtain ⟨n2,e2⟩:=B
 dsimp only at hlb hW cb
 (try dsimp only[ak]);conv=>whnf
 refine bN (by simp) ?_
 (try dsimp only[ak]);conv=>whnf
 refine zA ?_;conv=>whnf
 refine bY (by simp) ?_
 (try dsimp only[ak]);conv=>whnf
 refine dh.mk ⟨_,⟨by decide,rfl⟩,?_⟩
 rw [Sp.gI]
 (try dsimp only[ak]);conv=>whnf
 refine aO.auto (by kernel_rfl) ?_;conv=>whnf
 refine ⟨by omega,?_⟩
 rw [hsh]
 conv=>whnf
 rw [hor]
 refine eU.pure _ _ ?_ ⟨rfl,rfl⟩ cb ?_
 ·all_goals exact wk
 by_cases he2 : e2 ≠ 0
 ·rw [if_pos he2] at hW
  rw [hW]
  (try dsimp only[ak]);conv=>whnf
  refine bY he2 ?_
  (try dsimp only[ak]);conv=>whnf
  refine fM ?_;(conv=>whnf);refine ⟨?_,rfl⟩;conv=>whnf
  all_goals exact wk
 obtain rfl : e2 = 0:=by simpa using he2
 rw [if_neg (by simp),ru] at hW
 rw [hW]
 (try dsimp only[ak]);conv=>whnf
 refine bN (by simp) ?_
 (try dsimp only[ak]);conv=>whnf
 refine zA ?_;conv=>whnf
 refine bN (by simp) ?_
 (try dsimp only[ak]);conv=>whnf
 refine fM ?_;(conv=>whnf);refine ⟨?_,rfl⟩;conv=>whnf
 all_goals exact wk

theorem Qq (vars : Int) (t : Sp) : aA Tryz.prog 40 [t.av,.int .i64 vars] [] (.int .i64 (oZ vars t)) []:=by
 by_cases hv : vars < 0 \/ 24 < vars
 ·rw [show oZ vars t = 3 from if_pos hv]
  obtain ⟨v,ks,r⟩:=t
  rw [Sp.gI]
  refine aA.intro lay mixed Tryz.func40 (by kernel_rfl) rfl (by kernel_rfl) rfl fun hok=>?_
  (try dsimp only[aZ,aN]);(try dsimp only[ak]);conv=>whnf
  refine And.intro (fun g=>?_) (fun g=>?_)
  ·(try dsimp only[ak]);conv=>whnf
   refine fM ?_;(conv=>whnf);refine ⟨?_,rfl⟩;conv=>whnf
   all_goals exact wk
  (try dsimp only[ak]);conv=>whnf
  refine And.intro (fun g=>?_) (fun g=>by exfalso; omega)
  (try dsimp only[ak]);conv=>whnf
  refine fM ?_;(conv=>whnf);refine ⟨?_,rfl⟩;conv=>whnf
  all_goals exact wk
 rw [show oZ vars t = (eY vars.toNat t 0 0).2 from if_neg hv]
 have cn:=U1 vars.toNat (by omega) t 0 0 (by decide) (by decide)
 rw [show ((vars.toNat : Nat) : Int) = vars by omega] at cn
 obtain ⟨v,ks,r⟩:=t
 rw [Sp.gI] at cn ⊢
 generalize eY vars.toNat (.mk v ks r) 0 0 = W at *
 obtain ⟨n1,e1⟩:=W
 dsimp only at cn ⊢
 refine aA.intro lay mixed Tryz.func40 (by kernel_rfl) rfl (by kernel_rfl) rfl fun hok=>?_
 (try dsimp only[aZ,aN]);(try dsimp only[ak]);conv=>whnf
 refine And.intro (fun g=>by exfalso; omega) (fun g=>?_)
 (try dsimp only[ak]);conv=>whnf
 refine And.intro (fun g=>by exfalso; omega) (fun g=>?_)
 (try dsimp only[ak]);conv=>whnf
 refine .pure _ _ ?_ ⟨rfl,rfl⟩ cn fun _=>?_
 ·all_goals exact wk
 (try dsimp only[ak]);conv=>whnf
 refine fM ?_;(conv=>whnf);refine ⟨?_,rfl⟩;conv=>whnf
 all_goals exact wk

abbrev cuA (y n : Nat) : AV:=.ag [.int .i64 y,.int .i64 n]
abbrev lfA (x : Nat × Nat × Int) : AV:=.ag [cuA x.1 x.2.1,.int .i64 x.2.2]

theorem pow24 {v : Nat} (h : v < 24) : 2 ^ v < 2 ^ 24:=Nat.pow_lt_pow_right (by decide) h

theorem Yn {vars : Nat} (hv : vars <= 24) {path : Nat} {t : Sp} (h : xQ vars path t) : ∀ {y n : Nat},LY vars path y n -> ∀ (l : List (Nat × Nat × Int)),l.length + (xO t y n).length <= 1000000 ->
  aA Tryz.prog 192 [.sl 3 (l.map lfA) (.own 0),t.av,cuA y n] [(0,.tok 3 l.length)] (.sl 3 ((l ++ xO t y n).map lfA) (.own 0)) [(0,.tok 3 (l ++ xO t y n).length)]:=by
 have hp24 : 2 ^ vars <= 2 ^ 24:=Nat.pow_le_pow_right (by decide) hv
 induction h with
 | leaf path r =>
   intro y n hc l hl
   rw [show xO (.mk 0 [] r) y n = [(y,n,r)] from rfl] at hl ⊢
   simp only [List.length_singleton] at hl
   rw [Sp.gI]
   refine aA.intro lay mixed Tryz.func192 (by kernel_rfl) rfl (by kernel_rfl) rfl fun hok=>?_
   (try dsimp only[aZ,aN]);(try dsimp only[ak]);conv=>whnf
   refine bY (by simp) ?_
   (try dsimp only[ak]);conv=>whnf
   refine ⟨by rw [List.length_map],.mk (by simp [maxL]; omega) (by simp; omega) ?_⟩
   (try dsimp only[ak]);conv=>whnf
   refine ⟨⟨_,_,.refl _ _,?_⟩⟩
   conv=>whnf
   refine ⟨?_,rfl,by simp [nextId],.mk ?_ (by simp [ay])⟩
   ·repeat' first|exact rfl|exact trivial|exact wR|exact lR _|apply aI
    all_goals (show bW _ (List.map _ (_ ++ [_])); rw [List.map_append]; exact aF _)
   ·repeat' first|exact rfl|exact trivial|exact wR|exact lR _|apply aI
    all_goals (simp; done)
 | node path v a b hvv hpv _ _ iha ihb =>
   intro y n hc l hl
   rw [show xO (.mk v [a,b] 0) y n = xO a y (n ||| 2 ^ v) ++ xO b (y ||| 2 ^ v) n by rw [xO,Int.toNat_natCast]] at hl ⊢
   rw [List.length_append] at hl
   have ca:=iha (hc.no hvv hpv) l (by omega)
   have cb:=ihb (hc.yes hvv hpv) (l ++ xO a y (n ||| 2 ^ v)) (by rw [List.length_append]; omega)
   rw [List.append_assoc] at cb
   have hsh:=oh (i:=v) (by omega)
   have h2v:=pow24 (show v < 24 by omega)
   have hyl:=hc.yl
   have hnl:=hc.nl
   have ZM:=yE (a:=n) (b:=2 ^ v) (by omega) (by omega)
   have hor2:=yE (a:=y) (b:=2 ^ v) (by omega) (by omega)
   generalize xO a y (n ||| 2 ^ v) = la at *
   generalize xO b (y ||| 2 ^ v) n = lb at *
   obtain ⟨va,ka,ra⟩:=a
   obtain ⟨vb,kb,rb⟩:=b
   rw [Sp.gI] at ca cb ⊢
   refine aA.intro lay mixed Tryz.func192 (by kernel_rfl) rfl (by kernel_rfl) rfl fun hok=>?_
   (try dsimp only[aZ,aN]);(try dsimp only[ak]);conv=>whnf
   refine bN (by simp) ?_
   (try dsimp only[ak]);conv=>whnf
   refine aO.mk ⟨[true,true,false,true,false,true,false,true,false,true,false,true,true,true,false,true],by kernel_rfl,?_⟩
   conv=>whnf
   refine dh.mk ⟨_,⟨by decide,rfl⟩,?_⟩
   rw [Sp.gI]
   conv=>whnf
   refine ⟨by omega,?_⟩
   rw [hsh]
   conv=>whnf
   rw [ZM]
   refine .gen _ _ (aA.frame [0] ca ⟨rfl,rfl,rfl,rfl⟩ ?_ ?_) fun _=>?_
   ·all_goals exact wk
   ·all_goals exact wk
   (try dsimp only[ak]);conv=>whnf
   refine aO.mk ⟨[true,true,false,true,false,true,false,true,false,true,true,true,false,true,false,true],by kernel_rfl,?_⟩
   conv=>whnf
   refine dh.mk ⟨_,⟨by decide,rfl⟩,?_⟩
   rw [Sp.gI]
   conv=>whnf
   refine ⟨by omega,?_⟩
   rw [hsh]
   conv=>whnf
   rw [hor2]
   refine .gen _ _ (aA.frame [0] cb ⟨rfl,rfl,rfl,rfl⟩ ?_ ?_) fun _=>?_
   ·all_goals exact wk
   ·all_goals exact wk
   (try dsimp only[ak]);conv=>whnf
   refine ⟨⟨_,_,.refl _ _,?_⟩⟩
   conv=>whnf
   refine ⟨?_,rfl,by simp [nextId],.mk ?_ (by simp [ay])⟩
   ·all_goals exact wk
   ·all_goals exact wk

theorem Yr (vars : Nat) (hv : vars <= 24) (t : Sp) (h : oZ vars t = 0) (hl : (xO t 0 0).length <= 1000000) : aA Tryz.prog 103 [t.av,.int .i64 vars] [] (.dV [.sl 3 ((xO t 0 0).map lfA) .no,.dN]) []:=by
 have cc:=U0 vars t _ rfl
 rw [h,gu] at cc
 have hok : xQ vars 0 t:=by
  unfold oZ at h
  rw [if_neg (by omega),Int.toNat_natCast] at h
  exact Et vars t 0 0 h
 have cl:=Yn hv hok (LY.zero vars) [] (by simpa using hl)
 rw [List.nil_append] at cl
 generalize xO t 0 0 = l at *
 obtain ⟨v,ks,r⟩:=t
 rw [Sp.gI] at cc cl ⊢
 refine aA.intro lay mixed Tryz.func103 (by kernel_rfl) rfl (by kernel_rfl) rfl fun hok=>?_
 (try dsimp only[aZ,aN]);(try dsimp only[ak]);conv=>whnf
 refine .pure _ _ ?_ ⟨rfl,rfl⟩ cc fun _=>?_
 ·all_goals exact wk
 (try dsimp only[ak]);conv=>whnf
 refine .gen _ _ (aA.growD 0 3 rfl (.inl ⟨rfl,rfl⟩) (aA.frame [1] cl ⟨rfl,rfl,rfl,rfl⟩ ?_ ?_)) fun _=>?_
 ·all_goals exact wk
 ·all_goals exact wk
 (try dsimp only[ak]);conv=>whnf
 refine ⟨⟨_,_,.refl _ _,?_⟩⟩
 conv=>whnf
 refine ⟨?_,rfl,by simp [nextId],.mk ?_ (by simp [ay])⟩
 ·all_goals exact wk
 ·all_goals exact wk


theorem uh (y n : Bool) : aA Tryz.prog 252 [.bool y,.bool n] [] (.int .i64 (lvl y n)) []:=by
 refine aA.intro lay mixed Tryz.func252 (by kernel_rfl) rfl (by kernel_rfl) rfl fun hok=>?_
 (try dsimp only[aZ,aN]);(try dsimp only[ak]);conv=>whnf
 refine And.intro (fun g=>?_) (fun g=>?_)
 ·rw [show lvl y n = 1 from if_pos g]
  (try dsimp only[ak]);conv=>whnf
  refine fM ?_;(conv=>whnf);refine ⟨?_,rfl⟩;conv=>whnf
  all_goals exact wk
 rw [show lvl y n = if n = true then 0 else 2 from if_neg (by rw [g]; simp)]
 (try dsimp only[ak]);conv=>whnf
 refine And.intro (fun g2=>?_) (fun g2=>?_)
 ·rw [if_pos g2]
  (try dsimp only[ak]);conv=>whnf
  refine fM ?_;(conv=>whnf);refine ⟨?_,rfl⟩;conv=>whnf
  all_goals exact wk
 ·rw [if_neg (by rw [g2]; simp)]
  (try dsimp only[ak]);conv=>whnf
  refine fM ?_;(conv=>whnf);refine ⟨?_,rfl⟩;conv=>whnf
  all_goals exact wk

theorem c_tnode (x : Nd) (a b c : Nat) (_ : 0 <= x.kind /\ x.kind <= 5) (ha : a <= 16) (hb : b <= 16) (hc : c <= 16) : aA Tryz.prog 253 [x.av,.ag [.int .i64 a,.int .i64 b,.int .i64 c]] [] (.int .i64 (MK x a b c)) []:=by
 refine aA.intro lay mixed Tryz.func253 (by kernel_rfl) rfl (by kernel_rfl) rfl fun hok=>?_
 (try dsimp only[aZ,aN]);(try dsimp only[ak]);conv=>whnf
 refine And.intro (fun k0=>?_) (fun k0=>?_)
 ·rw [show MK x a b c = x.k from if_pos k0]
  (try dsimp only[ak]);conv=>whnf
  refine fM ?_;(conv=>whnf);refine ⟨?_,rfl⟩;conv=>whnf
  all_goals exact wk
 rw [show MK x a b c = _ from if_neg k0]
 (try dsimp only[ak]);conv=>whnf
 refine And.intro (fun k1=>?_) (fun k1=>?_)
 ·rw [if_pos k1]
  (try dsimp only[ak]);conv=>whnf
  refine ⟨⟨by omega,by omega⟩,?_⟩
  (try dsimp only[ak]);conv=>whnf
  refine ⟨⟨by omega,by omega⟩,?_⟩
  (try dsimp only[ak]);conv=>whnf
  have cl:=uh (decide (a = 1)) (decide (b = 1))
  refine .pure _ _ ?_ ⟨rfl,rfl⟩ cl fun _=>?_
  ·refine ⟨?_,?_,trivial⟩
   ·show _ ↔ _
    rw [decide_eq_true_iff]; try omega
   ·show _ ↔ _
    rw [decide_eq_true_iff]; try omega
  (try dsimp only[ak]);conv=>whnf
  refine fM ?_;(conv=>whnf);refine ⟨?_,rfl⟩;conv=>whnf
  all_goals exact wk
 rw [if_neg k1]
 (try dsimp only[ak]);conv=>whnf
 refine And.intro (fun k2=>?_) (fun k2=>?_)
 ·rw [if_pos k2]
  (try dsimp only[ak]);conv=>whnf
  refine ⟨⟨by omega,by omega⟩,?_⟩
  (try dsimp only[ak]);conv=>whnf
  refine ⟨⟨by omega,by omega⟩,?_⟩
  (try dsimp only[ak]);conv=>whnf
  rw [List.length_map]
  have cl:=uh (decide (b = x.args.length)) (decide (0 < a))
  refine .pure _ _ ?_ ⟨rfl,rfl⟩ cl fun _=>?_
  ·refine ⟨?_,?_,trivial⟩
   ·show _ ↔ _
    rw [decide_eq_true_iff]; try omega
   ·show _ ↔ _
    rw [decide_eq_true_iff]; try omega
  (try dsimp only[ak]);conv=>whnf
  refine fM ?_;(conv=>whnf);refine ⟨?_,rfl⟩;conv=>whnf
  all_goals exact wk
 rw [if_neg k2]
 (try dsimp only[ak]);conv=>whnf
 refine And.intro (fun k3=>?_) (fun k3=>?_)
 ·rw [if_pos k3]
  (try dsimp only[ak]);conv=>whnf
  refine ⟨⟨by omega,by omega⟩,?_⟩
  (try dsimp only[ak]);conv=>whnf
  refine ⟨⟨by omega,by omega⟩,?_⟩
  (try dsimp only[ak]);conv=>whnf
  rw [List.length_map]
  have cl:=uh (decide (0 < b)) (decide (a = x.args.length))
  refine .pure _ _ ?_ ⟨rfl,rfl⟩ cl fun _=>?_
  ·refine ⟨?_,?_,trivial⟩
   ·show _ ↔ _
    rw [decide_eq_true_iff]; try omega
   ·show _ ↔ _
    rw [decide_eq_true_iff]; try omega
  (try dsimp only[ak]);conv=>whnf
  refine fM ?_;(conv=>whnf);refine ⟨?_,rfl⟩;conv=>whnf
  all_goals exact wk
 rw [if_neg k3]
 (try dsimp only[ak]);conv=>whnf
 refine And.intro (fun k4=>?_) (fun k4=>?_)
 ·rw [if_pos k4]
  (try dsimp only[ak]);conv=>whnf
  refine ⟨⟨by omega,by omega⟩,?_⟩
  (try dsimp only[ak]);conv=>whnf
  refine ⟨⟨by omega,by omega⟩,?_⟩
  (try dsimp only[ak]);conv=>whnf
  refine ⟨⟨by omega,by omega⟩,?_⟩
  (try dsimp only[ak]);conv=>whnf
  refine zA ?_;conv=>whnf
  have cl:=uh (decide (x.k <= b)) (decide ((b : Int) + c < x.k))
  refine .pure _ _ ?_ ⟨rfl,rfl⟩ cl fun _=>?_
  ·refine ⟨?_,?_,trivial⟩
   ·show _ ↔ _
    rw [decide_eq_true_iff]; try omega
   ·show _ ↔ _
    rw [decide_eq_true_iff]; try omega
  (try dsimp only[ak]);conv=>whnf
  refine fM ?_;(conv=>whnf);refine ⟨?_,rfl⟩;conv=>whnf
  all_goals exact wk
 rw [if_neg k4]
 (try dsimp only[ak]);conv=>whnf
 refine ⟨⟨by omega,by omega⟩,?_⟩
 (try dsimp only[ak]);conv=>whnf
 refine And.intro (fun g=>?_) (fun g=>?_)
 ·have g : c = 0:=by omega
  (try dsimp only[ak]);conv=>whnf
  refine ⟨⟨by omega,by omega⟩,?_⟩
  (try dsimp only[ak]);conv=>whnf
  refine ⟨by decide,?_⟩
  (try dsimp only[ak]);conv=>whnf
  refine ⟨⟨by omega,by omega⟩,?_⟩
  (try dsimp only[ak]);conv=>whnf
  refine And.intro (fun _=>?_) (fun g2=>by exfalso; omega)
  (try dsimp only[ak]);conv=>whnf
  refine ⟨⟨by omega,by omega⟩,?_⟩
  (try dsimp only[ak]);conv=>whnf
  refine ⟨by decide,?_⟩
  (try dsimp only[ak]);conv=>whnf
  have cl:=uh (decide (c = 0 /\ b % 2 = 1)) (decide (c = 0 /\ b % 2 = 0))
  refine .pure _ _ ?_ ⟨rfl,rfl⟩ cl fun _=>?_
  ·refine ⟨?_,?_,trivial⟩
   ·show _ ↔ _
    rw [decide_eq_true_iff,show (2 : Int) = ((2 : Nat) : Int) from rfl,kF]; omega
   ·show _ ↔ _
    rw [decide_eq_true_iff,show (2 : Int) = ((2 : Nat) : Int) from rfl,kF]; omega
  (try dsimp only[ak]);conv=>whnf
  refine fM ?_;(conv=>whnf);refine ⟨?_,rfl⟩;conv=>whnf
  all_goals exact wk
 ·(try dsimp only[ak]);conv=>whnf
  refine ⟨⟨by omega,by omega⟩,?_⟩
  (try dsimp only[ak]);conv=>whnf
  refine And.intro (fun g2=>by exfalso; omega) (fun _=>?_)
  (try dsimp only[ak]);conv=>whnf
  have cl:=uh (decide (c = 0 /\ b % 2 = 1)) (decide (c = 0 /\ b % 2 = 0))
  refine .pure _ _ ?_ ⟨rfl,rfl⟩ cl fun _=>?_
  ·refine ⟨?_,?_,trivial⟩
   ·show _ = false
    exact decide_eq_false (by omega)
   ·show _ = false
    exact decide_eq_false (by omega)
  (try dsimp only[ak]);conv=>whnf
  refine fM ?_;(conv=>whnf);refine ⟨?_,rfl⟩;conv=>whnf
  all_goals exact wk

theorem UQ (f : Fo) (h : qB f) (y n : Nat) (hy : y < 2 ^ 24) (hn : n < 2 ^ 24) : aA Tryz.prog 194 [f.av,cuA y n] [] (.sl 1 ((oV f.vars.toNat y n f.nodes).map (.int .i64)) .no) []:=by
 have hNk:=h.BG
 have hV3:=fun k hk=>uY f.vars.toNat y n h.BG k hk
 obtain ⟨h1,h2,h3,h4⟩:=h
 refine aA.intro lay mixed Tryz.func194 (by kernel_rfl) rfl (by kernel_rfl) rfl fun hok=>?_
 (try dsimp only[aZ,aN]);(try dsimp only[ak]);conv=>whnf
 refine ⟨bD (by simp; omega) (by simp; omega),?_⟩
 (try dsimp only[ak]);conv=>whnf
 refine ⟨by refine ⟨by omega,by simp; omega,by simp; omega,by simp; omega⟩,?_⟩
 refine .wr ?_
 (try dsimp only[ak]);conv=>whnf
 refine aK.of <| aB.inv (.keep 5 2 0 _ 1 _ rfl rfl (by simp) (.refl _ _)) (fun i : Nat=>i <= f.vars.toNat) (fun i=>[(21,.int .i64 i),(5,.sl 1 ((Uw i y n).map (.int .i64)) (.own 3))]) (fun i=>[(3,.tok 1 i),(2,.gone),(1,.box (cuA y n)),(0,.box f.av)]) (fun i=>f.vars.toNat - i) 0 ?_ (fun _=>rfl) ?_ ?_
 ·exact Nat.zero_le _
 ·refine ⟨?_,.mk ?_ (by simp [ay])⟩
  ·all_goals exact wk
  ·all_goals exact wk
 intro i hi _
 (try dsimp only[ak]);conv=>whnf
 refine And.intro (fun g1=>?_) (fun g1=>?_)
 ·have hlt : i < f.vars.toNat:=by omega
  have hb1:=vZ (a:=y) (i:=i) (by omega) (by omega)
  have hb2:=vZ (a:=n) (i:=i) (by omega) (by omega)
  have cl:=uh (y.testBit i) (n.testBit i)
  (try dsimp only[ak]);conv=>whnf
  refine aO.auto (by kernel_rfl) ?_;conv=>whnf
  refine ⟨by omega,?_⟩
  conv=>whnf
  refine ⟨by omega,?_⟩
  conv=>whnf
  refine eU.pure _ _ ?_ ⟨rfl,rfl⟩ cl ?_
  ·refine ⟨?_,?_,trivial⟩
   ·show _ ↔ _
    rw [hb1]; cases y.testBit i <;> simp
   ·show _ ↔ _
    rw [hb2]; cases n.testBit i <;> simp
  conv=>whnf
  refine ⟨by simp [Uw],.mk (by simp [maxL,Uw]; omega) (by simp [Uw]; omega) ?_⟩
  (try dsimp only[ak]);conv=>whnf
  refine zA ?_;conv=>whnf
  refine ⟨i + 1,?_,?_,?_⟩
  ·exact hlt
  ·refine ⟨?_,.mk ?_ (by simp [ay])⟩
   ·repeat' first|exact rfl|exact trivial|exact wR|exact lR _|apply aI
    all_goals (show bW _ (List.map _ (List.map _ (List.range (i + 1)))); rw [List.range_succ,List.map_append,List.map_append]; exact aF _)
   ·repeat' first|exact rfl|exact trivial|exact wR|exact lR _|apply aI
    all_goals (simp [Uw]; done)
  ·omega
 have hil : i = f.vars.toNat:=by omega
 subst hil
 (try dsimp only[ak]);conv=>whnf
 refine aK.of <| aB.inv (.refl _ _) (fun i : Nat=>i <= f.nodes.length) (fun i=>[(44,.int .i64 i),(5,.sl 1 ((oV f.vars.toNat y n (f.nodes.take i)).map (.int .i64)) (.own 3))]) (fun i=>[(3,.tok 1 (f.vars.toNat + i)),(2,.gone),(1,.box (cuA y n)),(0,.box f.av)]) (fun i=>f.nodes.length - i) 0 ?_ (fun _=>rfl) ?_ ?_
 ·exact Nat.zero_le _
 ·refine ⟨?_,.mk ?_ (by simp [ay])⟩
  ·all_goals exact wk
  ·all_goals exact wk
 intro i hi _
 (try dsimp only[ak]);conv=>whnf
 refine And.intro (fun g2=>?_) (fun g2=>?_)
 ·have hlt : i < f.nodes.length:=by simpa using g2
  have hx:=h3 i hlt
  have hvl:=rC f.vars.toNat y n (f.nodes.take i)
  rw [List.length_take,Nat.min_eq_left hi] at hvl
  have h3V:=hV3 i hi
  have hvs:=sQ (v:=f.vars.toNat) (y:=y) (n:=n) hlt
  have hal16 : f.nodes[i].args.length <= 16:=by
   have hal:=hx.num
   split at hal
   ·omega
   ·split at hal <;> omega
  (try dsimp only[ak]);conv=>whnf
  refine jq hlt ?_
  generalize f.nodes[i] = x at *
  generalize oV f.vars.toNat y n (f.nodes.take i) = V at *
  (try dsimp only[ak]);conv=>whnf
  refine aK.of <| aB.inv (.refl _ _) (fun j : Nat=>j <= x.args.length) (fun j=>[(51,.int .i64 j)]) (fun j=>[(5,.box (.ag [.int .i64 (c3 V 0 (x.args.take j)),.int .i64 (c3 V 1 (x.args.take j)),.int .i64 (c3 V 2 (x.args.take j))])),(4,.box x.av),(3,.tok 1 (f.vars.toNat + i)),(2,.gone),(1,.box (cuA y n)),(0,.box f.av)]) (fun j=>x.args.length - j) 0 ?_ (fun _=>rfl) ?_ ?_
  ·exact Nat.zero_le _
  ·refine ⟨?_,.mk ?_ (by simp [ay])⟩
   ·all_goals exact wk
   ·all_goals exact wk
  intro j hj _
  (try dsimp only[ak]);conv=>whnf
  refine And.intro (fun g3=>?_) (fun g3=>?_)
  ·have hjl : j < x.args.length:=by simpa using g3
   have ha:=hx.args _ (List.getElem_mem hjl)
   have q0:=Lh (V:=V) (k:=0) hjl
   have q1:=Lh (V:=V) (k:=1) hjl
   have q2:=Lh (V:=V) (k:=2) hjl
   have l0:=JG V 0 (x.args.take j)
   have l1:=JG V 1 (x.args.take j)
   have l2:=JG V 2 (x.args.take j)
   rw [List.length_take] at l0 l1 l2
   have hz:=h3V.get (x.args[j]).toNat
   (try dsimp only[ak]);conv=>whnf
   refine jq hjl ?_
   generalize x.args[j] = a at *
   (try dsimp only[ak]);conv=>whnf
   refine dI 0 (by rw [hvl]; omega) ?_
   generalize V.getD a.toNat 0 = z at *
   generalize c3 V 0 (x.args.take j) = m0 at *
   generalize c3 V 1 (x.args.take j) = m1 at *
   generalize c3 V 2 (x.args.take j) = m2 at *
   have hz3 : z = 0 \/ z = 1 \/ z = 2:=by omega
   rcases hz3 with rfl | rfl | rfl
   ·(try dsimp only[ak]);conv=>whnf
    refine ⟨⟨by omega,by omega⟩,?_⟩
    (try dsimp only[ak]);conv=>whnf
    refine zA ?_;conv=>whnf
    refine ⟨⟨by omega,by omega⟩,?_⟩
    (try dsimp only[ak]);conv=>whnf
    refine zA ?_;conv=>whnf
    refine ⟨j + 1,?_,?_,?_⟩
    ·exact hjl
    ·rw [q0,q1,q2]
     refine ⟨?_,.mk ?_ (by simp [ay])⟩
     ·all_goals exact wk
     ·all_goals exact wk
    ·omega
   ·(try dsimp only[ak]);conv=>whnf
    refine ⟨⟨by omega,by omega⟩,?_⟩
    (try dsimp only[ak]);conv=>whnf
    refine zA ?_;conv=>whnf
    refine ⟨⟨by omega,by omega⟩,?_⟩
    (try dsimp only[ak]);conv=>whnf
    refine zA ?_;conv=>whnf
    refine ⟨j + 1,?_,?_,?_⟩
    ·exact hjl
    ·rw [q0,q1,q2]
     refine ⟨?_,.mk ?_ (by simp [ay])⟩
     ·all_goals exact wk
     ·all_goals exact wk
    ·omega
   ·(try dsimp only[ak]);conv=>whnf
    refine ⟨⟨by omega,by omega⟩,?_⟩
    (try dsimp only[ak]);conv=>whnf
    refine zA ?_;conv=>whnf
    refine ⟨⟨by omega,by omega⟩,?_⟩
    (try dsimp only[ak]);conv=>whnf
    refine zA ?_;conv=>whnf
    refine ⟨j + 1,?_,?_,?_⟩
    ·exact hjl
    ·rw [q0,q1,q2]
     refine ⟨?_,.mk ?_ (by simp [ay])⟩
     ·all_goals exact wk
     ·all_goals exact wk
    ·omega
  have hjl : j = x.args.length:=by (have : ¬ j < x.args.length:=by simpa using g3); omega
  subst hjl
  rw [List.take_length]
  have l0:=JG V 0 x.args
  have l1:=JG V 1 x.args
  have l2:=JG V 2 x.args
  have cn:=c_tnode x (c3 V 0 x.args) (c3 V 1 x.args) (c3 V 2 x.args) hx.kind (by omega) (by omega) (by omega)
  rw [show MK x (c3 V 0 x.args) (c3 V 1 x.args) (c3 V 2 x.args) = EG V x from rfl] at cn
  unfold VI at hvs
  generalize EG V x = z at *
  generalize c3 V 0 x.args = m0 at *
  generalize c3 V 1 x.args = m1 at *
  generalize c3 V 2 x.args = m2 at *
  (try dsimp only[ak]);conv=>whnf
  refine .pure _ _ ?_ ⟨rfl,rfl⟩ cn fun _=>?_
  ·exact aj _
  (try dsimp only[ak]);conv=>whnf
  refine ⟨by rw [List.length_map,hvl],.mk (by simp [maxL]; omega) (by simp; omega) ?_⟩
  (try dsimp only[ak]);conv=>whnf
  refine zA ?_;conv=>whnf
  refine ⟨i + 1,?_,?_,?_⟩
  ·exact hlt
  ·rw [hvs]
   refine ⟨?_,.mk ?_ (by simp [ay])⟩
   ·repeat' first|exact rfl|exact trivial|exact wR|exact lR _|apply aI
    all_goals (show bW _ (List.map _ (_ ++ [_])); rw [List.map_append]; exact aF _)
   ·repeat' first|exact rfl|exact trivial|exact wR|exact lR _|apply aI
    all_goals first | (simp [hvl]; done) | (simp [hvl]; omega)
  ·omega
 have hil : i = f.nodes.length:=by (have : ¬ i < f.nodes.length:=by simpa using g2); omega
 subst hil
 rw [List.take_length]
 (try dsimp only[ak]);conv=>whnf
 refine ⟨⟨_,_,.refl _ _,?_⟩⟩
 conv=>whnf
 refine ⟨?_,rfl,by simp [nextId],.mk ?_ (by simp [ay])⟩
 ·all_goals exact wk
 ·all_goals exact wk

theorem and_dis {y n : Nat} (h : ∀ i,¬ (y.testBit i = true /\ n.testBit i = true)) : y &&& n = 0:=by
 apply Nat.eq_of_testBit_eq
 intro i
 rw [Nat.testBit_and,Nat.zero_testBit]
 cases h1 : y.testBit i <;> cases h2 : n.testBit i <;> simp
 exact h i ⟨h1,h2⟩

theorem X0 (f : Fo) (h : qB f) {p y n : Nat} (hc : LY f.vars.toNat p y n) : aA Tryz.prog 193 [f.av,cuA y n] [] .dN []:=by
 have cc:=lM f h
 have h1:=h.vars
 have hyl:=hc.yl
 have hnl:=hc.nl
 have hp24 : 2 ^ f.vars.toNat <= 2 ^ 24:=Nat.pow_le_pow_right (by decide) (by omega)
 have hsh:=oh (i:=f.vars.toNat) (by omega)
 rw [show ((f.vars.toNat : Nat) : Int) = f.vars by omega] at hsh
 have han:=SE (a:=y) (b:=n) (by omega) (by omega)
 rw [and_dis hc.dis] at han
 generalize 2 ^ f.vars.toNat = N at *
 refine aA.intro lay mixed Tryz.func193 (by kernel_rfl) rfl (by kernel_rfl) rfl fun hok=>?_
 (try dsimp only[aZ,aN]);(try dsimp only[ak]);conv=>whnf
 refine .pure _ _ ?_ ⟨rfl,rfl⟩ cc fun _=>?_
 ·exact aj _
 (try dsimp only[ak]);conv=>whnf
 refine aO.auto (by kernel_rfl) ?_;conv=>whnf
 refine bN (by omega) ?_
 conv=>whnf
 refine ⟨by omega,?_⟩
 rw [hsh]
 conv=>whnf
 refine bN (by omega) ?_
 conv=>whnf
 refine bN (by omega) ?_
 conv=>whnf
 refine ⟨by omega,?_⟩
 rw [hsh]
 conv=>whnf
 refine bN (by omega) ?_
 (try dsimp only[ak]);conv=>whnf
 rw [han]
 refine bN (by simp) ?_
 (try dsimp only[ak]);conv=>whnf
 refine fM ?_;(conv=>whnf);refine ⟨?_,rfl⟩;conv=>whnf
 all_goals exact wk

theorem rW (f : Fo) (h : qB f) {p y n : Nat} (hc : LY f.vars.toNat p y n) : aA Tryz.prog 104 [f.av,cuA y n] [] (.dV [.int .i64 (tri f y n),.dN]) []:=by
 have cc:=X0 f h hc
 have h1:=h.vars
 have h4:=h.top
 have hyl:=hc.yl
 have hnl:=hc.nl
 have hp24 : 2 ^ f.vars.toNat <= 2 ^ 24:=Nat.pow_le_pow_right (by decide) (by omega)
 have cv:=UQ f h y n (by omega) (by omega)
 have hl:=rC f.vars.toNat y n f.nodes
 unfold tri
 generalize oV f.vars.toNat y n f.nodes = V at *
 refine aA.intro lay mixed Tryz.func104 (by kernel_rfl) rfl (by kernel_rfl) rfl fun hok=>?_
 (try dsimp only[aZ,aN]);(try dsimp only[ak]);conv=>whnf
 refine .pure _ _ ?_ ⟨rfl,rfl⟩ cc fun _=>?_
 ·exact aj _
 (try dsimp only[ak]);conv=>whnf
 refine aO.auto (by kernel_rfl) ?_;conv=>whnf
 refine eU.pure _ _ ?_ ⟨rfl,rfl⟩ cv ?_
 ·exact aj _
 conv=>whnf
 refine dI 0 (by rw [hl]; omega) ?_
 conv=>whnf
 refine fM ?_;(conv=>whnf);refine ⟨?_,rfl⟩;conv=>whnf
 all_goals exact wk



theorem J7 {r : Rat} (w1 : Ws r.num) (w2 : Ws r.den) (l1 : r.num.length <= 100000) (l2 : r.den.length <= 100000) : (wd (aT r).2.1).length <= 100000 /\ (wd (aT r).2.2).length <= 100000:=by
 by_cases h : valid r = true /\ r.num ≠ []
 ·have hp : aT r = (r.neg,val r.num,val r.den):=if_pos h
  obtain ⟨h1,h2⟩:=h
  unfold valid at h1
  rw [if_neg (fun h=>h2 h.1)] at h1
  simp only [Bool.and_eq_true] at h1
  obtain ⟨e1,_⟩:=rF h1.1.1 w1
  obtain ⟨e2,n2⟩:=rF h1.1.2 w2
  rw [hp,show wd (r.neg,val r.num,val r.den).2.1 = r.num from e1,show wd (r.neg,val r.num,val r.den).2.2 = r.den from e2]
  exact ⟨l1,l2⟩
 ·have hp : aT r = (false,0,1):=if_neg h
  have e1 : wd 1 = [1]:=oU (by omega) (by omega)
  rw [hp,show wd ((false,0,1) : Bool × Nat × Nat).2.1 = [] from iy,show wd ((false,0,1) : Bool × Nat × Nat).2.2 = [1] from e1]
  simp

theorem Sl (a b : List Int) : aA Tryz.prog 64 [wL a,wL b] [] (.bool (decide (a = b))) []:=by
 refine aA.intro lay mixed Tryz.func64 (by kernel_rfl) rfl (by kernel_rfl) rfl fun hok=>?_
 have ha : a.length <= 9223372036854775807:=by simpa [y5,Ok,maxL] using hok.1.1
 (try dsimp only[aZ,aN]);(try dsimp only[ak]);conv=>whnf
 refine And.intro (fun h=>?_) (fun h=>?_)
 ·have h : a ≠ b:=by intro e; apply h; rw [e]
  conv=>whnf
  refine fM ?_;(conv=>whnf);refine ⟨?_,rfl⟩;conv=>whnf
  simpa using h
 have h : a.length = b.length:=by simp only [List.length_map] at h; omega
 (try dsimp only[ak]);conv=>whnf
 refine aK.of <| aB.inv (.refl _ _) (fun (i : Nat)=>i <= a.length /\ (a = b ↔ a.drop i = b.drop i)) (fun (i : Nat)=>[(13,.int .i64 i)]) (fun _=>_) (fun (i : Nat)=>a.length - i) 0 ?_ (fun _=>rfl) ?_ ?_
 ·exact ⟨Nat.zero_le _,by simp⟩
 ·all_goals exact wk
 rintro i ⟨hi,hx⟩ _
 (try dsimp only[ak]);conv=>whnf
 refine And.intro (fun h1=>?_) (fun h1=>?_)
 ·have hlt : i < a.length:=by simpa using h1
  have hlt2 : i < b.length:=by omega
  rw [List.drop_eq_getElem_cons hlt,List.drop_eq_getElem_cons hlt2] at hx
  (try dsimp only[ak]);conv=>whnf
  refine aO.auto (by kernel_rfl) ?_;conv=>whnf
  refine jq hlt ?_
  (try dsimp only[ak]);conv=>whnf
  refine jq hlt2 ?_
  (try dsimp only[ak]);conv=>whnf
  refine And.intro (fun h2=>?_) (fun h2=>?_)
  ·(try dsimp only[ak]);conv=>whnf
   refine fM ?_;(conv=>whnf);refine ⟨?_,rfl⟩;conv=>whnf
   have : ¬ a = b:=fun e=>h2 (by simpa using (List.cons.inj (hx.1 e)).1)
   simpa using this
  ·have h2 : a[i] = b[i]:=by simpa using h2
   (try dsimp only[ak]);conv=>whnf
   refine zA ?_;conv=>whnf
   refine ⟨i + 1,?_,?_,?_⟩
   ·refine ⟨hlt,?_⟩
    rw [hx,h2]
    exact ⟨fun e=>(List.cons.inj e).2,fun e=>by rw [e]⟩
   ·all_goals exact wk
   ·omega
 ·have hil : i = a.length:=by have : ¬ i < a.length:=by simpa using h1
                              omega
  (try dsimp only[ak]);conv=>whnf
  refine fM ?_;(conv=>whnf);refine ⟨?_,rfl⟩;conv=>whnf
  have : a = b:=hx.2 (by rw [hil,List.drop_length,h,List.drop_length])
  simpa using this

theorem c_ratEq (a b : Rat) : aA Tryz.prog 20 [a.av,b.av] [] (.bool (decide (a = b))) []:=by
 have c1:=Sl a.num b.num
 have c2:=Sl a.den b.den
 have e : a = b ↔ a.neg = b.neg /\ a.num = b.num /\ a.den = b.den:=by cases a; cases b; simp
 refine aA.intro lay mixed Tryz.func20 (by kernel_rfl) rfl (by kernel_rfl) rfl fun hok=>?_
 (try dsimp only[aZ,aN]);(try dsimp only[ak]);conv=>whnf
 refine And.intro (fun h1=>?_) (fun h1=>?_)
 ·(try dsimp only[ak]);conv=>whnf
  refine .pure _ _ ?_ ⟨rfl,rfl⟩ c1 fun _=>?_
  ·exact aj _
  (try dsimp only[ak]);conv=>whnf
  refine And.intro (fun h2=>?_) (fun h2=>?_)
  ·have h2 : a.num = b.num:=by simpa using h2
   (try dsimp only[ak]);conv=>whnf
   refine .pure _ _ ?_ ⟨rfl,rfl⟩ c2 fun _=>?_
   ·exact aj _
   (try dsimp only[ak]);conv=>whnf
   refine fM ?_;(conv=>whnf);refine ⟨?_,rfl⟩;conv=>whnf
   simp [e,h1,h2]
  ·have h2 : ¬ a.num = b.num:=by simpa using h2
   (try dsimp only[ak]);conv=>whnf
   refine fM ?_;(conv=>whnf);refine ⟨?_,rfl⟩;conv=>whnf
   simp [e,h2]
 ·(try dsimp only[ak]);conv=>whnf
  refine fM ?_;(conv=>whnf);refine ⟨?_,rfl⟩;conv=>whnf
  simp [e,h1]



theorem Pq {p x y c s va vb D : Nat} (hD : x + y + c = D) (h : s + p * c = va + vb) : s + p * (D % 4294967296) + p * 4294967296 * (D / 4294967296) = va + p * x + (vb + p * y):=by
 have e : D = D % 4294967296 + 4294967296 * (D / 4294967296):=(Nat.mod_add_div _ _).symm
 have e2 : p * D = p * (D % 4294967296) + p * (4294967296 * (D / 4294967296)):=by rw [<- Nat.mul_add,<- e]
 have e3 : p * D = p * x + p * y + p * c:=by rw [<- hD,Nat.mul_add,Nat.mul_add]
 rw [<- Nat.mul_assoc] at e2
 omega

theorem Wv {B m la lb a b s c : Nat} (hB : 2 <= B) (ha : a < B ^ la) (hb : b < B ^ lb) (hla : la < m) (hlb : lb < m) (h : s + B ^ m * c = a + b) : s = a + b:=by
 have h1 : B ^ la <= B ^ (m - 1):=Nat.pow_le_pow_right (by omega) (by omega)
 have h2 : B ^ lb <= B ^ (m - 1):=Nat.pow_le_pow_right (by omega) (by omega)
 have h3 : B ^ m = B ^ (m - 1) * B:=by rw [<- Nat.pow_succ]; congr 1; omega
 have h4 : B ^ (m - 1) * 2 <= B ^ (m - 1) * B:=Nat.mul_le_mul_left _ hB
 cases c with
 | zero=>simpa using h
 | succ c =>
   exfalso
   have h5 : B ^ m * 1 <= B ^ m * (c + 1):=Nat.mul_le_mul_left _ (by omega)
   rw [h3] at h5 h
   omega

def negR (a : Rat) : Rat:=nX (!(aT a).1) (aT a).2.1 (aT a).2.2

def VX (s t : Bool) (x y d : Nat) : Rat:=if s = t then nX s (x + y) d else if x < y then nX t (y - x) d else nX s (x - y) d

def YE (a b : Rat) : Rat:=VX (aT a).1 (aT b).1 ((aT a).2.1 * (aT b).2.2) ((aT b).2.1 * (aT a).2.2) ((aT a).2.2 * (aT b).2.2)


theorem Es {x y k : Nat} (hx : (wd x).length <= k) (hy : (wd y).length <= k) : (wd (x + y)).length <= k + 1:=by
 refine lU ?_
 have h1:=fF (mV x)
 have h2:=fF (mV y)
 rw [bC] at h1 h2
 have h3 : 4294967296 ^ (wd x).length <= 4294967296 ^ k:=Nat.pow_le_pow_right (by omega) hx
 have h4 : 4294967296 ^ (wd y).length <= 4294967296 ^ k:=Nat.pow_le_pow_right (by omega) hy
 rw [Nat.pow_succ]
 generalize 4294967296 ^ k = p at *
 generalize 4294967296 ^ (wd x).length = q at *
 generalize 4294967296 ^ (wd y).length = r at *
 omega



abbrev QQ:=_root_.Rat

def DF (s : Bool) (n : Nat) : Int:=if s = true then -(n : Int) else n

def fP (q : QQ) : Rat:=if q.num = 0 then ⟨false,[],[]⟩ else ⟨decide (q.num < 0),wd q.num.natAbs,wd q.den⟩

theorem Rk (s : Bool) (n : Nat) : (DF s n).natAbs = n:=by cases s <;> simp [DF]
theorem zk (z : Int) : DF (decide (z < 0)) z.natAbs = z:=by
 unfold DF
 by_cases h : z < 0
 ·rw [if_pos (by simpa using h)]; omega
 ·rw [if_neg (by simpa using h)]; omega

theorem mZ (s : Bool) (n d : Nat) (hd : d ≠ 0) : nX s n d = fP (mkRat (DF s n) d):=by
 have e1:=Rat.num_mkRat (DF s n) d
 have e2:=Rat.den_mkRat (DF s n) d
 rw [if_neg hd,Rk] at e1 e2
 unfold fP nX
 rw [e1,e2]
 have hgd : d.gcd n ∣ n:=Nat.gcd_dvd_right d n
 have hgp : 0 < d.gcd n:=Nat.gcd_pos_of_pos_left n (by omega)
 have hge : n.gcd d = d.gcd n:=Nat.gcd_comm n d
 rw [hge]
 generalize d.gcd n = g at *
 have ediv : (DF s n) / (g : Int) = DF s (n / g):=by
  cases s
  ·show (n : Int) / (g : Int) = ((n / g : Nat) : Int)
   exact (Int.natCast_ediv n g).symm
  ·show -(n : Int) / (g : Int) = -((n / g : Nat) : Int)
   rw [Int.natCast_ediv]
   exact Int.neg_ediv_of_dvd (by obtain ⟨c,rfl⟩:=hgd; exact ⟨(c : Int),by simp⟩)
 rw [ediv,Rk]
 by_cases hz : n = 0
 ·subst hz
  rw [if_pos rfl,if_pos (by cases s <;> simp [DF])]
 ·have hq : 0 < n / g:=Nat.div_pos (Nat.le_of_dvd (by omega) hgd) hgp
  rw [if_neg hz,if_neg (by cases s <;> simp [DF] <;> omega)]
  congr 1
  generalize n / g = m at *
  cases s
  ·symm; simp [DF];
  ·symm; simp [DF]; omega

theorem Nc {n : Nat} (h : n ≠ 0) : lI (wd n) = true:=by
 induction n using Nat.strongRecOn with
 | _ n ih =>
   rw [kN h]
   by_cases h2 : n / 4294967296 = 0
   ·rw [h2,iy]
    simp [lI]
    omega
   ·have:=ih _ (Nat.div_lt_self (by omega) (by omega)) h2
    generalize wd (n / 4294967296) = l at *
    simp only [lI,Bool.and_eq_true,decide_eq_true_eq] at this ⊢
    refine ⟨by simp,?_⟩
    cases l with
    | nil=>exact absurd rfl this.1
    | cons x l=>simpa [List.getLastD] using this.2

theorem rG (q : QQ) : aT (fP q) = (decide (q.num < 0),q.num.natAbs,q.den):=by
 by_cases h : q.num = 0
 ·have e : fP q = ⟨false,[],[]⟩:=if_pos h
  have hd : q.den = 1:=by
   have:=q.reduced
   rw [h] at this
   simpa using this
  rw [e,h,hd]; rfl
 ·have e : fP q = ⟨decide (q.num < 0),wd q.num.natAbs,wd q.den⟩:=if_neg h
  have hn : q.num.natAbs ≠ 0:=by omega
  have hne : wd q.num.natAbs ≠ []:=by rw [kN hn]; simp
  rw [e]
  unfold aT
  have hv : valid ⟨decide (q.num < 0),wd q.num.natAbs,wd q.den⟩ = true:=by
   unfold valid
   rw [if_neg (fun h=>hne h.1)]
   dsimp only
   rw [Nc hn,Nc q.den_nz,bC,bC]
   simpa using q.reduced
  rw [if_pos ⟨hv,hne⟩]
  dsimp only
  rw [bC,bC]

theorem Zy (p q : QQ) : mulR (fP p) (fP q) = fP (p * q):=by
 unfold mulR
 rw [rG,rG]
 dsimp only
 rw [mZ _ _ _ (Nat.mul_ne_zero p.den_nz q.den_nz)]
 congr 1
 rw [<- Rat.mkRat_self p,<- Rat.mkRat_self q,Rat.mkRat_mul_mkRat,Rat.mkRat_self,Rat.mkRat_self]
 congr 1
 rw [<- Int.natAbs_mul]
 have h1:=zk p.num
 have h2:=zk q.num
 conv=>rhs; rw [<- h1,<- h2]
 rw [Int.natAbs_mul]
 generalize decide (p.num < 0) = s
 generalize decide (q.num < 0) = t
 cases s <;> cases t <;> simp [DF] <;> grind

theorem Zb (s t : Bool) (x y d : Nat) (hd : d ≠ 0) : VX s t x y d = fP (mkRat (DF s x + DF t y) d):=by
 unfold VX
 split
 ·rename_i h
  subst h
  rw [mZ _ _ _ hd]
  congr 2
  cases s <;> simp [DF]; omega
 ·rename_i h
  split
  ·rename_i hl
   rw [mZ _ _ _ hd]
   congr 2
   cases s <;> cases t <;> simp [DF] at h ⊢ <;> omega
  ·rename_i hl
   rw [mZ _ _ _ hd]
   congr 2
   cases s <;> cases t <;> simp [DF] at h ⊢ <;> omega

theorem add_can (p q : QQ) : YE (fP p) (fP q) = fP (p + q):=by
 unfold YE
 rw [rG,rG]
 dsimp only
 rw [Zb _ _ _ _ _ (Nat.mul_ne_zero p.den_nz q.den_nz)]
 congr 1
 conv=>rhs; rw [<- Rat.mkRat_self p,<- Rat.mkRat_self q]
 rw [Rat.mkRat_add_mkRat _ _ p.den_nz q.den_nz]
 congr 1
 have h1:=zk p.num
 have h2:=zk q.num
 conv=>rhs; rw [<- h1,<- h2]
 generalize decide (p.num < 0) = s
 generalize decide (q.num < 0) = t
 generalize p.num.natAbs = a
 generalize q.num.natAbs = b
 cases s <;> cases t <;> simp [DF] <;> grind

theorem Zw (p : QQ) : negR (fP p) = fP (-p):=by
 unfold negR
 rw [rG]
 dsimp only
 rw [mZ _ _ _ p.den_nz]
 congr 1
 conv=>rhs; rw [<- Rat.mkRat_self p,Rat.neg_mkRat]
 congr 1
 have h1:=zk p.num
 conv=>rhs; rw [<- h1]
 generalize decide (p.num < 0) = s
 cases s <;> simp [DF]

def qv (r : Rat) : QQ:=mkRat (DF r.neg (val r.num)) (val r.den)

theorem TA {r : Rat} (h : valid r = true) (w1 : Ws r.num) (w2 : Ws r.den) : r = fP (qv r):=by
 obtain ⟨neg,num,den⟩:=r
 dsimp only at w1 w2
 unfold valid at h
 split at h
 ·rename_i e
  dsimp only at e h
  obtain ⟨rfl,rfl⟩:=e
  have : neg = false:=by simpa using h
  subst this
  rfl
 ·simp only [Bool.and_eq_true,decide_eq_true_eq] at h
  obtain ⟨⟨h1,h2⟩,h3⟩:=h
  obtain ⟨e1,n1⟩:=rF h1 w1
  obtain ⟨e2,n2⟩:=rF h2 w2
  dsimp only at *
  have:=mZ neg (val num) (val den) n2
  unfold qv
  rw [<- this]
  unfold nX
  rw [if_neg n1,h3,Nat.div_one,Nat.div_one,e1,e2]

def Sz (q : QQ) (k : Nat) : Prop:=(wd q.num.natAbs).length <= k /\ (wd q.den).length <= k

theorem Sz.mono {q : QQ} {k l : Nat} (h : Sz q k) (hl : k <= l) : Sz q l:=⟨by have:=h.1; omega,by have:=h.2; omega⟩
theorem Sz.neg {q : QQ} {k : Nat} (h : Sz q k) : Sz (-q) k:=by
 unfold Sz
 rw [Rat.neg_num,Rat.neg_den,Int.natAbs_neg]; exact h

theorem Sz_mk {z : Int} {d k : Nat} (hd : d ≠ 0) (h1 : (wd z.natAbs).length <= k) (h2 : (wd d).length <= k) : Sz (mkRat z d) k:=by
 unfold Sz
 rw [Rat.num_mkRat,Rat.den_mkRat,if_neg hd,if_neg hd]
 have hg : 0 < d.gcd z.natAbs:=Nat.gcd_pos_of_pos_left _ (by omega)
 generalize d.gcd z.natAbs = g at *
 refine ⟨Nat.le_trans (dY ?_) h1,Nat.le_trans (dY (Nat.div_le_self d g)) h2⟩
 have:=Int.natAbs_ediv_le_natAbs z (g : Int)
 exact this

theorem Sz.mul {p q : QQ} {k l : Nat} (hp : Sz p k) (hq : Sz q l) : Sz (p * q) (k + l):=by
 rw [<- Rat.mkRat_self p,<- Rat.mkRat_self q,Rat.mkRat_mul_mkRat]
 refine Sz_mk (Nat.mul_ne_zero p.den_nz q.den_nz) ?_ (jf hp.2 hq.2)
 rw [Int.natAbs_mul]
 exact jf hp.1 hq.1

theorem Sz.add {p q : QQ} {k l : Nat} (hp : Sz p k) (hq : Sz q l) : Sz (p + q) (k + l + 1):=by
 rw [<- Rat.mkRat_self p,<- Rat.mkRat_self q,Rat.mkRat_add_mkRat _ _ p.den_nz q.den_nz]
 have h1:=jf hp.1 hq.2
 have h2:=jf hq.1 hp.2
 refine Sz_mk (Nat.mul_ne_zero p.den_nz q.den_nz) ?_ (by have:=jf hp.2 hq.2; omega)
 refine Nat.le_trans (dY (y:=p.num.natAbs * q.den + q.num.natAbs * p.den) ?_) (Es h1 (by omega))
 refine Nat.le_trans (Int.natAbs_add_le _ _) ?_
 rw [Int.natAbs_mul,Int.natAbs_mul]
 simp

theorem H7 {q : QQ} {k : Nat} (h : Sz q k) : (fP q).num.length <= k /\ (fP q).den.length <= k:=by
 unfold fP
 split
 ·exact ⟨Nat.zero_le _,Nat.zero_le _⟩
 ·exact h

theorem I4 {s : List Int} {i m : Nat} {d : Int} (h : s.length = i) (hi : i < m) : (s ++ List.replicate (m - i) 0).set i d = (s ++ [d]) ++ List.replicate (m - (i + 1)) 0:=by
 obtain ⟨k,hk⟩ : ∃ k,m - i = k + 1:=⟨m - i - 1,by omega⟩
 rw [hk,show m - (i + 1) = k by omega,List.set_append_right _ _ (by omega),h,Nat.sub_self,List.append_assoc]
 rfl

theorem c_nAdd (a b : List Int) (ha : a.length <= 900000) (hb : b.length <= 900000) : aA Tryz.prog 240 [wL a,wL b] [] (wL (wd (val a + val b))) []:=by
 refine aA.intro lay mixed Tryz.func240 (by kernel_rfl) rfl (by kernel_rfl) rfl fun hok=>?_
 have wa : Ws a:=Ws.ok hok.1.2
 have wb : Ws b:=Ws.ok hok.2.1.2
 (try dsimp only[aZ,aN]);(try dsimp only[ak]);conv=>whnf
 obtain ⟨m,hm⟩ : ∃ m,max a.length b.length + 1 = m:=⟨_,rfl⟩
 have em : max (((a.map (AV.int .u32)).length : Nat) : Int) (((b.map (AV.int .u32)).length : Nat) : Int) + 1 = (m : Int):=by simp only [List.length_map]; omega
 refine And.intro (by rw [em]; exact bD (by omega) (by omega)) ?_
 rw [em]
 conv=>whnf
 refine ⟨⟨by omega,by omega,by simp; omega,by omega⟩,.wr ?_⟩
 conv=>whnf
 refine aK.of <| aB.inv (.refl _ _) (fun x : Nat × Nat × List Int=>x.1 <= m /\ x.2.1 <= 1 /\ Ws x.2.2 /\ x.2.2.length = x.1 /\ val x.2.2 + 4294967296 ^ x.1 * x.2.1 = val (a.take x.1) + val (b.take x.1))
  (fun | (i,c,s)=>[(17,.int .i64 i),(6,.int .u64 c)]) (fun | (i,_,s)=>[(0,.arr 1 m ((s ++ List.replicate (m - i) 0).map (.int .u32)))])
  (fun x=>m - x.1) (0,0,[]) ?_ (fun _=>rfl) ?_ ?_
 ·exact ⟨Nat.zero_le _,by simp,Ws.nil,rfl,by simp [val]⟩
 ·refine ⟨?_,.mk ?_ ⟨by simp,trivial⟩⟩
  ·all_goals exact wk
  ·repeat' first|exact rfl|exact trivial|exact wR|exact lR _|apply aI
   all_goals first | (show bW (List.replicate _ _) (List.map _ ([] ++ List.replicate _ 0)); rw [List.nil_append,List.map_replicate]; exact aF _) | skip
 rintro ⟨i,c,s⟩ ⟨hi,hc,hws,hsl,hv⟩ _
 simp only at hi hc hws hsl hv
 (try dsimp only[ak]);conv=>whnf
 refine And.intro (fun h=>?_) (fun h=>?_)
 ·have hlt : i < m:=by omega
  have ca:=vW a i
  have cb:=vW b i
  have hva:=bP (l:=a) (i:=i)
  have hvb:=bP (l:=b) (i:=i)
  have hxa:=wa.getD (i:=i)
  have hxb:=wb.getD (i:=i)
  generalize a.getD i 0 = x0 at *
  generalize b.getD i 0 = y0 at *
  obtain ⟨x,rfl⟩ : ∃ x : Nat,x0 = x:=⟨x0.toNat,by omega⟩
  obtain ⟨w,rfl⟩ : ∃ x : Nat,y0 = x:=⟨y0.toNat,by omega⟩
  rw [Int.toNat_natCast] at hva hvb
  (try dsimp only[ak]);conv=>whnf
  refine .gen _ _ (aA.fC ca (aj _) ⟨rfl,rfl⟩) fun _=>?_
  (try dsimp only[ak]);conv=>whnf
  refine .gen _ _ (aA.fC cb (aj _) ⟨rfl,rfl⟩) fun _=>?_
  conv=>whnf
  rw [show ((x : Int) + (w : Int)) = ((x + w : Nat) : Int) from (Int.natCast_add x w).symm,wrap_u64 (n:=((x + w : Nat) : Int)) (by omega) (by omega)]
  rw [show ((c : Int) + ((x + w : Nat) : Int)) = ((x + w + c : Nat) : Int) by omega,wrap_u64 (n:=((x + w + c : Nat) : Int)) (by omega) (by omega)]
  obtain ⟨D,hD⟩ : ∃ D,x + w + c = D:=⟨_,rfl⟩
  rw [hD]
  conv=>whnf
  rw [dX (a:=D)]
  refine ⟨⟨by omega,by omega⟩,?_⟩
  conv=>whnf
  refine ⟨by rw [List.length_map,List.length_append,List.length_replicate]; omega,rfl,?_⟩
  conv=>whnf
  refine ⟨by decide,?_⟩
  rw [mX rfl]
  conv=>whnf
  refine zA ?_;conv=>whnf
  refine ⟨(i + 1,D / 4294967296,s ++ [((D % 4294967296 : Nat) : Int)]),?_,?_,?_⟩
  ·refine ⟨hlt,(by omega : D / 4294967296 <= 1),hws.append (Ws.cons (by omega) Ws.nil),by simp [hsl],?_⟩
   show val (s ++ [((D % 4294967296 : Nat) : Int)]) + 4294967296 ^ (i + 1) * (D / 4294967296) = val (a.take (i + 1)) + val (b.take (i + 1))
   have e1 : val (s ++ [((D % 4294967296 : Nat) : Int)]) = val s + 4294967296 ^ i * (D % 4294967296):=by
    rw [val_append,hsl]
    show _ + _ * ((((D % 4294967296 : Nat) : Int)).toNat + 4294967296 * 0) = _
    rw [Int.toNat_natCast]; rfl
   rw [hva,hvb,e1,Nat.pow_succ]
   exact Pq hD hv
  ·refine ⟨?_,.mk ?_ ⟨by simp,trivial⟩⟩
   ·all_goals exact wk
   ·repeat' first|exact rfl|exact trivial|exact wR|exact lR _|apply aI
    all_goals (refine aY ?_; rw [<- I4 hsl hlt,List.map_set,Nat.zero_add,Int.toNat_natCast]; rfl)
  ·show m - (i + 1) < m - i
   omega
 ·have hil : i = m:=by omega
  subst hil
  rw [List.take_of_length_le (by omega),List.take_of_length_le (by omega)] at hv
  have hfin : val s = val a + val b:=Wv (by omega) (fF wa) (fF wb) (by omega) (by omega) hv
  have ct:=kV s (by omega)
  rw [hfin] at ct
  (try dsimp only[ak]);conv=>whnf
  refine .gen _ _ (aA.RQ 0 rfl rfl (by simp; omega) (aA.fC ct ?_ ⟨rfl,rfl⟩)) fun _=>?_
  ·repeat' first|exact rfl|exact trivial|exact wR|exact lR _|apply aI
   all_goals (refine aY ?_; rw [Nat.sub_self,List.replicate_zero,List.append_nil,List.drop_zero,List.take_of_length_le (by simp; omega)])
  (try dsimp only[ak]);conv=>whnf
  refine fM ?_;(conv=>whnf);refine ⟨?_,rfl⟩;conv=>whnf
  all_goals exact wk

theorem Yk (a b : List Int) (ha : a.length <= 1000000) (hb : b.length <= 1000000) (hge : val b <= val a) : aA Tryz.prog 241 [wL a,wL b] [] (.dV [wL (wd (val a - val b)),.dN]) []:=by
 refine aA.intro lay mixed Tryz.func241 (by kernel_rfl) rfl (by kernel_rfl) rfl fun hok=>?_
 have wa : Ws a:=Ws.ok hok.1.2
 have wb : Ws b:=Ws.ok hok.2.1.2
 (try dsimp only[aZ,aN]);(try dsimp only[ak]);conv=>whnf
 refine .pure _ _ ?_ ⟨rfl,rfl⟩ (JF a b (by omega) (by omega)) fun _=>?_
 ·exact aj _
 conv=>whnf
 refine And.intro (fun h=>?_) (fun h=>?_)
 ·exfalso
  unfold oG at h
  rw [if_neg (by omega)] at h
  split at h <;> omega
 conv=>whnf
 rw [List.length_map]
 refine ⟨⟨by omega,by omega,by simp; omega,by omega⟩,.wr ?_⟩
 conv=>whnf
 refine aK.of <| aB.inv (.refl _ _) (fun x : Nat × Nat × List Int=>x.1 <= a.length /\ x.2.1 <= 1 /\ Ws x.2.2 /\ x.2.2.length = x.1 /\ val (a.take x.1) + 4294967296 ^ x.1 * x.2.1 = val x.2.2 + val (b.take x.1))
  (fun | (i,b,s)=>[(20,.int .i64 i),(7,.int .u64 b)]) (fun | (i,_,s)=>[(0,.arr 1 a.length ((s ++ List.replicate (a.length - i) 0).map (.int .u32)))])
  (fun x=>a.length - x.1) (0,0,[]) ?_ (fun _=>rfl) ?_ ?_
 ·exact ⟨Nat.zero_le _,by simp,Ws.nil,rfl,by simp [val]⟩
 ·refine ⟨?_,.mk ?_ ⟨by simp,trivial⟩⟩
  ·all_goals exact wk
  ·repeat' first|exact rfl|exact trivial|exact wR|exact lR _|apply aI
   all_goals first | (show bW (List.replicate _ _) (List.map _ ([] ++ List.replicate _ 0)); rw [List.nil_append,List.map_replicate]; exact aF _) | skip
 rintro ⟨i,bo,s⟩ ⟨hi,hbo,hws,hsl,hv⟩ _
 simp only at hi hbo hws hsl hv
 (try dsimp only[ak]);conv=>whnf
 refine And.intro (fun h=>?_) (fun h=>?_)
 ·have hlt : i < a.length:=by omega
  have ca:=vW a i
  have cb:=vW b i
  have hva:=bP (l:=a) (i:=i)
  have hvb:=bP (l:=b) (i:=i)
  have hxa:=wa.getD (i:=i)
  have hxb:=wb.getD (i:=i)
  generalize a.getD i 0 = x0 at *
  generalize b.getD i 0 = y0 at *
  obtain ⟨x,rfl⟩ : ∃ x : Nat,x0 = x:=⟨x0.toNat,by omega⟩
  obtain ⟨w,rfl⟩ : ∃ x : Nat,y0 = x:=⟨y0.toNat,by omega⟩
  rw [Int.toNat_natCast] at hva hvb
  (try dsimp only[ak]);conv=>whnf
  refine .gen _ _ (aA.fC ca (aj _) ⟨rfl,rfl⟩) fun _=>?_
  (try dsimp only[ak]);conv=>whnf
  refine .gen _ _ (aA.fC cb (aj _) ⟨rfl,rfl⟩) fun _=>?_
  conv=>whnf
  obtain ⟨D,hD,hD1,hD2,hD3⟩:=EL (x:=x) (low:=w) (b:=bo) (by omega) (by omega) hbo
  rw [hD]
  conv=>whnf
  rw [dX (a:=D)]
  have hy : D % 4294967296 < 4294967296:=Nat.mod_lt _ (by decide)
  generalize D % 4294967296 = y at *
  refine ⟨⟨by omega,by omega⟩,?_⟩
  conv=>whnf
  refine ⟨by rw [List.length_map,List.length_append,List.length_replicate]; omega,rfl,?_⟩
  conv=>whnf
  refine ⟨by decide,?_⟩
  rw [Pn]
  conv=>whnf
  refine zA ?_;conv=>whnf
  refine ⟨(i + 1,D / 9223372036854775808,s ++ [(y : Int)]),?_,?_,?_⟩
  ·refine ⟨hlt,hD2,hws.append (Ws.cons (by omega) Ws.nil),by simp [hsl],?_⟩
   show val (a.take (i + 1)) + 4294967296 ^ (i + 1) * (D / 9223372036854775808) = val (s ++ [(y : Int)]) + val (b.take (i + 1))
   have e1 : val (s ++ [(y : Int)]) = val s + 4294967296 ^ i * y:=by rw [val_append,hsl]; simp [val]
   rw [hva,hvb,e1,Nat.pow_succ]
   exact ET hD3 hv
  ·refine ⟨?_,.mk ?_ ⟨by simp,trivial⟩⟩
   ·all_goals exact wk
   ·repeat' first|exact rfl|exact trivial|exact wR|exact lR _|apply aI
    all_goals (refine aY ?_; rw [<- I4 hsl hlt,List.map_set,Nat.zero_add,Int.toNat_natCast]; rfl)
  ·show a.length - (i + 1) < a.length - i
   omega
 ·have hil : i = a.length:=by omega
  subst hil
  rw [List.take_length] at hv
  have hva:=fF wa
  rw [CQ (by omega)] at hv
  have hvs:=fF hws
  rw [hsl] at hvs
  have hfin : val s = val a - val b:=by
   have hb2 : bo = 0 \/ bo = 1:=by omega
   rcases hb2 with rfl | rfl
   ·omega
   ·omega
  have ct:=kV s (by omega)
  rw [hfin] at ct
  (try dsimp only[ak]);conv=>whnf
  refine .gen _ _ (aA.RQ 0 rfl rfl (by simp; omega) (aA.fC ct ?_ ⟨rfl,rfl⟩)) fun _=>?_
  ·repeat' first|exact rfl|exact trivial|exact wR|exact lR _|apply aI
   all_goals (refine aY ?_; rw [Nat.sub_self,List.replicate_zero,List.append_nil,List.drop_zero,List.take_of_length_le (by simp; omega)])
  (try dsimp only[ak]);conv=>whnf
  refine fM ?_;(conv=>whnf);refine ⟨?_,rfl⟩;conv=>whnf
  all_goals exact wk

theorem c_pNeg (a : Rat) (a1 : a.num.length <= 100000) (a2 : a.den.length <= 100000) : aA Tryz.prog 147 [a.av] [] (negR a).av []:=by
 have ca:=xG a (BA a (by omega) (by omega)).v
 refine aA.intro lay mixed Tryz.func147 (by kernel_rfl) rfl (by kernel_rfl) rfl fun hok=>?_
 have pa:=zG (nU hok).1 (nU hok).2 (by omega) (by omega)
 have qa:=J7 (nU hok).1 (nU hok).2 a1 a2
 rw [pa.eq] at ca
 have cf:=BZ (!(aT a).1) (aT a).2.1 (aT a).2.2 (by omega) (by omega) pa.den
 have hm : negR a = nX (!(aT a).1) (aT a).2.1 (aT a).2.2:=rfl
 rw [<- hm] at cf
 generalize negR a = R at *
 (try dsimp only[aZ,aN]);(try dsimp only[ak]);conv=>whnf
 refine .pure _ _ ?_ ⟨rfl,rfl⟩ ca fun _=>?_
 ·exact aj _
 (try dsimp only[ak]);conv=>whnf
 refine .pure _ _ ?_ ⟨rfl,rfl⟩ cf fun _=>?_
 ·all_goals exact wk
 (try dsimp only[ak]);conv=>whnf
 refine fM ?_;(conv=>whnf);refine ⟨?_,rfl⟩;conv=>whnf
 all_goals exact wk

theorem c_pAdd (a b : Rat) (a1 : a.num.length <= 100000) (a2 : a.den.length <= 100000) (b1 : b.num.length <= 100000) (b2 : b.den.length <= 100000) : aA Tryz.prog 146 [a.av,b.av] [] (YE a b).av []:=by
 have ca:=xG a (BA a (by omega) (by omega)).v
 have cb:=xG b (BA b (by omega) (by omega)).v
 refine aA.intro lay mixed Tryz.func146 (by kernel_rfl) rfl (by kernel_rfl) rfl fun hok=>?_
 have pa:=zG (nU hok).1 (nU hok).2 (by omega) (by omega)
 have pb:=zG (nU hok.2).1 (nU hok.2).2 (by omega) (by omega)
 have qa:=J7 (nU hok).1 (nU hok).2 a1 a2
 have qb:=J7 (nU hok.2).1 (nU hok.2).2 b1 b2
 rw [pa.eq] at ca
 rw [pb.eq] at cb
 have hR : YE a b = VX (aT a).1 (aT b).1 ((aT a).2.1 * (aT b).2.2) ((aT b).2.1 * (aT a).2.2) ((aT a).2.2 * (aT b).2.2):=rfl
 have m1:=GH (wd (aT a).2.1) (wd (aT b).2.2) pa.ln pb.ld
 have m2:=GH (wd (aT b).2.1) (wd (aT a).2.2) pb.ln pa.ld
 have m3:=GH (wd (aT a).2.2) (wd (aT b).2.2) pa.ld pb.ld
 rw [bC,bC] at m1 m2 m3
 have l1:=jf qa.1 qb.2
 have l2:=jf qb.1 qa.2
 have l3:=jf qa.2 qb.2
 have hne : (aT a).2.2 * (aT b).2.2 ≠ 0:=Nat.mul_ne_zero pa.den pb.den
 generalize YE a b = R at *
 generalize (aT a).2.1 * (aT b).2.2 = x at *
 generalize (aT b).2.1 * (aT a).2.2 = y at *
 generalize (aT a).2.2 * (aT b).2.2 = d at *
 have l4:=Es l1 l2
 have l5:=dY (Nat.sub_le x y)
 have l6:=dY (Nat.sub_le y x)
 have cA:=c_nAdd (wd x) (wd y) (by omega) (by omega)
 have cC:=JF (wd x) (wd y) (by omega) (by omega)
 have cS:=fun h=>Yk (wd x) (wd y) (by omega) (by omega) h
 have cS2:=fun h=>Yk (wd y) (wd x) (by omega) (by omega) h
 simp only [bC] at cA cC cS cS2
 have cf1:=BZ (aT a).1 (x + y) d (by omega) (by omega) hne
 have cf2:=BZ (aT a).1 (x - y) d (by omega) (by omega) hne
 have cf3:=BZ (aT b).1 (y - x) d (by omega) (by omega) hne
 unfold VX at hR
 generalize (aT a).1 = s at *
 generalize (aT b).1 = t at *
 (try dsimp only[aZ,aN]);(try dsimp only[ak]);conv=>whnf
 refine .pure _ _ ?_ ⟨rfl,rfl⟩ ca fun _=>?_
 ·exact aj _
 (try dsimp only[ak]);conv=>whnf
 refine .pure _ _ ?_ ⟨rfl,rfl⟩ cb fun _=>?_
 ·exact aj _
 (try dsimp only[ak]);conv=>whnf
 refine .pure _ _ ?_ ⟨rfl,rfl⟩ m1 fun _=>?_
 ·exact aj _
 (try dsimp only[ak]);conv=>whnf
 refine .pure _ _ ?_ ⟨rfl,rfl⟩ m2 fun _=>?_
 ·exact aj _
 (try dsimp only[ak]);conv=>whnf
 refine .pure _ _ ?_ ⟨rfl,rfl⟩ m3 fun _=>?_
 ·exact aj _
 (try dsimp only[ak]);conv=>whnf
 refine And.intro (fun hst=>?_) (fun hst=>?_)
 ·have hst : s = t:=by simpa using hst
  rw [if_pos hst] at hR
  subst hR
  (try dsimp only[ak]);conv=>whnf
  refine .pure _ _ ?_ ⟨rfl,rfl⟩ cA fun _=>?_
  ·exact aj _
  (try dsimp only[ak]);conv=>whnf
  refine .pure _ _ ?_ ⟨rfl,rfl⟩ cf1 fun _=>?_
  ·exact aj _
  (try dsimp only[ak]);conv=>whnf
  refine fM ?_;(conv=>whnf);refine ⟨?_,rfl⟩;conv=>whnf
  all_goals exact wk
 have hst : ¬ s = t:=by simpa using hst
 rw [if_neg hst] at hR
 (try dsimp only[ak]);conv=>whnf
 refine .pure _ _ ?_ ⟨rfl,rfl⟩ cC fun _=>?_
 ·exact aj _
 (try dsimp only[ak]);conv=>whnf
 refine And.intro (fun hxy=>?_) (fun hxy=>?_)
 ·have hlt : ¬ x < y:=by
   intro hlt
   unfold oG at hxy
   rw [if_pos hlt] at hxy
   omega
  rw [if_neg hlt] at hR
  subst hR
  (try dsimp only[ak]);conv=>whnf
  refine .pure _ _ ?_ ⟨rfl,rfl⟩ (cS (by omega)) fun _=>?_
  ·exact aj _
  (try dsimp only[ak]);conv=>whnf
  refine .pure _ _ ?_ ⟨rfl,rfl⟩ cf2 fun _=>?_
  ·exact aj _
  (try dsimp only[ak]);conv=>whnf
  refine fM ?_;(conv=>whnf);refine ⟨?_,rfl⟩;conv=>whnf
  all_goals exact wk
 ·have hlt : x < y:=by
   unfold oG at hxy
   split at hxy
   ·assumption
   ·split at hxy <;> omega
  rw [if_pos hlt] at hR
  subst hR
  (try dsimp only[ak]);conv=>whnf
  refine .pure _ _ ?_ ⟨rfl,rfl⟩ (cS2 (by omega)) fun _=>?_
  ·exact aj _
  (try dsimp only[ak]);conv=>whnf
  refine .pure _ _ ?_ ⟨rfl,rfl⟩ cf3 fun _=>?_
  ·exact aj _
  (try dsimp only[ak]);conv=>whnf
  refine fM ?_;(conv=>whnf);refine ⟨?_,rfl⟩;conv=>whnf
  all_goals exact wk

theorem c_pOf (n : Nat) (hn : n < 2 ^ 31) : aA Tryz.prog 236 [.int .i64 n] [] (fP (n : QQ)).av []:=by
 have cn:=SA n (by omega)
 have e1 : wd 1 = [1]:=oU (by omega) (by omega)
 have cf:=BZ false n 1 (by
  have:=lU (x:=n) (n:=1) (by omega)
  omega) (by rw [e1]; simp) (by omega)
 rw [mZ _ _ _ (by omega),e1,show mkRat (DF false n) 1 = (n : QQ) from by rw [show DF false n = (n : Int) from rfl,Rat.mkRat_one]; rfl] at cf
 have cs : aA Tryz.prog 271 [.int .i64 n] [] (wL (wd n)) []:=by
  refine aA.intro lay mixed Tryz.func271 (by kernel_rfl) rfl (by kernel_rfl) rfl fun hok=>?_
  (try dsimp only[aZ,aN]);(try dsimp only[ak]);conv=>whnf
  refine And.intro (fun h=>by exfalso; omega) (fun _=>?_)
  (try dsimp only[ak]);conv=>whnf
  refine ⟨bD (by omega) (by omega),?_⟩
  (try dsimp only[ak]);conv=>whnf
  rw [show max (n : Int) (0 - (n : Int)) = (n : Int) by omega]
  refine .pure _ _ ?_ ⟨rfl,rfl⟩ cn fun _=>?_
  ·exact aj _
  (try dsimp only[ak]);conv=>whnf
  refine fM ?_;(conv=>whnf);refine ⟨?_,rfl⟩;conv=>whnf
  all_goals exact wk
 generalize fP (n : QQ) = R at *
 refine aA.intro lay mixed Tryz.func236 (by kernel_rfl) rfl (by kernel_rfl) rfl fun hok=>?_
 (try dsimp only[aZ,aN]);(try dsimp only[ak]);conv=>whnf
 refine .pure _ _ ?_ ⟨rfl,rfl⟩ cs fun _=>?_
 ·exact aj _
 (try dsimp only[ak]);conv=>whnf
 refine .pure _ _ ?_ ⟨rfl,rfl⟩ Sv fun _=>?_
 ·exact aj _
 (try dsimp only[ak]);conv=>whnf
 refine .pure _ _ ?_ ⟨rfl,rfl⟩ cf fun _=>?_
 ·refine ⟨?_,fG _,fG _,trivial⟩
  show _ ↔ _
  simp
 (try dsimp only[ak]);conv=>whnf
 refine fM ?_;(conv=>whnf);refine ⟨?_,rfl⟩;conv=>whnf
 all_goals exact wk

theorem c_qNeg {p : QQ} {k : Nat} (hp : Sz p k) (hk : k <= 100000) : aA Tryz.prog 147 [(fP p).av] [] (fP (-p)).av []:=by
 have l:=H7 hp
 rw [<- Zw]
 exact c_pNeg _ (by omega) (by omega)

theorem Yh {p q : QQ} {k l : Nat} (hp : Sz p k) (hq : Sz q l) (hk : k <= 100000) (hl : l <= 100000) : aA Tryz.prog 146 [(fP p).av,(fP q).av] [] (fP (p + q)).av []:=by
 have l1:=H7 hp
 have l2:=H7 hq
 rw [<- add_can]
 exact c_pAdd _ _ (by omega) (by omega) (by omega) (by omega)

theorem Yg {p q : QQ} {k l : Nat} (hp : Sz p k) (hq : Sz q l) (hk : k <= 100000) (hl : l <= 100000) : aA Tryz.prog 272 [(fP p).av,(fP q).av] [] (fP (p * q)).av []:=by
 have l1:=H7 hp
 have l2:=H7 hq
 rw [<- Zy]
 exact Yl _ _ (by omega) (by omega) (by omega) (by omega)

theorem Yf {p q : QQ} {k l : Nat} (hp : Sz p k) (hq : Sz q l) (hk : k <= 100000) (hl : l <= 100000) : aA Tryz.prog 62 [(fP p).av,(fP q).av] [] (fP (p - q)).av []:=by
 have c1:=c_qNeg hq hl
 have c2:=Yh hp hq.neg hk hl
 rw [<- Rat.sub_eq_add_neg] at c2
 generalize fP (p - q) = R at *
 generalize fP (-q) = N at *
 refine aA.intro lay mixed Tryz.func62 (by kernel_rfl) rfl (by kernel_rfl) rfl fun hok=>?_
 (try dsimp only[aZ,aN]);(try dsimp only[ak]);conv=>whnf
 refine aO.auto (by kernel_rfl) ?_;conv=>whnf
 refine eU.pure _ _ ?_ ⟨rfl,rfl⟩ c1 ?_
 ·exact aj _
 (try dsimp only[ak]);conv=>whnf
 refine eU.pure _ _ ?_ ⟨rfl,rfl⟩ c2 ?_
 ·exact aj _
 (try dsimp only[ak]);conv=>whnf
 refine fM ?_;(conv=>whnf);refine ⟨?_,rfl⟩;conv=>whnf
 all_goals exact wk

def LX (p : List QQ) (f : (Int -> Bool) -> Bool) : Nat -> (Int -> Bool) -> QQ
 | 0,s=>if f s = true then 1 else 0
 | k + 1,s=>(1 - p.getD k 0) * LX p f k (dJ s k false) + p.getD k 0 * LX p f k (dJ s k true)

theorem iZ {p : List QQ} {f g : (Int -> Bool) -> Bool} (h : ∀ s,f s = g s) : ∀ (k : Nat) (s : Int -> Bool),LX p f k s = LX p g k s
 | 0,s=>by simp [LX,h]
 | k + 1,s=>by simp only [LX]; rw [iZ h k,iZ h k]

theorem qK {p : List QQ} {f : (Int -> Bool) -> Bool} {v : Int} {b : Bool} : ∀ (k : Nat) (s : Int -> Bool),(k : Int) <= v -> LX p f k (dJ s v b) = LX p (fun t=>f (dJ t v b)) k s
 | 0,s,_=>rfl
 | k + 1,s,hk=>by
   simp only [LX]
   rw [wQ (s:=s) (i:=v) (j:=(k : Int)) (a:=b) (b:=false) (by omega),wQ (s:=s) (i:=v) (j:=(k : Int)) (a:=b) (b:=true) (by omega),qK k (dJ s k false) (by omega),qK k (dJ s k true) (by omega)]

theorem F9 {p : List QQ} {f l h : (Int -> Bool) -> Bool} {v : Nat} (hf : ∀ s,f s = if s v then h s else l s) (hl : ∀ s b,l (dJ s v b) = l s) (hh : ∀ s b,h (dJ s v b) = h s) :
  ∀ (k : Nat) (s : Int -> Bool),v < k -> LX p f k s = (1 - p.getD v 0) * LX p l k s + p.getD v 0 * LX p h k s
 | 0,_,hk=>by omega
 | k + 1,s,hk=>by
   by_cases hv : v = k
   ·subst hv
    simp only [LX]
    have e1 : ∀ t,(fun t=>f (dJ t v false)) t = l t:=fun t=>by
     show f (dJ t v false) = l t
     rw [hf,show dJ t (v : Int) false v = false from if_pos rfl,hl]; simp
    have e2 : ∀ t,(fun t=>f (dJ t v true)) t = h t:=fun t=>by
     show f (dJ t v true) = h t
     rw [hf,show dJ t (v : Int) true v = true from if_pos rfl,hh]; simp
    rw [qK v s (Int.le_refl _),qK v s (Int.le_refl _),iZ e1,iZ e2]
    rw [qK (f:=l) v s (Int.le_refl _),qK (f:=l) v s (Int.le_refl _),qK (f:=h) v s (Int.le_refl _),qK (f:=h) v s (Int.le_refl _)]
    rw [iZ (f:=fun t=>l (dJ t v false)) (g:=l) (fun t=>hl t false),iZ (f:=fun t=>l (dJ t v true)) (g:=l) (fun t=>hl t true),iZ (f:=fun t=>h (dJ t v false)) (g:=h) (fun t=>hh t false),iZ (f:=fun t=>h (dJ t v true)) (g:=h) (fun t=>hh t true)]
    grind
   ·simp only [LX]
    have h1:=F9 (p:=p) hf hl hh k (dJ s k false) (by omega)
    have h2:=F9 (p:=p) hf hl hh k (dJ s k true) (by omega)
    rw [h1,h2]
    grind

theorem xA {p : List QQ} {b : Bool} : ∀ (k : Nat) (s : Int -> Bool),LX p (fun _=>b) k s = if b = true then 1 else 0
 | 0,s=>rfl
 | k + 1,s=>by simp only [LX]; rw [xA k,xA k]; grind

def Fg (v : List QQ) (r : Int) : QQ:=if r < 2 then ((r.toNat : Nat) : QQ) else v.getD (r - 2).toNat 0
def Ub (p v : List QQ) (x : Node) : QQ:=(1 - p.getD x.1.toNat 0) * Fg v x.2.1 + p.getD x.1.toNat 0 * Fg v x.2.2
def zF (p : List QQ) (ns : List Node) : List QQ:=ns.foldl (fun v x=>v ++ [Ub p v x]) []

theorem EZ (p : List QQ) (l : List Node) (x : Node) : zF p (l ++ [x]) = zF p l ++ [Ub p (zF p l) x]:=by
 unfold zF; rw [List.foldl_append]; rfl
theorem DW (p : List QQ) (l : List Node) : (zF p l).length = l.length:=by
 have key : ∀ (l : List Node) (v : List QQ),(l.foldl (fun v x=>v ++ [Ub p v x]) v).length = v.length + l.length:=by
  intro l
  induction l with
  | nil=>intro v; simp
  | cons x l ih=>intro v; rw [List.foldl_cons,ih]; simp; omega
 have:=key l []
 unfold zF
 simpa using this

theorem UN {T : Tb} {ns : List Node} (hns : ∀ (k : Nat) (h : k < ns.length),lF T ns k ns[k]) (d : Nat) : ∀ (r : Int),0 <= r -> r < 2 + (ns.length : Int) -> r <= d -> ∀ (s s' : Int -> Bool),(∀ j,0 <= j -> j < T.n -> lW T ns r <= T.pl j -> s j = s' j) -> ev ns s r = ev ns s' r:=by
 induction d with
 | zero =>
   intro r h0 h1 h2 s s' _
   obtain rfl : r = 0:=by omega
   rfl
 | succ d ih =>
   intro r h0 h1 h2 s s' hs
   by_cases hr2 : r < 2
   ·rcases (by omega : r = 0 \/ r = 1) with rfl | rfl <;> rfl
   obtain ⟨k,rfl⟩ : ∃ k : Nat,r = 2 + (k : Int):=⟨(r - 2).toNat,by omega⟩
   have hk : k < ns.length:=by omega
   have g:=hns k hk
   have e1:=fun s=>tV ns s hk g.lo.2 g.hi.2
   rw [e1,e1]
   have hl : lW T ns (2 + (k : Int)) = T.pl (ns[k]).1:=by
    unfold lW
    rw [if_neg (by omega),show (2 + (k : Int) - 2).toNat = k by omega,List.getD_eq_getElem?_getD,List.getElem?_eq_getElem hk]; rfl
   rw [hl] at hs
   have gl:=g.ZE
   have gh:=g.ZF
   rw [hs _ g.v.1 g.v.2 (Int.le_refl _)]
   rw [ih _ g.lo.1 (by have:=g.lo.2; omega) (by have:=g.lo.2; omega) s s' (fun j q1 q2 q3=>hs j q1 q2 (by omega)),
    ih _ g.hi.1 (by have:=g.hi.2; omega) (by have:=g.hi.2; omega) s s' (fun j q1 q2 q3=>hs j q1 q2 (by omega))]

theorem RZ {T : Tb} {ns : List Node} (hns : ∀ (k : Nat) (h : k < ns.length),lF T ns k ns[k]) {r i : Int} (h0 : 0 <= r) (h1 : r < 2 + (ns.length : Int)) (hl : T.pl i < lW T ns r) (s : Int -> Bool) (b : Bool) : ev ns (dJ s i b) r = ev ns s r:=by
 refine UN hns r.toNat r h0 h1 (by omega) _ _ fun j q1 q2 q3=>?_
 unfold dJ
 rw [if_neg (fun e=>by subst e; omega)]

theorem pr_ex {T : Tb} {ns : List Node} (hns : ∀ (k : Nat) (h : k < ns.length),lF T ns k ns[k]) (p : List QQ) {n : Nat} (hn : T.n = n) : ∀ (k : Nat),k <= ns.length -> ∀ (r : Int),0 <= r -> r < 2 + (k : Int) -> Fg (zF p (ns.take k)) r = LX p (fun s=>ev ns s r) n zE
 | 0,_,r,h0,h1=>by
   rcases (by omega : r = 0 \/ r = 1) with rfl | rfl
   ·rw [iZ (p:=p) (f:=fun s=>ev ns s 0) (g:=fun _=>false) (fun s=>rfl),xA]; rfl
   ·rw [iZ (p:=p) (f:=fun s=>ev ns s 1) (g:=fun _=>true) (fun s=>rfl),xA]; rfl
 | k + 1,hk,r,h0,h1=>by
   have ih:=pr_ex hns p hn k (by omega)
   have hlt : k < ns.length:=by omega
   have hl:=DW p (ns.take k)
   rw [List.length_take,Nat.min_eq_left (by omega)] at hl
   rw [List.take_succ_eq_append_getElem hlt,EZ]
   by_cases hr : r < 2 + (k : Int)
   ·rw [<- ih r h0 hr]
    unfold Fg
    split
    ·rfl
    ·rw [List.getD_eq_getElem?_getD,List.getElem?_append_left (by omega),<- List.getD_eq_getElem?_getD]
   ·obtain rfl : r = 2 + (k : Int):=by omega
    have g:=hns k hlt
    have e0 : Fg (zF p (ns.take k) ++ [Ub p (zF p (ns.take k)) ns[k]]) (2 + (k : Int)) = Ub p (zF p (ns.take k)) ns[k]:=by
     unfold Fg
     rw [if_neg (by omega),show (2 + (k : Int) - 2).toNat = k by omega,List.getD_eq_getElem?_getD,List.getElem?_append_right (by omega),hl,Nat.sub_self]; rfl
    rw [e0]
    unfold Ub
    rw [ih _ g.lo.1 g.lo.2,ih _ g.hi.1 g.hi.2]
    have e1:=fun s=>tV ns s hlt g.lo.2 g.hi.2
    have gl:=g.ZE
    have gh:=g.ZF
    have hlo:=RZ hns (i:=(ns[k]).1) g.lo.1 (by have:=g.lo.2; omega) gl
    have hhi:=RZ hns (i:=(ns[k]).1) g.hi.1 (by have:=g.hi.2; omega) gh
    have hv:=g.v
    generalize ns[k] = x at *
    obtain ⟨v,hvv⟩ : ∃ v : Nat,x.1 = v:=⟨x.1.toNat,by omega⟩
    rw [hvv] at hlo hhi hv
    rw [iZ (f:=fun s=>ev ns s (2 + (k : Int))) (g:=fun s=>if s v then ev ns s x.2.2 else ev ns s x.2.1) (fun s=>by rw [e1,hvv])]
    rw [F9 (v:=v) (fun s=>rfl) (fun s b=>hlo s b) (fun s b=>hhi s b) n zE (by omega),hvv,Int.toNat_natCast]

def szB (K : Nat) : Nat -> Nat
 | 0=>1
 | d + 1=>2 * szB K d + 2 * K + 10

theorem zf (K : Nat) : ∀ {a b : Nat},a <= b -> szB K a <= szB K b:=by
 intro a b h
 induction b with
 | zero=>obtain rfl : a = 0:=by omega
         exact Nat.le_refl _
 | succ b ih =>
   by_cases e : a = b + 1
   ·rw [e]; exact Nat.le_refl _
   ·have:=ih (by omega)
    show _ <= 2 * szB K b + 2 * K + 10
    omega

theorem Sz_zero : Sz 0 1:=⟨by show (wd 0).length <= 1; rw [iy]; simp,by show (wd 1).length <= 1; rw [oU (by omega) (by omega)]; simp⟩
theorem H6 : Sz 1 1:=⟨by show (wd 1).length <= 1; rw [oU (by omega) (by omega)]; simp,by show (wd 1).length <= 1; rw [oU (by omega) (by omega)]; simp⟩

theorem Sz.sub {p q : QQ} {k l : Nat} (hp : Sz p k) (hq : Sz q l) : Sz (p - q) (k + l + 1):=by
 rw [Rat.sub_eq_add_neg]; exact hp.add hq.neg

theorem ndQ_sz {q a b : QQ} {K k : Nat} (hq : Sz q K) (ha : Sz a k) (hb : Sz b k) : Sz ((1 - q) * a + q * b) (2 * k + 2 * K + 10) :=
 (((H6.sub hq).mul ha).add (hq.mul hb)).mono (by omega)

theorem pr_sz {T : Tb} {ns : List Node} (hns : ∀ (k : Nat) (h : k < ns.length),lF T ns k ns[k]) (hpl : ∀ i : Int,0 <= i -> i < T.n -> 0 <= T.pl i /\ T.pl i < T.n) {p : List QQ} {K : Nat} (hp : ∀ q ∈ p,Sz q K) (hpn : T.n = p.length) :
  ∀ (k : Nat),k <= ns.length -> ∀ (r : Int),0 <= r -> r < 2 + (k : Int) -> Sz (Fg (zF p (ns.take k)) r) (szB K (T.n - lW T ns r).toNat)
 | 0,_,r,h0,h1=>by
   have : ∀ d,1 <= szB K d:=fun d=>zf K (Nat.zero_le d)
   rcases (by omega : r = 0 \/ r = 1) with rfl | rfl
   ·exact Sz_zero.mono (this _)
   ·exact H6.mono (this _)
 | k + 1,hk,r,h0,h1=>by
   have ih:=pr_sz hns hpl hp hpn k (by omega)
   have hlt : k < ns.length:=by omega
   have hl:=DW p (ns.take k)
   rw [List.length_take,Nat.min_eq_left (by omega)] at hl
   rw [List.take_succ_eq_append_getElem hlt,EZ]
   by_cases hr : r < 2 + (k : Int)
   ·have:=ih r h0 hr
    have e : Fg (zF p (ns.take k) ++ [Ub p (zF p (ns.take k)) ns[k]]) r = Fg (zF p (ns.take k)) r:=by
     unfold Fg
     split
     ·rfl
     ·rw [List.getD_eq_getElem?_getD,List.getElem?_append_left (by omega),<- List.getD_eq_getElem?_getD]
    rw [e]; exact this
   ·obtain rfl : r = 2 + (k : Int):=by omega
    have g:=hns k hlt
    have e0 : Fg (zF p (ns.take k) ++ [Ub p (zF p (ns.take k)) ns[k]]) (2 + (k : Int)) = Ub p (zF p (ns.take k)) ns[k]:=by
     unfold Fg
     rw [if_neg (by omega),show (2 + (k : Int) - 2).toNat = k by omega,List.getD_eq_getElem?_getD,List.getElem?_append_right (by omega),hl,Nat.sub_self]; rfl
    rw [e0]
    have hl : lW T ns (2 + (k : Int)) = T.pl (ns[k]).1:=by
     unfold lW
     rw [if_neg (by omega),show (2 + (k : Int) - 2).toNat = k by omega,List.getD_eq_getElem?_getD,List.getElem?_eq_getElem hlt]; rfl
    have gl:=g.ZE
    have gh:=g.ZF
    have hv:=g.v
    have s1:=ih _ g.lo.1 g.lo.2
    have s2:=ih _ g.hi.1 g.hi.2
    have hp0:=hpl _ hv.1 hv.2
    rw [hl]
    obtain ⟨d,hd⟩ : ∃ d,(T.n - T.pl (ns[k]).1).toNat = d + 1:=⟨(T.n - T.pl (ns[k]).1).toNat - 1,by omega⟩
    rw [hd]
    have q : Sz (p.getD (ns[k]).1.toNat 0) K:=by
     have hj : (ns[k]).1.toNat < p.length:=by omega
     rw [List.getD_eq_getElem?_getD,List.getElem?_eq_getElem hj]
     exact hp _ (List.getElem_mem hj)
    exact ndQ_sz q (s1.mono (zf K (by omega))) (s2.mono (zf K (by omega)))

abbrev qL (v : List QQ) : AV:=.sl 3 (v.map fun q=>(fP q).av) .no

theorem X8 (v : List QQ) (r : Int) (h0 : 0 <= r) (h1 : r < 2 + (v.length : Int)) : aA Tryz.prog 144 [qL v,.int .i64 r] [] (fP (Fg v r)).av []:=by
 by_cases hr : r < 2
 ·have c:=c_pOf r.toNat (by omega)
  rw [show ((r.toNat : Nat) : Int) = r by omega] at c
  have e : Fg v r = ((r.toNat : Nat) : QQ):=if_pos hr
  rw [<- e] at c
  generalize Fg v r = R at *
  refine aA.intro lay mixed Tryz.func144 (by kernel_rfl) rfl (by kernel_rfl) rfl fun hok=>?_
  (try dsimp only[aZ,aN]);(try dsimp only[ak]);conv=>whnf
  refine And.intro (fun _=>?_) (fun h=>absurd hr h)
  (try dsimp only[ak]);conv=>whnf
  refine .pure _ _ ?_ ⟨rfl,rfl⟩ c fun _=>?_
  ·exact aj _
  (try dsimp only[ak]);conv=>whnf
  refine fM ?_;(conv=>whnf);refine ⟨?_,rfl⟩;conv=>whnf
  all_goals exact wk
 ·have e : Fg v r = v.getD (r - 2).toNat 0:=if_neg hr
  rw [e]
  refine aA.intro lay mixed Tryz.func144 (by kernel_rfl) rfl (by kernel_rfl) rfl fun hok=>?_
  have hvl : v.length <= 9223372036854775807:=by have:=hok.1.1; simpa [maxL] using this
  (try dsimp only[aZ,aN]);(try dsimp only[ak]);conv=>whnf
  refine And.intro (fun h=>absurd h hr) (fun _=>?_)
  (try dsimp only[ak]);conv=>whnf
  refine ⟨bD (by omega) (by omega),?_⟩
  (try dsimp only[ak]);conv=>whnf
  refine dI (0 : QQ) ⟨by omega,by omega⟩ ?_
  generalize v.getD (r - 2).toNat 0 = R at *
  (try dsimp only[ak]);conv=>whnf
  refine fM ?_;(conv=>whnf);refine ⟨?_,rfl⟩;conv=>whnf
  all_goals exact wk

theorem c_snode (p v : List QQ) (x : Node) (hx : 0 <= x.1 /\ x.1 < (p.length : Int)) (hl : 0 <= x.2.1 /\ x.2.1 < 2 + (v.length : Int)) (hh : 0 <= x.2.2 /\ x.2.2 < 2 + (v.length : Int)) {K k : Nat} (hK : K <= 30000) (hk : k <= 30000)
  (hp : ∀ q ∈ p,Sz q K) (s1 : Sz (Fg v x.2.1) k) (s2 : Sz (Fg v x.2.2) k) : aA Tryz.prog 237 [Rw x,qL p,qL v] [] (fP (Ub p v x)).av []:=by
 have c1:=X8 v x.2.1 hl.1 hl.2
 have c2:=X8 v x.2.2 hh.1 hh.2
 have cO:=c_pOf 1 (by omega)
 have hj : x.1.toNat < p.length:=by omega
 have hq : Sz (p.getD x.1.toNat 0) K:=by
  rw [List.getD_eq_getElem?_getD,List.getElem?_eq_getElem hj]
  exact hp _ (List.getElem_mem hj)
 unfold Ub
 obtain ⟨xv,xl,xh⟩:=x
 dsimp only at *
 generalize Fg v xl = a at *
 generalize Fg v xh = b at *
 have e1 : ((1 : Nat) : QQ) = 1:=rfl
 rw [e1] at cO
 generalize hqq : p.getD xv.toNat 0 = q at *
 have m1:=Yf (p:=1) H6 hq (by omega) (by omega)
 have m2:=Yg (H6.sub hq) s1 (by omega) (by omega)
 have m3:=Yg hq s2 (by omega) (by omega)
 have m4:=Yh ((H6.sub hq).mul s1) (hq.mul s2) (by omega) (by omega)
 generalize fP ((1 - q) * a + q * b) = R at *
 generalize fP (q * b) = R1 at *
 generalize fP ((1 - q) * a) = R2 at *
 generalize fP (1 - q) = R3 at *
 generalize fP 1 = R4 at *
 refine aA.intro lay mixed Tryz.func237 (by kernel_rfl) rfl (by kernel_rfl) rfl fun hok=>?_
 (try dsimp only[aZ,aN]);(try dsimp only[ak]);conv=>whnf
 refine dI (0 : QQ) ⟨by omega,by omega⟩ ?_
 rw [hqq]
 generalize fP q = Q at *
 generalize fP a = A at *
 generalize fP b = B at *
 (try dsimp only[ak]);conv=>whnf
 refine aO.auto (by kernel_rfl) ?_;conv=>whnf
 refine eU.pure _ _ ?_ ⟨rfl,rfl⟩ cO ?_
 ·exact aj _
 conv=>whnf
 refine eU.pure _ _ ?_ ⟨rfl,rfl⟩ m1 ?_
 ·exact aj _
 conv=>whnf
 refine eU.pure _ _ ?_ ⟨rfl,rfl⟩ c1 ?_
 ·exact aj _
 conv=>whnf
 refine eU.pure _ _ ?_ ⟨rfl,rfl⟩ m2 ?_
 ·exact aj _
 conv=>whnf
 refine eU.pure _ _ ?_ ⟨rfl,rfl⟩ c2 ?_
 ·exact aj _
 conv=>whnf
 refine eU.pure _ _ ?_ ⟨rfl,rfl⟩ m3 ?_
 ·exact aj _
 conv=>whnf
 refine eU.pure _ _ ?_ ⟨rfl,rfl⟩ m4 ?_
 ·exact aj _
 conv=>whnf
 refine fM ?_;(conv=>whnf);refine ⟨?_,rfl⟩;conv=>whnf
 all_goals exact wk

theorem UZ (o : List Int) (ns : List Node) (root : Int) (p : List QQ) {K B : Nat} (hK : K <= 30000) (hB : B <= 30000) (hp : ∀ q ∈ p,Sz q K) (hn : ns.length <= 5000)
  (hns : ∀ (k : Nat) (h : k < ns.length),0 <= (ns[k]).1 /\ (ns[k]).1 < (p.length : Int) /\ 0 <= (ns[k]).2.1 /\ (ns[k]).2.1 < 2 + (k : Int) /\ 0 <= (ns[k]).2.2 /\ (ns[k]).2.2 < 2 + (k : Int))
  (hs : ∀ (k : Nat),k <= ns.length -> ∀ r : Int,0 <= r -> r < 2 + (k : Int) -> Sz (Fg (zF p (ns.take k)) r) B) :
  aA Tryz.prog 145 [yg o ns root,qL p] [] (qL (zF p ns)) []:=by
 refine aA.intro lay mixed Tryz.func145 (by kernel_rfl) rfl (by kernel_rfl) rfl fun hok=>?_
 (try dsimp only[aZ,aN]);(try dsimp only[ak]);conv=>whnf
 rw [List.length_map]
 refine ⟨⟨by omega,by omega,by show (ns.length : Int) * ((56 : Nat) : Int) <= 281474976710656; omega,by omega⟩,.wr ?_⟩
 rw [Int.toNat_natCast]
 (try dsimp only[ak]);conv=>whnf
 refine aK.of <| (aB.inv (.keep 5 1 0 ns.length 3 [] rfl rfl (Nat.le_refl _) (.refl _ _)) (fun k : Nat=>k <= ns.length) (fun k=>[(15,.int .i64 k),(5,.sl 3 ((zF p (ns.take k)).map fun q=>(fP q).av) (.own 2))]) (fun k=>[(2,.tok 3 k),(1,.gone),(0,.box (yg o ns root))]) (fun k=>ns.length - k) 0 (Nat.zero_le _) ?_ ?_ ?_)
 ·exact fun _=>rfl
 ·refine ⟨?_,.mk ?_ (by simp [ay])⟩
  ·all_goals exact wk
  ·all_goals exact wk
 intro k hk _
 have hl:=DW p (ns.take k)
 rw [List.length_take,Nat.min_eq_left hk] at hl
 (try dsimp only[ak]);conv=>whnf
 refine And.intro (fun g=>?_) (fun g=>?_)
 ·have hlt : k < ns.length:=by simpa using g
  obtain ⟨q1,q2,q3,q4,q5,q6⟩:=hns k hlt
  have c:=c_snode p (zF p (ns.take k)) ns[k] ⟨q1,q2⟩ ⟨q3,by omega⟩ ⟨q5,by omega⟩ hK hB hp (hs k hk _ q3 q4) (hs k hk _ q5 q6)
  have hsn : zF p (ns.take (k + 1)) = zF p (ns.take k) ++ [Ub p (zF p (ns.take k)) ns[k]]:=by rw [List.take_succ_eq_append_getElem hlt,EZ]
  generalize zF p (ns.take k) = v at *
  (try dsimp only[ak]);conv=>whnf
  refine jq hlt ?_
  generalize ns[k] = x at *
  generalize Ub p v x = y at *
  (try dsimp only[ak]);conv=>whnf
  refine .pure _ _ ?_ ⟨rfl,rfl⟩ c fun _=>?_
  ·all_goals exact wk
  (try dsimp only[ak]);conv=>whnf
  refine ⟨by rw [List.length_map,hl],.mk (by simp [maxL]; omega) (by simp; omega) ?_⟩
  (try dsimp only[ak]);conv=>whnf
  refine zA ?_;conv=>whnf
  refine ⟨k + 1,?_,?_,?_⟩
  ·exact hlt
  ·rw [hsn]
   refine ⟨?_,.mk ?_ (by simp [ay])⟩
   ·repeat' first|exact rfl|exact trivial|exact wR|exact lR _|apply aI
    all_goals first | (show bW _ (List.map _ (_ ++ [_])); rw [List.map_append]; exact aF _) | skip
   ·repeat' first|exact rfl|exact trivial|exact wR|exact lR _|apply aI
    all_goals first | (simp [hl]; done) | skip
  ·omega
 have hk : k = ns.length:=by (have : ¬ k < ns.length:=by simpa using g); omega
 subst hk
 rw [List.take_length]
 (try dsimp only[ak]);conv=>whnf
 refine fM ?_;(conv=>whnf);refine ⟨?_,rfl⟩;conv=>whnf
 all_goals exact wk

def Gv (p : List Rat) (v : Int) : Int:=if (p.length : Int) ≠ v then 11 else if p.any (fun x=>!xK x) = true then 3 else 0

def Lens (p : List Rat) : Prop:=∀ x ∈ p,x.num.length <= 90000 /\ x.den.length <= 90000

theorem Qo (x : Rat) (hx : AZ x) : aA Tryz.prog 142 [x.av] [] (.bool (!xK x)) []:=by
 refine aA.intro lay mixed Tryz.func142 (by kernel_rfl) rfl (by kernel_rfl) rfl fun hok=>?_
 (try dsimp only[aZ,aN]);(try dsimp only[ak]);conv=>whnf
 refine .pure _ _ ?_ ⟨rfl,rfl⟩ hx.p fun _=>?_
 ·exact aj _
 (try dsimp only[ak]);conv=>whnf
 refine fM ?_;(conv=>whnf);refine ⟨?_,rfl⟩;conv=>whnf
 all_goals exact wk

theorem Ot (p : List Rat) (v : Int) (hl : Lens p) (R : AV) (hR : R = x9 (Gv p v)) : aA Tryz.prog 60 [.sl 3 (p.map Rat.av) .no,.int .i64 v] [] R []:=by
 have cc:=IE p 142 [] (fun x=>!xK x) [] fun x hx=>Qo x (BA x (by have:=hl x hx; omega) (by have:=hl x hx; omega))
 refine aA.intro lay mixed Tryz.func60 (by kernel_rfl) rfl (by kernel_rfl) rfl fun hok=>?_
 (try dsimp only[aZ,aN]);(try dsimp only[ak]);conv=>whnf
 rw [List.length_map]
 refine And.intro (fun g=>?_) (fun g=>?_)
 ·obtain rfl : R = .jm 111 (.int .i64 11):=by rw [hR,show Gv p v = 11 from if_pos g]; rfl
  (try dsimp only[ak]);conv=>whnf
  refine fM ?_;(conv=>whnf);refine ⟨?_,rfl⟩;conv=>whnf
  all_goals exact wk
 have e : Gv p v = if p.any (fun x=>!xK x) = true then 3 else 0:=if_neg g
 (try dsimp only[ak]);conv=>whnf
 refine .gen _ _ cc fun _=>?_
 (try dsimp only[ak]);conv=>whnf
 refine And.intro (fun g2=>?_) (fun g2=>?_)
 ·obtain rfl : R = .jm 111 (.int .i64 3):=by rw [hR,e,if_pos g2]; rfl
  (try dsimp only[ak]);conv=>whnf
  refine fM ?_;(conv=>whnf);refine ⟨?_,rfl⟩;conv=>whnf
  all_goals exact wk
 ·obtain rfl : R = .dN:=by rw [hR,e,if_neg (by rw [g2]; simp)]; rfl
  (try dsimp only[ak]);conv=>whnf
  refine fM ?_;(conv=>whnf);refine ⟨?_,rfl⟩;conv=>whnf
  all_goals exact wk

def DC (f : Fo) (p : List QQ) : QQ:=LX p (fun t=>(jh (l0 f.vars.toNat t) f.nodes).getD f.top.toNat false) f.vars.toNat zE

theorem chkP_ok {p : List Rat} {v : Int} (h : Gv p v = 0) (hw : ∀ x ∈ p,Ws x.num /\ Ws x.den) : (p.length : Int) = v /\ p.map Rat.av = (p.map qv).map fun q=>(fP q).av:=by
 unfold Gv at h
 split at h
 ·cases h
 rename_i h1
 split at h
 ·cases h
 rename_i h2
 refine ⟨by simpa using h1,?_⟩
 rw [List.map_map]
 refine List.map_congr_left fun x hx=>?_
 have : xK x = true:=by
  cases hp : xK x with
  | true=>rfl
  | false=>exact absurd (List.any_eq_true.2 ⟨x,hx,by simp [hp]⟩) h2
 unfold xK at this
 simp only [Bool.and_eq_true] at this
 have hv:=TA this.1.1 (hw x hx).1 (hw x hx).2
 show x.av = (fP (qv x)).av
 rw [<- hv]

theorem Ya (f : Fo) (h : qB f) (h7 : f.vars <= 7) (p : List Rat) (hl : Lens p) (hc : Gv p f.vars = 0) (hw : ∀ x ∈ p,Ws x.num /\ Ws x.den) {K : Nat} (hK : K <= 100) (hs : ∀ x ∈ p,Sz (qv x) K) :
  aA Tryz.prog 61 [f.av,.sl 3 (p.map Rat.av) .no] [] (.dV [(fP (DC f (p.map qv))).av,.dN]) [] /\ Sz (DC f (p.map qv)) 30000:=by
 have hvs:=h.vars
 have cc:=lM f h
 have cs:=Ot p f.vars hl _ rfl
 rw [hc,gu] at cs
 obtain ⟨hpl,hpe⟩:=chkP_ok hc hw
 rw [hpe] at cs ⊢
 have cd:=GI f h
 have hp:=xC f h
 generalize uV f = o at *
 obtain ⟨ns,x,cb,g,x0,x1,hv,hn⟩:=GK (N:=7) (by omega) f h (by omega) hp
 have hT0 : bJ (Tb.new o):=Fj hp (by omega)
 have hn0 : (Tb.new o).n = (f.vars.toNat : Nat):=by show (o.length : Int) = _; rw [hp.len]
 have hql : (p.map qv).length = p.length:=List.length_map ..
 have hsz : ∀ q ∈ p.map qv,Sz q K:=fun q hq=>by
  obtain ⟨y,hy,rfl⟩:=List.mem_map.1 hq
  exact hs y hy
 generalize p.map qv = P at *
 have sz:=pr_sz g (fun i h0 h1=>by have:=hT0.Y4 i h0 h1; exact ⟨this.1,this.2.1⟩) hsz (by omega)
 have hB : szB K 7 <= 30000:=by simp only [szB]; omega
 have sz2 : ∀ (k : Nat),k <= ns.length -> ∀ r : Int,0 <= r -> r < 2 + (k : Int) -> Sz (Fg (zF P (ns.take k)) r) (szB K 7):=(fun k hk r r0 r1=>(sz k hk r r0 r1).mono (zf K (by
   have hlv : 0 <= lW (Tb.new o) ns r:=by
    unfold lW
    split
    ·omega
    ·rename_i h2
     have hj : (r - 2).toNat < ns.length:=by omega
     have gj:=g _ hj
     have : ns.getD (r - 2).toNat default = ns[(r - 2).toNat]:=by rw [List.getD_eq_getElem?_getD,List.getElem?_eq_getElem hj]; rfl
     rw [this]
     exact (hT0.Y4 _ gj.v.1 gj.v.2).1
   omega)))
 have cv:=UZ o ns x P (K:=K) (B:=szB K 7) (by omega) hB hsz (by omega) (fun k hk=>by
  have gk:=g k hk
  have:=gk.v
  exact ⟨gk.v.1,by omega,gk.lo.1,gk.lo.2,gk.hi.1,gk.hi.2⟩) sz2
 have hpv:=DW P ns
 have co:=X8 (zF P ns) x x0 (by omega)
 have hex:=pr_ex g P hn0 ns.length (Nat.le_refl _) x x0 x1
 rw [List.take_length] at hex
 have ht : Fg (zF P ns) x = DC f P:=by
  rw [hex]
  exact iZ (fun s=>hv s) _ _
 rw [ht] at co
 have hsT:=sz2 ns.length (Nat.le_refl _) x x0 x1
 rw [List.take_length,ht] at hsT
 refine ⟨?_,hsT.mono hB⟩
 generalize fP (DC f P) = R at *
 generalize zF P ns = V at *
 refine aA.intro lay mixed Tryz.func61 (by kernel_rfl) rfl (by kernel_rfl) rfl fun hok=>?_
 (try dsimp only[aZ,aN]);(try dsimp only[ak]);conv=>whnf
 refine .pure _ _ ?_ ⟨rfl,rfl⟩ cc fun _=>?_
 ·exact aj _
 (try dsimp only[ak]);conv=>whnf
 refine .pure _ _ ?_ ⟨rfl,rfl⟩ cs fun _=>?_
 ·exact aj _
 (try dsimp only[ak]);conv=>whnf
 refine .pure _ _ ?_ ⟨rfl,rfl⟩ cd fun _=>?_
 ·exact aj _
 (try dsimp only[ak]);conv=>whnf
 refine .pure _ _ ?_ ⟨rfl,rfl⟩ cb fun _=>?_
 ·exact aj _
 (try dsimp only[ak]);conv=>whnf
 refine aO.auto (by kernel_rfl) ?_;conv=>whnf
 refine eU.pure _ _ ?_ ⟨rfl,rfl⟩ cv ?_
 ·exact aj _
 conv=>whnf
 refine eU.pure _ _ ?_ ⟨rfl,rfl⟩ co ?_
 ·exact aj _
 conv=>whnf
 refine fM ?_;(conv=>whnf);refine ⟨?_,rfl⟩;conv=>whnf
 all_goals exact wk

def MP (a b : Fo) (p : List Rat) : Int:=if eP a b ≠ 0 then eP a b else Gv p a.vars
def shR (a b : Fo) (p : List Rat) : Rat:=if MP a b p ≠ 0 then ⟨false,[],[]⟩ else fP (DC b (p.map qv) - DC a (p.map qv))

structure PsOk (p : List Rat) (K : Nat) : Prop where
 lens : Lens p
 ws : ∀ x ∈ p,Ws x.num /\ Ws x.den
 sz : ∀ x ∈ p,Sz (qv x) K

theorem c_Shift (a b : Fo) (p : List Rat) {K : Nat} (hK : K <= 100) (hp : PsOk p K) (h7 : eP a b = 0 -> a.vars <= 7) (R : AV) (hR : R = .dV [(shR a b p).av,x9 (MP a b p)]) :
  aA Tryz.prog 18 [a.av,b.av,.sl 3 (p.map Rat.av) .no] [] R []:=by
 have cc:=uj a b _ rfl
 have cs:=Ot p a.vars hp.lens _ rfl
 by_cases h1 : eP a b ≠ 0
 ·have e1 : MP a b p = eP a b:=if_pos h1
  have e2 : shR a b p = ⟨false,[],[]⟩:=if_pos (by rw [e1]; exact h1)
  rw [e1,e2] at hR
  rw [jB h1] at hR cc
  generalize eP a b = E at *
  subst hR
  refine aA.intro lay mixed Tryz.func18 (by kernel_rfl) rfl (by kernel_rfl) rfl fun hok=>?_
  (try dsimp only[aZ,aN]);(try dsimp only[ak]);conv=>whnf
  refine .pure _ _ ?_ ⟨rfl,rfl⟩ cc fun _=>?_
  ·exact aj _
  (try dsimp only[ak]);conv=>whnf
  refine fM ?_;(conv=>whnf);refine ⟨?_,rfl⟩;conv=>whnf
  all_goals exact wk
 have h0 : eP a b = 0:=by simpa using h1
 have e1 : MP a b p = Gv p a.vars:=if_neg h1
 rw [h0,gu] at cc
 by_cases h2 : Gv p a.vars ≠ 0
 ·have e2 : shR a b p = ⟨false,[],[]⟩:=if_pos (by rw [e1]; exact h2)
  rw [e1,e2] at hR
  rw [jB h2] at hR cs
  generalize Gv p a.vars = E at *
  subst hR
  refine aA.intro lay mixed Tryz.func18 (by kernel_rfl) rfl (by kernel_rfl) rfl fun hok=>?_
  (try dsimp only[aZ,aN]);(try dsimp only[ak]);conv=>whnf
  refine .pure _ _ ?_ ⟨rfl,rfl⟩ cc fun _=>?_
  ·exact aj _
  (try dsimp only[ak]);conv=>whnf
  refine .pure _ _ ?_ ⟨rfl,rfl⟩ cs fun _=>?_
  ·exact aj _
  (try dsimp only[ak]);conv=>whnf
  refine fM ?_;(conv=>whnf);refine ⟨?_,rfl⟩;conv=>whnf
  all_goals exact wk
 have h20 : Gv p a.vars = 0:=by simpa using h2
 have e2 : shR a b p = fP (DC b (p.map qv) - DC a (p.map qv)):=if_neg (by rw [e1]; exact h2)
 rw [e1,e2,h20,gu] at hR
 rw [h20,gu] at cs
 obtain ⟨ha,hb,hab⟩:=lZ h0
 obtain ⟨ta,sa⟩:=Ya a ha (h7 h0) p hp.lens h20 hp.ws hK hp.sz
 obtain ⟨tb,sb⟩:=Ya b hb (by have:=h7 h0; omega) p hp.lens (by rw [<- hab]; exact h20) hp.ws hK hp.sz
 have cS:=Yf sb sa (by omega) (by omega)
 generalize fP (DC b (p.map qv) - DC a (p.map qv)) = X at *
 generalize fP (DC b (p.map qv)) = Y at *
 generalize fP (DC a (p.map qv)) = Z at *
 subst hR
 refine aA.intro lay mixed Tryz.func18 (by kernel_rfl) rfl (by kernel_rfl) rfl fun hok=>?_
 (try dsimp only[aZ,aN]);(try dsimp only[ak]);conv=>whnf
 refine .pure _ _ ?_ ⟨rfl,rfl⟩ cc fun _=>?_
 ·exact aj _
 (try dsimp only[ak]);conv=>whnf
 refine .pure _ _ ?_ ⟨rfl,rfl⟩ cs fun _=>?_
 ·exact aj _
 (try dsimp only[ak]);conv=>whnf
 refine .pure _ _ ?_ ⟨rfl,rfl⟩ ta fun _=>?_
 ·exact aj _
 (try dsimp only[ak]);conv=>whnf
 refine .pure _ _ ?_ ⟨rfl,rfl⟩ tb fun _=>?_
 ·exact aj _
 (try dsimp only[ak]);conv=>whnf
 refine .pure _ _ ?_ ⟨rfl,rfl⟩ cS fun _=>?_
 ·exact aj _
 (try dsimp only[ak]);conv=>whnf
 refine fM ?_;(conv=>whnf);refine ⟨?_,rfl⟩;conv=>whnf
 all_goals exact wk

def cmpR (a b : Fo) : AV:=if eP a b ≠ 0 then zDf else (l7 a b).av

theorem Qv (a b : Fo) (h7 : eP a b = 0 -> a.vars <= 7) (R : AV) (hR : R = .dV [cmpR a b,x9 (eP a b)]) : aA Tryz.prog 14 [a.av,b.av] [] R []:=by
 by_cases h1 : eP a b ≠ 0
 ·have cc:=uj a b _ rfl
  rw [show cmpR a b = zDf from if_pos h1] at hR
  rw [jB h1] at hR cc
  generalize eP a b = E at *
  subst hR
  refine aA.intro lay mixed Tryz.func14 (by kernel_rfl) rfl (by kernel_rfl) rfl fun hok=>?_
  (try dsimp only[aZ,aN]);(try dsimp only[ak]);conv=>whnf
  refine .pure _ _ ?_ ⟨rfl,rfl⟩ cc fun _=>?_
  ·exact aj _
  (try dsimp only[ak]);conv=>whnf
  refine fM ?_;(conv=>whnf);refine ⟨?_,rfl⟩;conv=>whnf
  all_goals exact wk
 ·have h0 : eP a b = 0:=by simpa using h1
  rw [show cmpR a b = (l7 a b).av from if_neg h1,h0,gu] at hR
  subst hR
  exact JE a b h0 (h7 h0)

















theorem Zg (a : Rat) : aA Tryz.prog 20 [a.av,a.av] [] .tt []:=(c_ratEq a a).weak (R':=.tt) (by show decide _ = true; simp)

theorem Yd (neg : Bool) (x y : List Int) (wx : Ws x) (_ : Ws y) (hn : x.length <= 300000) (hd : y.length <= 300000) (h0 : val y ≠ 0) : aA Tryz.prog 70 [.bool neg,wL x,wL y] [] (.dV [(nX neg (val x) (val y)).av,.int .i64 0]) []:=by
 have hgx:=iW wx
 have cb:=Sm x (by omega)
 have cd:=Sm y (by omega)
 obtain ⟨n,hvn⟩ : ∃ n,val x = n:=⟨_,rfl⟩
 obtain ⟨d,hvd⟩ : ∃ d,val y = d:=⟨_,rfl⟩
 rw [hvn] at cb hgx ⊢
 rw [hvd] at cd h0 ⊢
 have hbd : jy d ≠ 0:=fun h=>h0 (rX.1 h)
 by_cases hz : n = 0
 ·have hb : jy n = 0:=rX.2 hz
  rw [hb] at cb
  rw [show nX neg n d = ⟨false,[],[]⟩ from if_pos hz]
  refine aA.intro lay mixed Tryz.func70 (by kernel_rfl) rfl (by kernel_rfl) rfl fun hok=>?_
  (try dsimp only[aZ,aN]);(try dsimp only[ak]);conv=>whnf
  refine .pure _ _ ?_ ⟨rfl,rfl⟩ cd fun _=>?_
  ·exact aj _
  (try dsimp only[ak]);conv=>whnf
  refine And.intro (fun h=>by exfalso; omega) (fun _=>?_)
  (try dsimp only[ak]);conv=>whnf
  refine .pure _ _ ?_ ⟨rfl,rfl⟩ cb fun _=>?_
  ·exact aj _
  (try dsimp only[ak]);conv=>whnf
  refine And.intro (fun _=>?_) (fun h=>absurd rfl h)
  (try dsimp only[ak]);conv=>whnf
  refine fM ?_;(conv=>whnf);refine ⟨?_,rfl⟩;conv=>whnf
  all_goals exact wk
 have hb : jy n ≠ 0:=fun h=>hz (rX.1 h)
 have hg0 : Nat.gcd n d ≠ 0:=by
  have:=Nat.gcd_pos_of_pos_left d (show 0 < n by omega)
  omega
 have hgn : Nat.gcd n d <= n:=Nat.gcd_le_left d (by omega)
 have hgl:=dY hgn
 have cg:=c_rGcd x y (by omega) (by omega)
 rw [hvn,hvd] at cg
 have d1:=Qp x (wd (Nat.gcd n d)) (by omega) (by omega) (by rw [bC]; exact hg0)
 have d2:=Qp y (wd (Nat.gcd n d)) (by omega) (by omega) (by rw [bC]; exact hg0)
 rw [hvn,bC] at d1
 rw [hvd,bC] at d2
 rw [show nX neg n d = ⟨neg,wd (n / Nat.gcd n d),wd (d / Nat.gcd n d)⟩ from if_neg hz]
 generalize Nat.gcd n d = g at *
 refine aA.intro lay mixed Tryz.func70 (by kernel_rfl) rfl (by kernel_rfl) rfl fun hok=>?_
 (try dsimp only[aZ,aN]);(try dsimp only[ak]);conv=>whnf
 refine .pure _ _ ?_ ⟨rfl,rfl⟩ cd fun _=>?_
 ·exact aj _
 (try dsimp only[ak]);conv=>whnf
 refine And.intro (fun h=>by exfalso; omega) (fun _=>?_)
 (try dsimp only[ak]);conv=>whnf
 refine .pure _ _ ?_ ⟨rfl,rfl⟩ cb fun _=>?_
 ·exact aj _
 (try dsimp only[ak]);conv=>whnf
 refine And.intro (fun h=>by exfalso; omega) (fun _=>?_)
 (try dsimp only[ak]);conv=>whnf
 refine .pure _ _ ?_ ⟨rfl,rfl⟩ cg fun _=>?_
 ·exact aj _
 (try dsimp only[ak]);conv=>whnf
 refine .pure _ _ ?_ ⟨rfl,rfl⟩ d1 fun _=>?_
 ·exact aj _
 (try dsimp only[ak]);conv=>whnf
 refine .pure _ _ ?_ ⟨rfl,rfl⟩ d2 fun _=>?_
 ·exact aj _
 (try dsimp only[ak]);conv=>whnf
 refine fM ?_;(conv=>whnf);refine ⟨?_,rfl⟩;conv=>whnf
 all_goals exact wk

theorem Zj : aA Tryz.prog 124 [.int .i64 2] [] (wL [2,0]) []:=by
 refine aA.intro lay mixed Tryz.func124 (by kernel_rfl) rfl (by kernel_rfl) rfl fun hok=>?_
 conv=>whnf
 (repeat' ((first|refine aK.step 300 ?_|refine zY ?_|refine zN ?_|refine zI ?_|refine zD ?_|refine dh.mk ⟨_,⟨by decide +kernel,rfl⟩,?_⟩|refine zC ?_|refine zT ?_|refine zU ?_|refine fE.mk (by decide +kernel) (by decide +kernel) ?_|refine bU.wr ?_|refine aO.auto (by kernel_rfl) ?_);(conv=>whnf)))
 refine fM ?_;(conv=>whnf);refine ⟨?_,rfl⟩;conv=>whnf
 exact ⟨rfl,⟨rfl,by decide +kernel⟩,⟨rfl,by decide +kernel⟩,trivial⟩

theorem r_half : aA Tryz.prog 46 [.int .i64 1,.int .i64 2] [] (.dV [(fP (mkRat 1 2)).av,.int .i64 0]) []:=by
 have cf:=Yd false [1,0] [2,0] (by intro x hx; simp at hx; rcases hx with rfl | rfl <;> omega) (by intro x hx; simp at hx; rcases hx with rfl | rfl <;> omega) (by simp) (by simp) (by decide)
 rw [mZ _ _ _ (by decide),show mkRat (DF false (val [1,0])) (val [2,0]) = mkRat 1 2 from rfl] at cf
 generalize fP (mkRat 1 2) = R at *
 refine aA.intro lay mixed Tryz.func46 (by kernel_rfl) rfl (by kernel_rfl) rfl fun hok=>?_
 (try dsimp only[aZ,aN]);(try dsimp only[ak]);conv=>whnf
 refine .pure _ _ ?_ ⟨rfl,rfl⟩ Px fun _=>?_
 ·exact aj _
 (try dsimp only[ak]);conv=>whnf
 refine .pure _ _ ?_ ⟨rfl,rfl⟩ Zj fun _=>?_
 ·exact aj _
 (try dsimp only[ak]);conv=>whnf
 refine .pure _ _ ?_ ⟨rfl,rfl⟩ cf fun _=>?_
 ·refine ⟨?_,fG _,fG _,trivial⟩
  first | (show _ ↔ _; decide) | rfl
 (try dsimp only[ak]);conv=>whnf
 refine fM ?_;(conv=>whnf);refine ⟨?_,rfl⟩;conv=>whnf
 all_goals exact wk

abbrev NH (k : Int) : Fo:=⟨2,[⟨k,0,[0,1]⟩],2⟩

theorem Az (k : Int) : aA Tryz.prog 47 [.int .i64 k] [] (NH k).av []:=by
 refine aA.intro lay mixed Tryz.func47 (by kernel_rfl) rfl (by kernel_rfl) rfl fun hok=>?_
 (try dsimp only[aZ,aN]);(try dsimp only[ak]);conv=>whnf
 refine fM ?_;(conv=>whnf);refine ⟨?_,rfl⟩;conv=>whnf
 all_goals exact wk

theorem XE : eP (NH 2) (NH 3) = 0:=by decide +kernel
theorem ex_df : l7 (NH 2) (NH 3) = ⟨false,1,2,2,0⟩:=by decide +kernel

abbrev qJ : Rat:=⟨false,[1],[2]⟩
theorem Xr : fP (mkRat 1 2) = qJ:=by decide +kernel
theorem ex_chk : MP (NH 2) (NH 3) [qJ,qJ] = 0:=by decide +kernel
theorem ex_sh : shR (NH 2) (NH 3) [qJ,qJ] = qJ:=by decide +kernel
theorem ex_ps : PsOk [qJ,qJ] 4:=by
 have h : ∀ x ∈ [qJ,qJ],x = qJ:=by intro x hx; simpa using hx
 refine ⟨fun x hx=>?_,fun x hx=>?_,fun x hx=>?_⟩
 ·rw [h x hx]; simp
 ·rw [h x hx]
  refine ⟨?_,?_⟩ <;> (intro y hy; simp at hy; omega)
 ·rw [h x hx]; unfold Sz; decide +kernel

theorem lC : aA Tryz.prog 12 [] [] .tt []:=by
 have cm:=r_half
 rw [Xr] at cm
 have cc:=Qv (NH 2) (NH 3) (fun _=>by decide) _ rfl
 rw [XE,gu,show cmpR (NH 2) (NH 3) = (l7 (NH 2) (NH 3)).av from if_neg (by rw [XE]; simp),ex_df] at cc
 have cs:=c_Shift (NH 2) (NH 3) [qJ,qJ] (K:=4) (by omega) ex_ps (fun _=>by decide) _ rfl
 rw [ex_chk,ex_sh,gu] at cs
 refine aA.intro lay mixed Tryz.func12 (by kernel_rfl) rfl (by kernel_rfl) rfl fun hok=>?_
 (try dsimp only[aZ,aN]);(try dsimp only[ak]);conv=>whnf
 refine .pure _ _ ?_ ⟨rfl,rfl⟩ cm fun _=>?_
 ·exact aj _
 (try dsimp only[ak]);conv=>whnf
 refine .pure _ _ ?_ ⟨rfl,rfl⟩ (Az 2) fun _=>?_
 ·exact aj _
 (try dsimp only[ak]);conv=>whnf
 refine .pure _ _ ?_ ⟨rfl,rfl⟩ (Az 3) fun _=>?_
 ·exact aj _
 (try dsimp only[ak]);conv=>whnf
 refine .pure _ _ ?_ ⟨rfl,rfl⟩ cc fun _=>?_
 ·exact aj _
 (try dsimp only[ak]);conv=>whnf
 refine aO.auto (by kernel_rfl) ?_;conv=>whnf
 refine eU.pure _ _ ?_ ⟨rfl,rfl⟩ (Az 2) ?_
 ·exact aj _
 conv=>whnf
 refine eU.pure _ _ ?_ ⟨rfl,rfl⟩ (Az 3) ?_
 ·exact aj _
 conv=>whnf
 refine eU.pure _ _ ?_ ⟨rfl,rfl⟩ cs ?_
 ·all_goals exact wk
 conv=>whnf
 refine And.intro (fun _=>?_) (fun h=>absurd (by simp [NS,eqP,ZI]) h)
 (try dsimp only[ak]);conv=>whnf
 refine .pure _ _ ?_ ⟨rfl,rfl⟩ (Zg qJ) fun _=>?_
 ·exact aj _
 (try dsimp only[ak]);conv=>whnf
 refine fM ?_;(conv=>whnf);refine ⟨?_,rfl⟩;conv=>whnf
 all_goals exact wk

def hvB (a b : Fo) : Bool:=decide (7 < a.vars /\ eP a b = 0)

theorem U4 (a b : Fo) : aA Tryz.prog 13 [a.av,b.av] [] (.bool (hvB a b)) []:=by
 have cc:=Gy a b
 refine aA.intro lay mixed Tryz.func13 (by kernel_rfl) rfl (by kernel_rfl) rfl fun hok=>?_
 (try dsimp only[aZ,aN]);(try dsimp only[ak]);conv=>whnf
 refine And.intro (fun g=>?_) (fun g=>?_)
 ·(try dsimp only[ak]);conv=>whnf
  refine .pure _ _ ?_ ⟨rfl,rfl⟩ cc fun _=>?_
  ·exact aj _
  (try dsimp only[ak]);conv=>whnf
  refine fM ?_;(conv=>whnf);refine ⟨?_,rfl⟩;conv=>whnf
  show _ ↔ _
  unfold hvB
  rw [decide_eq_true_iff]
  exact ⟨fun h=>⟨g,h⟩,fun h=>h.2⟩
 ·(try dsimp only[ak]);conv=>whnf
  refine fM ?_;(conv=>whnf);refine ⟨?_,rfl⟩;conv=>whnf
  show hvB a b = false
  exact decide_eq_false (fun h=>g h.1)


theorem Tv {vars path : Nat} {t : Sp} (h : xQ vars path t) : ∀ n,(eY vars t path n).2 = 0 -> ∀ y m,(xO t y m).length + n <= (eY vars t path n).1:=by
 induction h with
 | leaf path r =>
   intro n h0 y m
   rw [mW] at h0 ⊢
   by_cases h1 : 4096 < n + 1
   ·rw [if_pos h1] at h0; cases h0
   ·rw [if_neg h1,if_neg (by simp),if_pos (show ([] : List Sp).length = 0 from rfl)]
    simp [xO]; omega
 | node path v a b hv hp _ _ iha ihb =>
   intro n h0 y m
   rw [mW] at h0 ⊢
   by_cases h1 : 4096 < n + 1
   ·rw [if_pos h1] at h0; cases h0
   rw [if_neg h1,if_neg (by simp),if_neg (by simp),if_neg (by omega),if_neg (by rw [Int.toNat_natCast,hp]; simp),if_neg (by simp),Int.toNat_natCast,jg] at h0 ⊢
   by_cases h2 : (eY vars a (path ||| 2 ^ v) (n + 1)).2 ≠ 0
   ·rw [if_pos h2] at h0; exact absurd h0 h2
   have h2 : (eY vars a (path ||| 2 ^ v) (n + 1)).2 = 0:=by simpa using h2
   rw [if_neg (by rw [h2]; simp),jg] at h0 ⊢
   have ia:=iha (n + 1) h2 y (m ||| 2 ^ v)
   generalize (eY vars a (path ||| 2 ^ v) (n + 1)).1 = n1 at *
   by_cases h3 : (eY vars b (path ||| 2 ^ v) n1).2 ≠ 0
   ·rw [if_pos h3] at h0; exact absurd h0 h3
   have h3 : (eY vars b (path ||| 2 ^ v) n1).2 = 0:=by simpa using h3
   rw [if_neg (by rw [h3]; simp),ru] at h0 ⊢
   have ib:=ihb n1 h3 (y ||| 2 ^ v) m
   rw [xO,Int.toNat_natCast,List.length_append]
   dsimp only
   omega

theorem MO {v : Nat} {t : Sp} (hv : v <= 24) (h : oZ v t = 0) : xQ v 0 t /\ (xO t 0 0).length <= 4096:=by
 unfold oZ at h
 rw [if_neg (by omega),Int.toNat_natCast] at h
 have h1:=Et v t 0 0 h
 have h2:=Tv h1 0 h 0 0
 have h3:=(qZ v t 0 0 (by omega)).2 h
 exact ⟨h1,by omega⟩

theorem lX {a b : Fo} {x : Nat × Nat × Int} : qH a b x = true ↔ tri a x.1 x.2.1 = x.2.2 /\ tri b x.1 x.2.1 = x.2.2 /\ (x.2.2 = 0 \/ x.2.2 = 1):=by
 unfold qH
 simp only [Bool.and_eq_true,decide_eq_true_iff,and_assoc]

theorem G9 {a b : Fo} {l : List (Nat × Nat × Int)} {k : Nat} (h : k < l.length) (hn : ¬ qH a b l[k] = true) : l.all (qH a b) = false:=by
 cases e : l.all (qH a b) with
 | false=>rfl
 | true=>exact absurd (List.all_eq_true.1 e _ (List.getElem_mem h)) hn

theorem OE {a b : Fo} {l : List (Nat × Nat × Int)} {k : Nat} (h : k < l.length) (h1 : (l.take k).all (qH a b) = true) (h2 : qH a b l[k] = true) : (l.take (k + 1)).all (qH a b) = true:=by
 rw [List.take_succ_eq_append_getElem h,List.all_append,h1]
 simp [h2]

theorem GL (a b : Fo) (t : Sp) (h0 : eP a b = 0) (hs : oZ a.vars t = 0) : aA Tryz.prog 39 [a.av,b.av,t.av] [] (.dV [.bool (Vl a b t),.dN]) []:=by
 have cc:=uj a b _ rfl
 rw [h0,gu] at cc
 obtain ⟨ha,hb,hab⟩:=lZ h0
 have hav:=ha.vars
 rw [show a.vars = ((a.vars.toNat : Nat) : Int) by omega] at hs
 obtain ⟨hok,hlen⟩:=MO (by omega) hs
 have cl:=Yr a.vars.toNat (by omega) t hs (by omega)
 rw [show ((a.vars.toNat : Nat) : Int) = a.vars by omega] at cl
 have hcu : ∀ x ∈ xO t 0 0,∃ p,LY a.vars.toNat p x.1 x.2.1:=fun x hx=>lvs_cu hok (LY.zero _) x hx
 unfold Vl
 generalize xO t 0 0 = l at *
 obtain ⟨tv,tk,tr⟩:=t
 rw [Sp.gI] at cl ⊢
 refine aA.intro lay mixed Tryz.func39 (by kernel_rfl) rfl (by kernel_rfl) rfl fun hok=>?_
 (try dsimp only[aZ,aN]);(try dsimp only[ak]);conv=>whnf
 refine .pure _ _ ?_ ⟨rfl,rfl⟩ cc fun _=>?_
 ·exact aj _
 (try dsimp only[ak]);conv=>whnf
 refine .pure _ _ ?_ ⟨rfl,rfl⟩ cl fun _=>?_
 ·all_goals exact wk
 (try dsimp only[ak]);conv=>whnf
 refine aK.of <| aB.inv (.refl _ _) (fun (k : Nat)=>k <= l.length /\ (l.take k).all (qH a b) = true) (fun (k : Nat)=>[(36,.int .i64 k)]) (fun _=>_) (fun (k : Nat)=>l.length - k) 0 ?_ (fun _=>rfl) ?_ ?_
 ·exact ⟨Nat.zero_le _,by simp⟩
 ·all_goals exact wk
 rintro k ⟨hk,hall⟩ _
 (try dsimp only[ak]);conv=>whnf
 refine And.intro (fun g=>?_) (fun g=>?_)
 ·have hlt : k < l.length:=by simpa using g
  obtain ⟨p,hc⟩:=hcu _ (List.getElem_mem hlt)
  (try dsimp only[ak]);conv=>whnf
  refine jq hlt ?_
  generalize hx : l[k] = x at *
  obtain ⟨y,n,r⟩:=x
  dsimp only at hc
  have va:=rW a ha hc
  have vb:=rW b hb (by rw [<- hab]; exact hc)
  have r1:=wM ha y n
  have r2:=wM hb y n
  (try dsimp only[ak]);conv=>whnf
  refine And.intro (fun g1=>?_) (fun g1=>?_)
  ·obtain rfl : r = 0:=g1
   (try dsimp only[ak]);conv=>whnf
   refine aK.step 3 ?_
   (try dsimp only[ak]);conv=>whnf
   refine bY (by simp) ?_
   (try dsimp only[ak]);conv=>whnf
   refine dh.mk ⟨_,⟨by decide,rfl⟩,?_⟩
   (try dsimp only[ak]);conv=>whnf
   refine .pure _ _ ?_ ⟨rfl,rfl⟩ va fun _=>?_
   ·exact aj _
   (try dsimp only[ak]);conv=>whnf
   refine And.intro (fun g2=>?_) (fun g2=>?_)
   ·rw [G9 hlt (by rw [hx,lX]; dsimp only; omega)]
    (try dsimp only[ak]);conv=>whnf
    refine fM ?_;(conv=>whnf);refine ⟨?_,rfl⟩;conv=>whnf
    all_goals exact wk
   have g2 : tri a y n = 0:=by omega
   (try dsimp only[ak]);conv=>whnf
   refine zA ?_;conv=>whnf
   refine bY (by simp) ?_
   (try dsimp only[ak]);conv=>whnf
   refine dh.mk ⟨_,⟨by decide,rfl⟩,?_⟩
   (try dsimp only[ak]);conv=>whnf
   refine .pure _ _ ?_ ⟨rfl,rfl⟩ vb fun _=>?_
   ·exact aj _
   (try dsimp only[ak]);conv=>whnf
   refine And.intro (fun g3=>?_) (fun g3=>?_)
   ·rw [G9 hlt (by rw [hx,lX]; dsimp only; omega)]
    (try dsimp only[ak]);conv=>whnf
    refine fM ?_;(conv=>whnf);refine ⟨?_,rfl⟩;conv=>whnf
    all_goals exact wk
   have g3 : tri b y n = 0:=by omega
   (try dsimp only[ak]);conv=>whnf
   refine zA ?_;conv=>whnf
   refine bN (by simp) ?_
   (try dsimp only[ak]);conv=>whnf
   refine zA ?_;conv=>whnf
   refine ⟨k + 1,?_,?_,?_⟩
   ·exact ⟨hlt,OE hlt hall (by rw [hx,lX]; dsimp only; omega)⟩
   ·refine ⟨?_,.mk ?_ (by simp [ay])⟩
    ·all_goals exact wk
    ·all_goals exact wk
   ·omega
  (try dsimp only[ak]);conv=>whnf
  refine And.intro (fun g1'=>?_) (fun g1'=>?_)
  ·obtain rfl : r = 1:=g1'
   (try dsimp only[ak]);conv=>whnf
   refine aK.step 3 ?_
   (try dsimp only[ak]);conv=>whnf
   refine bY (by simp) ?_
   (try dsimp only[ak]);conv=>whnf
   refine dh.mk ⟨_,⟨by decide,rfl⟩,?_⟩
   (try dsimp only[ak]);conv=>whnf
   refine .pure _ _ ?_ ⟨rfl,rfl⟩ va fun _=>?_
   ·exact aj _
   (try dsimp only[ak]);conv=>whnf
   refine And.intro (fun g2=>?_) (fun g2=>?_)
   ·rw [G9 hlt (by rw [hx,lX]; dsimp only; omega)]
    (try dsimp only[ak]);conv=>whnf
    refine fM ?_;(conv=>whnf);refine ⟨?_,rfl⟩;conv=>whnf
    all_goals exact wk
   have g2 : tri a y n = 1:=by omega
   (try dsimp only[ak]);conv=>whnf
   refine zA ?_;conv=>whnf
   refine bY (by simp) ?_
   (try dsimp only[ak]);conv=>whnf
   refine dh.mk ⟨_,⟨by decide,rfl⟩,?_⟩
   (try dsimp only[ak]);conv=>whnf
   refine .pure _ _ ?_ ⟨rfl,rfl⟩ vb fun _=>?_
   ·exact aj _
   (try dsimp only[ak]);conv=>whnf
   refine And.intro (fun g3=>?_) (fun g3=>?_)
   ·rw [G9 hlt (by rw [hx,lX]; dsimp only; omega)]
    (try dsimp only[ak]);conv=>whnf
    refine fM ?_;(conv=>whnf);refine ⟨?_,rfl⟩;conv=>whnf
    all_goals exact wk
   have g3 : tri b y n = 1:=by omega
   (try dsimp only[ak]);conv=>whnf
   refine zA ?_;conv=>whnf
   refine bN (by simp) ?_
   (try dsimp only[ak]);conv=>whnf
   refine zA ?_;conv=>whnf
   refine ⟨k + 1,?_,?_,?_⟩
   ·exact ⟨hlt,OE hlt hall (by rw [hx,lX]; dsimp only; omega)⟩
   ·refine ⟨?_,.mk ?_ (by simp [ay])⟩
    ·all_goals exact wk
    ·all_goals exact wk
   ·omega
  ·have g1 : ¬ r = 0:=g1
   have g1' : ¬ r = 1:=g1'
   rw [G9 hlt (by rw [hx,lX]; dsimp only; omega)]
   (try dsimp only[ak]);conv=>whnf
   refine fM ?_;(conv=>whnf);refine ⟨?_,rfl⟩;conv=>whnf
   all_goals exact wk
 have hk : k = l.length:=by (have : ¬ k < l.length:=by simpa using g); omega
 subst hk
 rw [List.take_length] at hall
 rw [hall]
 (try dsimp only[ak]);conv=>whnf
 refine fM ?_;(conv=>whnf);refine ⟨?_,rfl⟩;conv=>whnf
 all_goals exact wk


structure VsR (v m : Nat) (s : List Int) (d : List Bool × List Int) : Prop where
 inv : VB v m d
 rng : ∀ x ∈ s,0 <= x /\ x < ((v + m : Nat) : Int)
 nd : s.Nodup
 bit : ∀ i,i < v + m -> (d.1.getD i false = true ↔ (i : Int) ∈ s)
 ev : d.2 = s.filter (fun x=>decide (x < (v : Int)))


theorem Rn {o : List Int} {v : Nat} (h : sH o v) : Vr o v:=⟨h.len,h.rng,h.nd,fun i hi=>h.mem (by omega) (by omega)⟩

abbrev mkH (a b : Fo) (o : List Int) (N : Nat) : Heap:=[(0,.box (.ag [a.av,b.av,iL o,.int .i64 N]))]

theorem c_mAt (a b : Fo) (ha : qB a) (hb : qB b) (hab : a.vars = b.vars) (o : List Int) (ho : Vr o a.vars.toNat) : ∀ (k d y n N : Nat),d + k = a.vars.toNat -> uF o a.vars.toNat d y n -> N + KP a b o k d y n <= 4096 ->
  aA Tryz.prog 100 [.ptr 0 [] 0,cuA y n,.int .i64 d] (mkH a b o N) (.dV [(NI a b o k d y n).av,.dN]) (mkH a b o (N + KP a b o k d y n)):=by
 have hav:=ha.vars
 have hp24 : 2 ^ a.vars.toNat <= 2 ^ 24:=Nat.pow_le_pow_right (by decide) (by omega)
 intro k
 induction k with
 | zero =>
   intro d y n N hk h hN
   have hg1:=BN a b o 0 d y n
   have hf : ∀ i < a.vars.toNat,y.testBit i = true \/ n.testBit i = true:=by
    have : d = a.vars.toNat:=by omega
    subst this
    exact h.full ho
   have ht : tri a y n ≠ 2 /\ tri b y n ≠ 2:=⟨y9 ha hf,y9 hb (by rw [<- hab]; exact hf)⟩
   have va:=rW a ha h.cu
   have vb:=rW b hb (by rw [<- hab]; exact h.cu)
   rw [vK ht,zZ ht] at *
   have r1:=wM ha y n
   rw [Sp.gI]
   generalize tri a y n = x at *
   generalize tri b y n = z at *
   refine aA.intro lay mixed Tryz.func100 (by kernel_rfl) rfl (by kernel_rfl) rfl fun hok=>?_
   (try dsimp only[aZ,aN]);(try dsimp only[ak]);conv=>whnf
   refine zA ?_;conv=>whnf
   refine bN (by omega) ?_
   (try dsimp only[ak]);conv=>whnf
   refine aO.auto (by kernel_rfl) ?_;conv=>whnf
   refine eU.pure _ _ ?_ ⟨rfl,rfl⟩ va ?_
   ·exact aj _
   (try dsimp only[ak]);conv=>whnf
   refine aO.auto (by kernel_rfl) ?_;conv=>whnf
   refine eU.pure _ _ ?_ ⟨rfl,rfl⟩ vb ?_
   ·exact aj _
   (try dsimp only[ak]);conv=>whnf
   refine bY ht.1 ?_
   (try dsimp only[ak]);conv=>whnf
   refine bY ht.2 ?_
   (try dsimp only[ak]);conv=>whnf
   have hx : x = 0 \/ x = 1:=by omega
   rcases hx with rfl | rfl
   ·refine bN (by decide) ?_
    (try dsimp only[ak]);conv=>whnf
    refine ⟨⟨_,_,.refl _ _,?_⟩⟩
    conv=>whnf
    refine ⟨?_,rfl,by simp [nextId],.mk ?_ (by simp [ay])⟩
    ·all_goals exact wk
    ·all_goals exact wk
   ·refine bY (by decide) ?_
    (try dsimp only[ak]);conv=>whnf
    refine ⟨⟨_,_,.refl _ _,?_⟩⟩
    conv=>whnf
    refine ⟨?_,rfl,by simp [nextId],.mk ?_ (by simp [ay])⟩
    ·all_goals exact wk
    ·all_goals exact wk
 | succ k ih =>
   intro d y n N hk h hN
   have hg1:=BN a b o (k + 1) d y n
   have va:=rW a ha h.cu
   have vb:=rW b hb (by rw [<- hab]; exact h.cu)
   by_cases ht : tri a y n ≠ 2 /\ tri b y n ≠ 2
   ·rw [vK ht,zZ ht] at *
    have r1:=wM ha y n
    rw [Sp.gI]
    generalize tri a y n = x at *
    generalize tri b y n = z at *
    refine aA.intro lay mixed Tryz.func100 (by kernel_rfl) rfl (by kernel_rfl) rfl fun hok=>?_
    (try dsimp only[aZ,aN]);(try dsimp only[ak]);conv=>whnf
    refine zA ?_;conv=>whnf
    refine bN (by omega) ?_
    (try dsimp only[ak]);conv=>whnf
    refine aO.auto (by kernel_rfl) ?_;conv=>whnf
    refine eU.pure _ _ ?_ ⟨rfl,rfl⟩ va ?_
    ·exact aj _
    (try dsimp only[ak]);conv=>whnf
    refine aO.auto (by kernel_rfl) ?_;conv=>whnf
    refine eU.pure _ _ ?_ ⟨rfl,rfl⟩ vb ?_
    ·exact aj _
    (try dsimp only[ak]);conv=>whnf
    refine bY ht.1 ?_
    (try dsimp only[ak]);conv=>whnf
    refine bY ht.2 ?_
    (try dsimp only[ak]);conv=>whnf
    have hx : x = 0 \/ x = 1:=by omega
    rcases hx with rfl | rfl
    ·refine bN (by decide) ?_
     (try dsimp only[ak]);conv=>whnf
     refine ⟨⟨_,_,.refl _ _,?_⟩⟩
     conv=>whnf
     refine ⟨?_,rfl,by simp [nextId],.mk ?_ (by simp [ay])⟩
     ·all_goals exact wk
     ·all_goals exact wk
    ·refine bY (by decide) ?_
     (try dsimp only[ak]);conv=>whnf
     refine ⟨⟨_,_,.refl _ _,?_⟩⟩
     conv=>whnf
     refine ⟨?_,rfl,by simp [nextId],.mk ?_ (by simp [ay])⟩
     ·all_goals exact wk
     ·all_goals exact wk
   obtain ⟨e,e1,e2,e3,e4⟩:=h.get ho (by omega)
   have hdl : d < o.length:=by have:=ho.len; omega
   have e5 : o[d] = (e : Int):=by rw [List.getElem?_eq_getElem hdl] at e1; exact Option.some.inj e1
   have hyl:=h.cu.yl
   have hnl:=h.cu.nl
   rw [FZ ht,e2,Int.toNat_natCast] at hN ⊢
   rw [FY ht,e2,Int.toNat_natCast]
   have ca:=ih (d + 1) y (n ||| 2 ^ e) (N + 1) (by omega) (h.no (by omega) e1 e3 e4) (by omega)
   have cb:=ih (d + 1) (y ||| 2 ^ e) n (N + 1 + KP a b o k (d + 1) y (n ||| 2 ^ e)) (by omega) (h.yes (by omega) e1 e3 e4) (by omega)
   have hsh:=oh (i:=e) (by omega)
   have h2e:=pow24 (show e < 24 by omega)
   have ZM:=yE (a:=n) (b:=2 ^ e) (by omega) (by omega)
   have hor2:=yE (a:=y) (b:=2 ^ e) (by omega) (by omega)
   generalize NI a b o k (d + 1) y (n ||| 2 ^ e) = ta at *
   generalize NI a b o k (d + 1) (y ||| 2 ^ e) n = tb at *
   generalize KP a b o k (d + 1) y (n ||| 2 ^ e) = ca1 at *
   generalize KP a b o k (d + 1) (y ||| 2 ^ e) n = cb1 at *
   have eN : N + (ca1 + cb1 + 1) = N + 1 + ca1 + cb1:=by omega
   rw [eN]
   rw [Sp.gI,List.map_cons,List.map_cons,List.map_nil]
   obtain ⟨v1,k1,r1⟩:=ta
   obtain ⟨v2,k2,r2⟩:=tb
   rw [Sp.gI] at ca cb
   rw [Sp.gI,Sp.gI]
   generalize tri a y n = x at *
   generalize tri b y n = z at *
   refine aA.intro lay mixed Tryz.func100 (by kernel_rfl) rfl (by kernel_rfl) rfl fun hok=>?_
   (try dsimp only[aZ,aN]);(try dsimp only[ak]);conv=>whnf
   refine zA ?_;conv=>whnf
   refine bN (by omega) ?_
   (try dsimp only[ak]);conv=>whnf
   refine aO.auto (by kernel_rfl) ?_;conv=>whnf
   refine eU.pure _ _ ?_ ⟨rfl,rfl⟩ va ?_
   ·exact aj _
   (try dsimp only[ak]);conv=>whnf
   refine aO.auto (by kernel_rfl) ?_;conv=>whnf
   refine eU.pure _ _ ?_ ⟨rfl,rfl⟩ vb ?_
   ·exact aj _
   (try dsimp only[ak]);conv=>whnf
   have hN1 : N + 1 + ca1 + cb1 <= 4096:=by omega
   by_cases hx : x ≠ 2
   ·refine bY hx ?_
    (try dsimp only[ak]);conv=>whnf
    refine bN (fun hz=>ht ⟨hx,hz⟩) ?_
    (try dsimp only[ak]);conv=>whnf
    refine jq hdl ?_
    rw [e5]
    (try dsimp only[ak]);conv=>whnf
    refine aO.mk ⟨[true,true,false,true,false,true,true,true,true,true,true,false,true,true,true,false,false,true],by kernel_rfl,?_⟩
    conv=>whnf
    refine ⟨by omega,?_⟩
    rw [hsh]
    conv=>whnf
    rw [ZM]
    refine zA ?_;conv=>whnf
    refine .gen _ _ (aA.frame [0] ca ⟨rfl,rfl,rfl,rfl⟩ ?_ ?_) fun _=>?_
    ·all_goals exact wk
    ·all_goals exact wk
    (try dsimp only[ak]);conv=>whnf
    refine aO.mk ⟨[true,true,false,true,true,true,true,false,true,true,true,false,true,true,true,false,false,true],by kernel_rfl,?_⟩
    conv=>whnf
    refine ⟨by omega,?_⟩
    rw [hsh]
    conv=>whnf
    rw [hor2]
    refine zA ?_;conv=>whnf
    refine .gen _ _ (aA.frame [0] cb ⟨rfl,rfl,rfl,rfl⟩ ?_ ?_) fun _=>?_
    ·all_goals exact wk
    ·all_goals exact wk
    (try dsimp only[ak]);conv=>whnf
    refine ⟨⟨_,_,.refl _ _,?_⟩⟩
    conv=>whnf
    refine ⟨?_,rfl,by simp [nextId],.mk ?_ (by simp [ay])⟩
    ·all_goals exact wk
    ·all_goals exact wk
   ·refine bN hx ?_
    (try dsimp only[ak]);conv=>whnf
    refine jq hdl ?_
    rw [e5]
    (try dsimp only[ak]);conv=>whnf
    refine aO.mk ⟨[true,true,false,true,false,true,true,true,true,true,true,false,true,true,true,false,false,true],by kernel_rfl,?_⟩
    conv=>whnf
    refine ⟨by omega,?_⟩
    rw [hsh]
    conv=>whnf
    rw [ZM]
    refine zA ?_;conv=>whnf
    refine .gen _ _ (aA.frame [0] ca ⟨rfl,rfl,rfl,rfl⟩ ?_ ?_) fun _=>?_
    ·all_goals exact wk
    ·all_goals exact wk
    (try dsimp only[ak]);conv=>whnf
    refine aO.mk ⟨[true,true,false,true,true,true,true,false,true,true,true,false,true,true,true,false,false,true],by kernel_rfl,?_⟩
    conv=>whnf
    refine ⟨by omega,?_⟩
    rw [hsh]
    conv=>whnf
    rw [hor2]
    refine zA ?_;conv=>whnf
    refine .gen _ _ (aA.frame [0] cb ⟨rfl,rfl,rfl,rfl⟩ ?_ ?_) fun _=>?_
    ·all_goals exact wk
    ·all_goals exact wk
    (try dsimp only[ak]);conv=>whnf
    refine ⟨⟨_,_,.refl _ _,?_⟩⟩
    conv=>whnf
    refine ⟨?_,rfl,by simp [nextId],.mk ?_ (by simp [ay])⟩
    ·all_goals exact wk
    ·all_goals exact wk


def mkSp (a b : Fo) : Sp:=if (l7 a b).eq = true then mkT a b (uV a) else .mk 0 [] 0

theorem c_MakeO (a b : Fo) (h0 : eP a b = 0) (h7 : a.vars <= 7) : aA Tryz.prog 35 [a.av,b.av] [] (.dV [(mkSp a b).av,.bool (l7 a b).eq,.dN]) []:=by
 obtain ⟨ha,hb,hab⟩:=lZ h0
 have hp:=xC a ha
 have cc:=JE a b h0 h7
 have cd:=GI a ha
 have hav:=ha.vars
 have hg:=BN a b (uV a) a.vars.toNat 0 0 0
 have hpw : 2 ^ (a.vars.toNat + 1) <= 2 ^ 8:=Nat.pow_le_pow_right (by decide) (by omega)
 have cg:=c_mAt a b ha hb hab (uV a) (Rn hp) a.vars.toNat 0 0 0 0 (by omega) (uF.zero _ _) (by omega)
 rw [show NI a b (uV a) a.vars.toNat 0 0 0 = mkT a b (uV a) from rfl] at cg
 unfold mkSp
 generalize mkT a b (uV a) = T at *
 generalize uV a = o at *
 generalize KP a b o a.vars.toNat 0 0 0 = G at *
 generalize l7 a b = D at *
 obtain ⟨v,k,r⟩:=T
 obtain ⟨eq,st,cnt,ga,lo⟩:=D
 simp only [Df.av] at cc
 cases eq with
 | false =>
   rw [if_neg (by simp),Sp.gI]
   refine aA.intro lay mixed Tryz.func35 (by kernel_rfl) rfl (by kernel_rfl) rfl fun hok=>?_
   (try dsimp only[aZ,aN]);(try dsimp only[ak]);conv=>whnf
   refine .pure _ _ ?_ ⟨rfl,rfl⟩ cc fun _=>?_
   ·exact aj _
   (try dsimp only[ak]);conv=>whnf
   refine And.intro (fun _=>?_) (fun h=>absurd h (by simp))
   (try dsimp only[ak]);conv=>whnf
   refine fM ?_;(conv=>whnf);refine ⟨?_,rfl⟩;conv=>whnf
   all_goals exact wk
 | true =>
   rw [if_pos rfl,Sp.gI]
   rw [Sp.gI] at cg
   refine aA.intro lay mixed Tryz.func35 (by kernel_rfl) rfl (by kernel_rfl) rfl fun hok=>?_
   (try dsimp only[aZ,aN]);(try dsimp only[ak]);conv=>whnf
   refine .pure _ _ ?_ ⟨rfl,rfl⟩ cc fun _=>?_
   ·exact aj _
   (try dsimp only[ak]);conv=>whnf
   refine And.intro (fun h=>absurd h (by simp)) (fun _=>?_)
   (try dsimp only[ak]);conv=>whnf
   refine .pure _ _ ?_ ⟨rfl,rfl⟩ cd fun _=>?_
   ·exact aj _
   (try dsimp only[ak]);conv=>whnf
   refine .gen _ _ (aA.frame [4] cg ⟨rfl,rfl,rfl,rfl⟩ ?_ ?_) fun _=>?_
   ·all_goals exact wk
   ·all_goals exact wk
   (try dsimp only[ak]);conv=>whnf
   refine ⟨⟨_,_,.refl _ _,?_⟩⟩
   conv=>whnf
   refine ⟨?_,rfl,by simp [nextId],.mk ?_ (by simp [ay])⟩
   ·all_goals exact wk
   ·all_goals exact wk


theorem UR (f : Fo) (h : qB f) (h12 : f.vars <= 12) : aA Tryz.prog 188 [f.av] [] .dN []:=by
 have cc:=lM f h
 refine aA.intro lay mixed Tryz.func188 (by kernel_rfl) rfl (by kernel_rfl) rfl fun hok=>?_
 (try dsimp only[aZ,aN]);(try dsimp only[ak]);conv=>whnf
 refine .pure _ _ ?_ ⟨rfl,rfl⟩ cc fun _=>?_
 ·exact aj _
 (try dsimp only[ak]);conv=>whnf
 refine And.intro (fun g=>by exfalso; omega) (fun g=>?_)
 (try dsimp only[ak]);conv=>whnf
 refine fM ?_;(conv=>whnf);refine ⟨?_,rfl⟩;conv=>whnf
 all_goals exact wk

abbrev tbL (f : Fo) (n : Nat) : AV:=.sl 1 (((List.range n).map (xP f)).map .bool) .no

theorem Ol (f : Fo) (h : qB f) (h12 : f.vars <= 12) : aA Tryz.prog 99 [f.av] [] (.dV [tbL f (2 ^ f.vars.toNat),.dN]) []:=by
 have cc:=UR f h h12
 have cv : ∀ s : Nat,s < 2 ^ f.vars.toNat -> aA Tryz.prog 22 [f.av,.int .i64 s] [] (.dV [.bool (xP f s),.dN]) []:=fun s hs=>Yp f h s hs
 have h1:=h.vars
 have hp : 2 ^ f.vars.toNat <= 2 ^ 12:=Nat.pow_le_pow_right (by decide) (by omega)
 have hsh:=oh (i:=f.vars.toNat) (by omega)
 rw [show ((f.vars.toNat : Nat) : Int) = f.vars by omega] at hsh
 unfold tbL
 generalize 2 ^ f.vars.toNat = N at *
 generalize xP f = g at *
 refine aA.intro lay mixed Tryz.func99 (by kernel_rfl) rfl (by kernel_rfl) rfl fun hok=>?_
 (try dsimp only[aZ,aN]);(try dsimp only[ak]);conv=>whnf
 refine .pure _ _ ?_ ⟨rfl,rfl⟩ cc fun _=>?_
 ·exact aj _
 (try dsimp only[ak]);conv=>whnf
 refine ⟨by omega,?_⟩
 rw [hsh]
 (try dsimp only[ak]);conv=>whnf
 refine ⟨⟨by omega,Int.le_refl _,by show (N : Int) * ((1 : Nat) : Int) <= 281474976710656; omega,by omega⟩,.wr ?_⟩
 rw [Int.toNat_natCast]
 (try dsimp only[ak]);conv=>whnf
 refine aK.of <| (aB.inv (.refl _ _) (fun k : Nat=>k <= N) (fun k=>[(20,.int .i64 k)]) (fun k=>[(1,.arr 1 N ((List.range k).map (fun j=>AV.bool (g j)) ++ List.replicate (N - k) .ff)),(0,.box f.av)]) (fun k=>N - k) 0 (Nat.zero_le _) ?_ ?_ ?_)
 ·exact fun _=>rfl
 ·refine ⟨?_,.mk ?_ (by simp [ay])⟩
  ·all_goals exact wk
  ·all_goals exact wk
 intro k hk _
 (try dsimp only[ak]);conv=>whnf
 refine And.intro (fun g1=>?_) (fun g1=>?_)
 ·have hlt : k < N:=by omega
  (try dsimp only[ak]);conv=>whnf
  refine .pure _ _ ?_ ⟨rfl,rfl⟩ (cv k hlt) fun _=>?_
  ·exact aj _
  (try dsimp only[ak]);conv=>whnf
  refine ⟨⟨by omega,by omega⟩,?_⟩
  (try dsimp only[ak]);conv=>whnf
  refine ⟨by simp; omega,rfl,?_⟩
  (try dsimp only[ak]);conv=>whnf
  refine zA ?_;conv=>whnf
  refine ⟨k + 1,?_,?_,?_⟩
  ·exact hlt
  ·refine ⟨?_,.mk ?_ (by simp [ay])⟩
   ·all_goals exact wk
   ·repeat' first|exact rfl|exact trivial|exact wR|exact lR _|apply aI
    all_goals (simp only [Nat.zero_add,Int.toNat_natCast]; exact Wh hlt rfl)
  ·omega
 ·have hk : k = N:=by omega
  subst hk
  (try dsimp only[ak]);conv=>whnf
  refine ⟨⟨_,_,.freeze 2 1 _ _ _ _ _ _ rfl rfl ?_ (.refl _ _),?_⟩⟩
  ·simp
  conv=>whnf
  refine ⟨?_,rfl,by simp [nextId],.mk ?_ (by simp [ay])⟩
  ·repeat' first|exact rfl|exact trivial|exact wR|exact lR _|apply aI
   all_goals first | (refine aY ?_; rw [List.drop_zero,List.take_of_length_le (by simp),Nat.sub_self]; simp [List.map_map,Function.comp_def]) | skip
  ·all_goals exact wk

theorem X6 (a b : Fo) (ha : qB a) (hb : qB b) (hab : a.vars = b.vars) (h12 : a.vars <= 12) : aA Tryz.prog 34 [a.av,b.av] [] (.dV [.bool (l7 a b).eq,.int .i64 (if (l7 a b).eq = true then -1 else (l7 a b).st),.dN]) []:=by
 have h1:=ha.vars
 have hp : 2 ^ a.vars.toNat <= 2 ^ 12:=Nat.pow_le_pow_right (by decide) (by omega)
 have fa:=lM a ha
 have fb:=lM b hb
 have ta:=Ol a ha h12
 have tb:=Ol b hb (by omega)
 rw [<- hab] at tb
 have hs:=vS (xP a) (xP b) (2 ^ a.vars.toNat)
 unfold l7
 unfold tbL at ta tb
 generalize 2 ^ a.vars.toNat = N at *
 generalize xP a = va at *
 generalize xP b = vb at *
 obtain ⟨e1,e2,e3,_⟩:=hs
 generalize BQ va vb N = D at *
 refine aA.intro lay mixed Tryz.func34 (by kernel_rfl) rfl (by kernel_rfl) rfl fun hok=>?_
 (try dsimp only[aZ,aN]);(try dsimp only[ak]);conv=>whnf
 refine .pure _ _ ?_ ⟨rfl,rfl⟩ fa fun _=>?_
 ·exact aj _
 (try dsimp only[ak]);conv=>whnf
 refine .pure _ _ ?_ ⟨rfl,rfl⟩ fb fun _=>?_
 ·exact aj _
 (try dsimp only[ak]);conv=>whnf
 refine And.intro (fun g=>absurd hab g) (fun _=>?_)
 (try dsimp only[ak]);conv=>whnf
 refine .pure _ _ ?_ ⟨rfl,rfl⟩ ta fun _=>?_
 ·exact aj _
 (try dsimp only[ak]);conv=>whnf
 refine .pure _ _ ?_ ⟨rfl,rfl⟩ tb fun _=>?_
 ·exact aj _
 (try dsimp only[ak]);conv=>whnf
 refine aK.of <| aB.inv (.refl _ _) (fun (k : Nat)=>k <= N /\ ∀ m < k,va m = vb m) (fun (k : Nat)=>[(47,.int .i64 k)]) (fun _=>_) (fun (k : Nat)=>N - k) 0 ?_ (fun _=>rfl) ?_ ?_
 ·exact ⟨Nat.zero_le _,fun m hm=>by omega⟩
 ·all_goals exact wk
 rintro k ⟨hk,hm⟩ _
 (try dsimp only[ak]);conv=>whnf
 rw [List.length_map,List.length_map,List.length_range]
 refine And.intro (fun g=>?_) (fun g=>?_)
 ·have hlt : k < N:=by omega
  (try dsimp only[ak]);conv=>whnf
  refine aO.auto (by kernel_rfl) ?_;conv=>whnf
  refine dI false ⟨by omega,by simp; omega⟩ ?_
  rw [show ((List.range N).map va).getD ((k : Nat) : Int).toNat false = va k by rw [Int.toNat_natCast,List.getD_eq_getElem?_getD,List.getElem?_map,List.getElem?_range hlt]; rfl]
  conv=>whnf
  refine dI false ⟨by omega,by simp; omega⟩ ?_
  rw [show ((List.range N).map vb).getD ((k : Nat) : Int).toNat false = vb k by rw [Int.toNat_natCast,List.getD_eq_getElem?_getD,List.getElem?_map,List.getElem?_range hlt]; rfl]
  conv=>whnf
  refine And.intro (fun g1=>?_) (fun g1=>?_)
  ·have hD : D.eq = false:=by
    cases h : D.eq with
    | false=>rfl
    | true=>exact absurd (e1.1 h k hlt) g1
   obtain ⟨q1,q2,q3⟩:=e3 hD
   have hst : D.st = k:=by
    have:=q3 k hlt g1
    have : ¬ D.st < k:=fun h=>q2 (hm _ h)
    omega
   rw [hD,hst,if_neg (by simp)]
   (try dsimp only[ak]);conv=>whnf
   refine fM ?_;(conv=>whnf);refine ⟨?_,rfl⟩;conv=>whnf
   all_goals exact wk
  ·have g1 : va k = vb k:=by simpa using g1
   (try dsimp only[ak]);conv=>whnf
   refine zA ?_;conv=>whnf
   refine ⟨k + 1,?_,?_,?_⟩
   ·exact ⟨hlt,fun m hmk=>by
     by_cases e : m = k
     ·rw [e]; exact g1
     ·exact hm m (by omega)⟩
   ·all_goals exact wk
   ·omega
 ·have hk : k = N:=by omega
  subst hk
  have hD : D.eq = true:=e1.2 hm
  rw [hD,if_pos rfl]
  (try dsimp only[ak]);conv=>whnf
  refine fM ?_;(conv=>whnf);refine ⟨?_,rfl⟩;conv=>whnf
  all_goals exact wk


theorem Ud (a b : Fo) (h0 : eP a b = 0) (h7 : a.vars <= 7) (he : (l7 a b).eq = true) : oZ a.vars (mkT a b (uV a)) = 0 /\ Vl a b (mkT a b (uV a)) = true:=by
 obtain ⟨ha,hb,hab⟩:=lZ h0
 have hav:=ha.vars
 have ho:=Rn (xC a ha)
 have hs:=(vS (xP a) (xP b) (2 ^ a.vars.toNat)).1.1 he
 have hg:=BN a b (uV a) a.vars.toNat 0 0 0
 have hpw : 2 ^ (a.vars.toNat + 1) <= 2 ^ 8:=Nat.pow_le_pow_right (by decide) (by omega)
 constructor
 ·obtain ⟨g1,g2⟩:=P5 (a:=a) (b:=b) ho a.vars.toNat 0 0 0 (by omega) (uF.zero _ _)
  rw [Nat.or_zero] at g1
  unfold oZ mkT
  rw [if_neg (by omega),VG g1 g2 (n:=0) (by omega)]
 ·exact ZO ha hb hab ho hs a.vars.toNat 0 0 0 (by omega) (uF.zero _ _)

theorem acc_eq (a b : Fo) (t : Sp) (h0 : eP a b = 0) (hs : oZ a.vars t = 0) (hacc : Vl a b t = true) : (l7 a b).eq = true:=by
 obtain ⟨ha,hb,hab⟩:=lZ h0
 have hav:=ha.vars
 refine (vS (xP a) (xP b) (2 ^ a.vars.toNat)).1.2 fun m _=>?_
 rw [show a.vars = ((a.vars.toNat : Nat) : Int) by omega] at hs
 exact YG ha hb (MO (by omega) hs).1 hacc m

theorem DR (a b : Fo) (t : Sp) : aA Tryz.prog 10 [a.av,b.av,t.av] [] (.bool true) []:=by
 have ch:=U4 a b
 have cz:=X9 t 0 (by omega)
 have cK:=Gy a b
 have cQ:=Qq a.vars t
 have cO:=fun h0 hs=>GL a b t h0 hs
 have hacc:=acc_eq a b t
 generalize Vl a b t = B at *
 generalize oZ a.vars t = S1 at *
 generalize Y2 t 0 = sz at *
 obtain ⟨tv,tk,tr⟩:=t
 rw [Sp.gI] at *
 cases hh : hvB a b with
 | true =>
   rw [hh] at ch
   refine aA.intro lay mixed Tryz.func10 (by kernel_rfl) rfl (by kernel_rfl) rfl fun hok=>?_
   (try dsimp only[aZ,aN]);(try dsimp only[ak]);conv=>whnf
   refine .pure _ _ ?_ ⟨rfl,rfl⟩ lC fun _=>?_
   ·exact aj _
   (try dsimp only[ak]);conv=>whnf
   refine .pure _ _ ?_ ⟨rfl,rfl⟩ ch fun _=>?_
   ·exact aj _
   (try dsimp only[ak]);conv=>whnf
   refine And.intro (fun _=>?_) (fun h=>absurd h (by simp))
   (try dsimp only[ak]);conv=>whnf
   refine .pure _ _ ?_ ⟨rfl,rfl⟩ lC fun _=>?_
   ·exact aj _
   (try dsimp only[ak]);conv=>whnf
   refine fM ?_;(conv=>whnf);refine ⟨?_,rfl⟩;conv=>whnf
   all_goals exact wk
 | false =>
 rw [hh] at ch
 have h7 : eP a b = 0 -> a.vars <= 7:=fun h0=>by
  have:=of_decide_eq_false hh
  omega
 by_cases h1 : eP a b ≠ 0
 ·generalize eP a b = E at *
  refine aA.intro lay mixed Tryz.func10 (by kernel_rfl) rfl (by kernel_rfl) rfl fun hok=>?_
  (try dsimp only[aZ,aN]);(try dsimp only[ak]);conv=>whnf
  refine .pure _ _ ?_ ⟨rfl,rfl⟩ lC fun _=>?_
  ·exact aj _
  (try dsimp only[ak]);conv=>whnf
  refine .pure _ _ ?_ ⟨rfl,rfl⟩ ch fun _=>?_
  ·exact aj _
  (try dsimp only[ak]);conv=>whnf
  refine And.intro (fun h=>absurd h (by simp)) (fun _=>?_)
  (try dsimp only[ak]);conv=>whnf
  refine .pure _ _ ?_ ⟨rfl,rfl⟩ cK fun _=>?_
  ·exact aj _
  (try dsimp only[ak]);conv=>whnf
  refine bY h1 ?_
  (try dsimp only[ak]);conv=>whnf
  refine .pure _ _ ?_ ⟨rfl,rfl⟩ lC fun _=>?_
  ·exact aj _
  (try dsimp only[ak]);conv=>whnf
  refine fM ?_;(conv=>whnf);refine ⟨?_,rfl⟩;conv=>whnf
  all_goals exact wk
 have h0 : eP a b = 0:=by simpa using h1
 obtain ⟨ha,hb,hab⟩:=lZ h0
 have h7:=h7 h0
 have cT:=X6 a b ha hb hab (by omega)
 have cM:=c_MakeO a b h0 h7
 have hmk:=Ud a b h0 h7
 have cA:=fun hs=>GL a b (mkT a b (uV a)) h0 hs
 have cO:=cO h0
 have hacc:=hacc h0
 rw [h0] at cK
 unfold mkSp at cM
 generalize mkT a b (uV a) = T at *
 generalize l7 a b = D at *
 obtain ⟨v,k,r⟩:=T
 obtain ⟨eq,st,cnt,ga,lo⟩:=D
 dsimp only at hmk hacc cT cM
 have cA : eq = true -> _:=fun he=>(by
  have:=cA (hmk he).1
  rw [(hmk he).2] at this
  exact this : aA Tryz.prog 39 [a.av,b.av,(Sp.mk v k r).av] [] (.dV [.bool true,.dN]) [])
 generalize (if eq = true then (-1 : Int) else (st : Int)) = W at *
 cases eq with
 | false =>
   clear cA hmk
   rw [if_neg (by simp),Sp.gI] at cM
   refine aA.intro lay mixed Tryz.func10 (by kernel_rfl) rfl (by kernel_rfl) rfl fun hok=>?_
   (try dsimp only[aZ,aN]);(try dsimp only[ak]);conv=>whnf
   refine .pure _ _ ?_ ⟨rfl,rfl⟩ lC fun _=>?_
   ·exact aj _
   (try dsimp only[ak]);conv=>whnf
   refine .pure _ _ ?_ ⟨rfl,rfl⟩ ch fun _=>?_
   ·exact aj _
   (try dsimp only[ak]);conv=>whnf
   refine And.intro (fun h=>absurd h (by simp)) (fun _=>?_)
   (try dsimp only[ak]);conv=>whnf
   refine .pure _ _ ?_ ⟨rfl,rfl⟩ cK fun _=>?_
   ·exact aj _
   (try dsimp only[ak]);conv=>whnf
   refine bN (by simp) ?_
   (try dsimp only[ak]);conv=>whnf
   refine .pure _ _ ?_ ⟨rfl,rfl⟩ cz fun _=>?_
   ·all_goals exact wk
   (try dsimp only[ak]);conv=>whnf
   refine And.intro (fun _=>?_) (fun _=>?_)
   ·(try dsimp only[ak]);conv=>whnf
    refine .pure _ _ ?_ ⟨rfl,rfl⟩ lC fun _=>?_
    ·exact aj _
    (try dsimp only[ak]);conv=>whnf
    refine fM ?_;(conv=>whnf);refine ⟨?_,rfl⟩;conv=>whnf
    all_goals exact wk
   (try dsimp only[ak]);conv=>whnf
   refine .pure _ _ ?_ ⟨rfl,rfl⟩ cT fun _=>?_
   ·exact aj _
   (try dsimp only[ak]);conv=>whnf
   refine .pure _ _ ?_ ⟨rfl,rfl⟩ cQ fun _=>?_
   ·all_goals exact wk
   by_cases hs : S1 = 0
   ·subst hs
    have cO:=cO rfl
    refine And.intro (fun _=>?_) (fun h=>absurd rfl h)
    cases B with
    | false =>
      (try dsimp only[ak]);conv=>whnf
      refine .pure _ _ ?_ ⟨rfl,rfl⟩ cO fun _=>?_
      ·all_goals exact wk
      (try dsimp only[ak]);conv=>whnf
      refine And.intro (fun h=>absurd h (by simp)) (fun _=>?_)
      (try dsimp only[ak]);conv=>whnf
      refine .pure _ _ ?_ ⟨rfl,rfl⟩ cM fun _=>?_
      ·exact aj _
      (try dsimp only[ak]);conv=>whnf
      refine And.intro (fun h=>absurd rfl h) (fun _=>?_)
      (try dsimp only[ak]);conv=>whnf
      refine And.intro (fun _=>?_) (fun h=>absurd h (by simp))
      (try dsimp only[ak]);conv=>whnf
      refine fM ?_;(conv=>whnf);refine ⟨?_,rfl⟩;conv=>whnf
      all_goals exact wk
    | true=>exact absurd (hacc rfl rfl) (by simp)
   ·refine And.intro (fun h=>absurd h hs) (fun _=>?_)
    (try dsimp only[ak]);conv=>whnf
    refine .pure _ _ ?_ ⟨rfl,rfl⟩ cM fun _=>?_
    ·exact aj _
    (try dsimp only[ak]);conv=>whnf
    refine And.intro (fun h=>absurd rfl h) (fun _=>?_)
    (try dsimp only[ak]);conv=>whnf
    refine And.intro (fun _=>?_) (fun h=>absurd h (by simp))
    (try dsimp only[ak]);conv=>whnf
    refine fM ?_;(conv=>whnf);refine ⟨?_,rfl⟩;conv=>whnf
    all_goals exact wk
 | true =>
   have cA:=cA rfl
   clear hmk
   rw [if_pos rfl,Sp.gI] at cM
   rw [Sp.gI] at cA
   refine aA.intro lay mixed Tryz.func10 (by kernel_rfl) rfl (by kernel_rfl) rfl fun hok=>?_
   (try dsimp only[aZ,aN]);(try dsimp only[ak]);conv=>whnf
   refine .pure _ _ ?_ ⟨rfl,rfl⟩ lC fun _=>?_
   ·exact aj _
   (try dsimp only[ak]);conv=>whnf
   refine .pure _ _ ?_ ⟨rfl,rfl⟩ ch fun _=>?_
   ·exact aj _
   (try dsimp only[ak]);conv=>whnf
   refine And.intro (fun h=>absurd h (by simp)) (fun _=>?_)
   (try dsimp only[ak]);conv=>whnf
   refine .pure _ _ ?_ ⟨rfl,rfl⟩ cK fun _=>?_
   ·exact aj _
   (try dsimp only[ak]);conv=>whnf
   refine bN (by simp) ?_
   (try dsimp only[ak]);conv=>whnf
   refine .pure _ _ ?_ ⟨rfl,rfl⟩ cz fun _=>?_
   ·all_goals exact wk
   (try dsimp only[ak]);conv=>whnf
   refine And.intro (fun _=>?_) (fun _=>?_)
   ·(try dsimp only[ak]);conv=>whnf
    refine .pure _ _ ?_ ⟨rfl,rfl⟩ lC fun _=>?_
    ·exact aj _
    (try dsimp only[ak]);conv=>whnf
    refine fM ?_;(conv=>whnf);refine ⟨?_,rfl⟩;conv=>whnf
    all_goals exact wk
   (try dsimp only[ak]);conv=>whnf
   refine .pure _ _ ?_ ⟨rfl,rfl⟩ cT fun _=>?_
   ·exact aj _
   (try dsimp only[ak]);conv=>whnf
   refine .pure _ _ ?_ ⟨rfl,rfl⟩ cQ fun _=>?_
   ·all_goals exact wk
   by_cases hs : S1 = 0
   ·subst hs
    have cO:=cO rfl
    refine And.intro (fun _=>?_) (fun h=>absurd rfl h)
    cases B with
    | false =>
      (try dsimp only[ak]);conv=>whnf
      refine .pure _ _ ?_ ⟨rfl,rfl⟩ cO fun _=>?_
      ·all_goals exact wk
      (try dsimp only[ak]);conv=>whnf
      refine And.intro (fun h=>absurd h (by simp)) (fun _=>?_)
      (try dsimp only[ak]);conv=>whnf
      refine .pure _ _ ?_ ⟨rfl,rfl⟩ cM fun _=>?_
      ·exact aj _
      (try dsimp only[ak]);conv=>whnf
      refine And.intro (fun h=>absurd rfl h) (fun _=>?_)
      (try dsimp only[ak]);conv=>whnf
      refine And.intro (fun h=>absurd h (by simp)) (fun _=>?_)
      (try dsimp only[ak]);conv=>whnf
      refine .pure _ _ ?_ ⟨rfl,rfl⟩ cA fun _=>?_
      ·all_goals exact wk
      (try dsimp only[ak]);conv=>whnf
      refine fM ?_;(conv=>whnf);refine ⟨?_,rfl⟩;conv=>whnf
      all_goals exact wk
    | true =>
      (try dsimp only[ak]);conv=>whnf
      refine .pure _ _ ?_ ⟨rfl,rfl⟩ cO fun _=>?_
      ·all_goals exact wk
      (try dsimp only[ak]);conv=>whnf
      refine And.intro (fun _=>?_) (fun h=>absurd h (by simp))
      (try dsimp only[ak]);conv=>whnf
      refine And.intro (fun h=>absurd h (by simp)) (fun _=>?_)
      (try dsimp only[ak]);conv=>whnf
      refine .pure _ _ ?_ ⟨rfl,rfl⟩ cM fun _=>?_
      ·exact aj _
      (try dsimp only[ak]);conv=>whnf
      refine And.intro (fun h=>absurd rfl h) (fun _=>?_)
      (try dsimp only[ak]);conv=>whnf
      refine And.intro (fun h=>absurd h (by simp)) (fun _=>?_)
      (try dsimp only[ak]);conv=>whnf
      refine .pure _ _ ?_ ⟨rfl,rfl⟩ cA fun _=>?_
      ·all_goals exact wk
      (try dsimp only[ak]);conv=>whnf
      refine fM ?_;(conv=>whnf);refine ⟨?_,rfl⟩;conv=>whnf
      all_goals exact wk
   ·refine And.intro (fun h=>absurd h hs) (fun _=>?_)
    (try dsimp only[ak]);conv=>whnf
    refine .pure _ _ ?_ ⟨rfl,rfl⟩ cM fun _=>?_
    ·exact aj _
    (try dsimp only[ak]);conv=>whnf
    refine And.intro (fun h=>absurd rfl h) (fun _=>?_)
    (try dsimp only[ak]);conv=>whnf
    refine And.intro (fun h=>absurd h (by simp)) (fun _=>?_)
    (try dsimp only[ak]);conv=>whnf
    refine .pure _ _ ?_ ⟨rfl,rfl⟩ cA fun _=>?_
    ·all_goals exact wk
    (try dsimp only[ak]);conv=>whnf
    refine fM ?_;(conv=>whnf);refine ⟨?_,rfl⟩;conv=>whnf
    all_goals exact wk

theorem KA {α : Type} {f : α -> AV} : ∀ {l : List AV},(∀ x ∈ l,∃ y,x = f y) -> ∃ m : List α,l = m.map f
 | [],_=>⟨[],rfl⟩
 | x :: l,h=>by
   obtain ⟨y,rfl⟩:=h x (by simp)
   obtain ⟨m,rfl⟩:=KA (l:=l) fun z hz=>h z (by simp [hz])
   exact ⟨y :: m,rfl⟩

theorem ZJ {sz : Nat} {k : IntKind} {A : AV} (h : (Sh.sl sz (.int k)).In A) : ∃ l : List Int,A = .sl sz (l.map (.int k)) .no:=by
 simp only [Sh.In] at h
 obtain ⟨l,rfl,hl⟩:=h
 obtain ⟨m,rfl⟩:=KA hl
 exact ⟨m,rfl⟩

theorem KN {k : IntKind} {A : AV} (h : (Sh.int k).In A) : ∃ n : Int,A = .int k n:=by
 simpa only [Sh.In] using h


theorem sl_of {α : Type} {f : α -> AV} {sh : Sh} {sz : Nat} {A : AV} (hf : ∀ x,sh.In x -> ∃ y,x = f y) (h : (Sh.sl sz sh).In A) : ∃ l : List α,A = .sl sz (l.map f) .no:=by
 unfold Sh.In at h
 obtain ⟨l,rfl,hl⟩:=h
 obtain ⟨m,rfl⟩:=KA fun x hx=>hf x (hl x hx)
 exact ⟨m,rfl⟩

structure Ak where
 page : Int
 inp : Str
 old : Str
 new : Str


abbrev shNd : Sh:=.st [.int .i64,.int .i64,.sl 1 (.int .i64)]
abbrev shFo : Sh:=.st [.int .i64,.sl 3 shNd,.int .i64]

theorem Nd.of {A : AV} (h : shNd.In A) : ∃ x : Nd,A = x.av:=by
 unfold Sh.In at h
 simp only [InL] at h
 obtain ⟨_,rfl,_,_,rfl,h0,_,_,rfl,h1,_,_,rfl,h2,rfl⟩:=h
 obtain ⟨a,rfl⟩:=KN h0
 obtain ⟨b,rfl⟩:=KN h1
 obtain ⟨c,rfl⟩:=ZJ h2
 exact ⟨⟨a,b,c⟩,rfl⟩

theorem Fo.of {A : AV} (h : shFo.In A) : ∃ x : Fo,A = x.av:=by
 unfold Sh.In at h
 simp only [InL] at h
 obtain ⟨_,rfl,_,_,rfl,h0,_,_,rfl,h1,_,_,rfl,h2,rfl⟩:=h
 obtain ⟨a,rfl⟩:=KN h0
 obtain ⟨b,rfl⟩:=sl_of (f:=Nd.av) (fun _ hx=>Nd.of hx) h1
 obtain ⟨c,rfl⟩:=KN h2
 exact ⟨⟨a,b,c⟩,rfl⟩

theorem Sp.ofL : ∀ {ks : List AV},(∀ k ∈ ks,∃ s : Sp,k = s.av) -> ∃ l : List Sp,ks = l.map Sp.av
 | [],_=>⟨[],rfl⟩
 | k :: ks,h=>by
   obtain ⟨s,hs⟩:=h k (by simp)
   obtain ⟨l,hl⟩:=Sp.ofL (fun u hu=>h u (List.mem_cons_of_mem _ hu))
   exact ⟨s :: l,by rw [hs,hl]; rfl⟩

theorem Sp.of {A : AV} (h : QJ A) : ∃ s : Sp,A = s.av:=by
 induction h with
 | mk v r ks _ ih =>
   obtain ⟨l,rfl⟩:=Sp.ofL ih
   exact ⟨.mk v l r,(Sp.gI v l r).symm⟩
theorem one : OneC:=r_of
end S
