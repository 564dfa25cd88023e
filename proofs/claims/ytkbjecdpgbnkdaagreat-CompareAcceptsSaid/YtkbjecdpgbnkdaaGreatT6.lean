/-
  Contracts of functions of the program, over the logic of the texts before. Nothing is assumed.
-/
import Derived.Test.YtkbjecdpgbnkdaaGreatT5

open Go Go.AL Go.Proofs
namespace S
set_option maxRecDepth 100000

mutual
theorem AY {σ : Nat -> Nat} {m : Nat} (hσ : ∀ k,k < m -> σ k = k) : ∀ (A : AV),dN m A = true -> iP σ A = A
 | .bool _,_ | .tt,_ | .ff,_ | .dec _,_ | .int _ _,_ | .str _,_ | .eP,_ | .aG,_ | .cp _,_ | .gK,_ | .aH,_ | .iT,_ | .und,_ | .sl _ _ .no,_ | .sl _ _ .full,_=>rfl
 | .jm t x,h=>by simp only [iP]; rw [AY hσ x (by simpa only [dN] using h)]
 | .sl _ _ (.own k),h=>by simp only [dN] at h; simp only [iP]; rw [hσ k (Nat.le_of_ble_eq_true h)]
 | .ms k _ _ _ _,h=>by simp only [dN] at h; simp only [iP]; rw [hσ k (Nat.le_of_ble_eq_true h)]
 | .ptr k _ _,h=>by simp only [dN] at h; simp only [iP]; rw [hσ k (Nat.le_of_ble_eq_true h)]
 | .mp k,h=>by simp only [dN] at h; simp only [iP]; rw [hσ k (Nat.le_of_ble_eq_true h)]
 | .gs k _,h=>by simp only [dN] at h; simp only [iP]; rw [hσ k (Nat.le_of_ble_eq_true h)]
 | .bm _ k,h=>by simp only [dN] at h; simp only [iP]; rw [hσ k (Nat.le_of_ble_eq_true h)]
 | .ag l,h=>by simp only [iP]; rw [Ez hσ l (by simpa only [dN] using h)]
 | .eG l,h=>by simp only [iP]; rw [Ez hσ l (by simpa only [dN] using h)]
 | .fn _ cap,h=>by simp only [iP]; rw [Ez hσ cap (by simpa only [dN] using h)]
theorem Ez {σ : Nat -> Nat} {m : Nat} (hσ : ∀ k,k < m -> σ k = k) : ∀ (l : List AV),iM m l = true -> Dx σ l = l
 | [],_=>rfl
 | x :: l,h=>by
   simp only [iM] at h
   cases hx : dN m x with
   | false=>rw [hx] at h; cases h
   | true=>rw [hx] at h; simp only [Dx]; rw [AY hσ x hx,Ez hσ l h]
end

theorem VJ {σ : Nat -> Nat} {m : Nat} (hσ : ∀ k,k < m -> σ k = k) : ∀ (l : List (AV × AV)),oq m l = true -> MC σ l = l
 | [],_=>rfl
 | (x,y) :: l,h=>by
   simp only [oq] at h
   cases hx : dN m x with
   | false=>rw [hx] at h; cases h
   | true =>
     cases hy : dN m y with
     | false=>rw [hx,hy] at h; cases h
     | true=>rw [hx,hy] at h; simp only [MC]; rw [AY hσ x hx,AY hσ y hy,VJ hσ l h]

def Lm (m : Nat) : Heap -> Prop
 | []=>True
 | (_,o) :: H=>(match o with | .dU _ es=>oq m es = true | o=>Gl m o = true) /\ Lm m H

theorem Lm.mem {m : Nat} : ∀ {H : Heap},Lm m H -> ∀ k o,(k,o) ∈ H -> (match o with | .dU _ es=>oq m es = true | o=>Gl m o = true)
 | [],_,_,_,h=>by simp at h
 | (i,x) :: H,h,k,o,hm=>by
   rcases List.mem_cons.1 hm with e | e
   ·injection e with e1 e2; subst e2; exact h.1
   ·exact h.2.mem k o e

theorem VI {σ : Nat -> Nat} {m : Nat} (hσ : ∀ k,k < m -> σ k = k) {o : HO} (h : match o with | .dU _ es=>oq m es = true | o=>Gl m o = true) : Me σ o = o:=by
 cases o with
 | box A=>simp only [Me]; rw [AY hσ A h]
 | dU sh es=>simp only [Me]; rw [VJ hσ es h]
 | _=>rfl

theorem zM : ∀ {m : Nat} {H : Heap},jP m H = true -> ∀ k o,(k,o) ∈ H -> k < m
 | 0,[],_,_,_,h=>by simp at h
 | 0,_ :: _,h,_,_,_=>by simp [jP] at h
 | _ + 1,[],h,_,_,_=>by simp [jP] at h
 | m + 1,(i,x) :: H,h,k,o,hm=>by
   simp only [jP] at h
   cases hb : Nat.beq i m with
   | false=>rw [hb] at h; cases h
   | true =>
     rw [hb] at h
     have:=Nat.eq_of_beq_eq_true hb
     rcases List.mem_cons.1 hm with e | e
     ·injection e with e1 e2; omega
     ·have:=zM h k o e; omega

theorem Fz : ∀ {m : Nat} {H : Heap},jP m H = true -> ∀ k o,(k,o) ∈ H -> hget H k = some o
 | 0,[],_,_,_,h=>by simp at h
 | 0,_ :: _,h,_,_,_=>by simp [jP] at h
 | _ + 1,[],h,_,_,_=>by simp [jP] at h
 | m + 1,(i,x) :: H,h,k,o,hm=>by
   simp only [jP] at h
   cases hb : Nat.beq i m with
   | false=>rw [hb] at h; cases h
   | true =>
     rw [hb] at h
     have hi:=Nat.eq_of_beq_eq_true hb
     simp only [hget]
     rcases List.mem_cons.1 hm with e | e
     ·injection e with e1 e2; subst e1 e2; simp
     ·have:=zM h k o e
      have hbk : Nat.beq i k = false:=by
       cases hb : Nat.beq i k with
       | false=>rfl
       | true=>have:=Nat.eq_of_beq_eq_true hb; omega
      rw [hbk]; exact Fz h k o e

theorem MW {m i : Nat} : ix (List.range m) i = if i < m then some i else none:=by
 cases h : ix (List.range m) i with
 | some k =>
   obtain ⟨hk,e⟩:=DF h
   have hk' : k < m:=by simpa using hk
   rw [List.getElem_range] at e
   rw [if_pos (by omega),e]
 | none =>
   have:=Ku h
   rw [if_neg (by simpa using this)]

theorem VF {m n k : Nat} (h : k < m) : sg (List.range m) n k = k:=by
 rw [L8 (by simpa using h),List.getElem_range]

theorem LP {m n : Nat} {G Y : Heap} : ∀ {X : Heap},(∀ x ∈ X,m <= x.1) -> lG (List.range m) n G (X ++ Y) = X ++ lG (List.range m) n G Y
 | [],_=>rfl
 | (i,o) :: X,h=>by
   have hi:=h (i,o) (by simp)
   simp only [List.cons_append,lG,MW]
   rw [if_neg (Nat.not_lt.2 hi),LP fun x hx=>h x (by simp [hx])]

theorem Ir {m n : Nat} {G : Heap} : ∀ {j : Nat} {Hs Gs : Heap},j <= m -> jP j Hs = true -> jP j Gs = true -> (∀ i o,(i,o) ∈ Gs -> hget G i = some o /\ Me (sg (List.range m) n) o = o) -> lG (List.range m) n G Hs = Gs
 | 0,[],[],_,_,_,_=>rfl
 | 0,_ :: _,_,_,h,_,_=>by simp [jP] at h
 | 0,[],_ :: _,_,_,h,_=>by simp [jP] at h
 | _ + 1,[],_,_,h,_,_=>by simp [jP] at h
 | _ + 1,_ :: _,[],_,_,h,_=>by simp [jP] at h
 | j + 1,(i,o) :: Hs,(i',o') :: Gs,hj,h,h',hg=>by
   simp only [jP] at h h'
   cases hb : Nat.beq i j with
   | false=>rw [hb] at h; cases h
   | true =>
     cases hb' : Nat.beq i' j with
     | false=>rw [hb'] at h'; cases h'
     | true =>
       rw [hb] at h; rw [hb'] at h'
       obtain rfl:=Nat.eq_of_beq_eq_true hb
       obtain rfl:=Nat.eq_of_beq_eq_true hb'
       obtain ⟨g1,g2⟩:=hg i' o' (by simp)
       simp only [lG,MW]
       rw [if_pos (by omega),Ir (by omega) h h' fun i o hm=>hg i o (by simp [hm])]
       simp only [g1,g2]

theorem wS {m n : Nat} {k : HO -> Prop} {Y : Heap} (hn : n < m) : ∀ {X : Heap},(∀ x ∈ X,m <= x.1) -> (iJ (X ++ Y) n k ↔ iJ Y n k)
 | [],_=>Iff.rfl
 | (i,o) :: X,h=>by
   have hi:=h (i,o) (by simp)
   have : Nat.beq i n = false:=by
    cases hb : Nat.beq i n with
    | false=>rfl
    | true=>have:=Nat.eq_of_beq_eq_true hb; simp at hi; omega
   simp only [List.cons_append,iJ,this]
   exact wS hn fun x hx=>h x (by simp [hx])

theorem aA.top {f : Nat} {args : List AV} {R : AV} {H G : Heap} (m : Nat) (X : Heap) (hX : ∀ x ∈ X,m <= x.1) (h : aA Tryz.prog f args H R G) (hf : jP m H = true /\ jP m G = true)
  (hH : Lm m H) (hG : Lm m G) (hb : iM m args = true /\ dN m R = true) (hl : vT (nextId (X ++ H)) (List.range m) = true /\ nodupB (List.range m) = true) : aA Tryz.prog f args (X ++ H) R (X ++ G):=by
 have hσ : ∀ n k,k < m -> sg (List.range m) n k = k:=fun n k hk=>VF hk
 have hlen : (List.range m).length = m:=List.length_range
 have sub : ∀ K : Heap,(∀ k o,(k,o) ∈ K -> hget H k = some o /\ k < m) -> Lm m K -> Yv (sg (List.range m) (nextId (X ++ H))) m (X ++ H) K:=by
  intro K
  induction K with
  | nil=>intros; trivial
  | cons y K ih =>
    obtain ⟨k,o⟩:=y
    intro hk hB
    obtain ⟨g1,g2⟩:=hk k o (by simp)
    refine ⟨?_,ih (fun k o hm=>hk k o (by simp [hm])) hB.2⟩
    rw [hσ _ k g2]
    refine (wS g2 hX).2 (dB.2 ⟨o,g1,?_,hB.1⟩)
    rw [VI (hσ _) hB.1]
    exact zF o
 have:=aA.frame (H:=X ++ H) (args:=args) (List.range m) h ⟨hl.1,hl.2,by rw [hlen]; exact hf.1,by rw [hlen]; exact hb.1⟩
  (by rw [hlen]; exact sub H (fun k o hm=>⟨Fz hf.1 k o hm,zM hf.1 k o hm⟩) hH) (by rw [Ez (hσ _) args hb.1]; exact ak _)
 rw [AY (hσ _) R hb.2] at this
 have e : Ic (List.range m) G (X ++ H) = X ++ G:=by
  unfold Ic
  rw [LP hX,Ir (Nat.le_refl m) hf.1 hf.2 fun i o hm=>⟨Fz hf.2 i o hm,VI (hσ _) (hG.mem i o hm)⟩]
  cases G with
  | nil=>rfl
  | cons y G =>
    obtain ⟨k,o⟩:=y
    have hk:=zM hf.2 k o (by simp)
    simp only [newH,hlen]
    have : Nat.ble m k = false:=by
     cases hb : Nat.ble m k with
     | false=>rfl
     | true=>have:=Nat.le_of_ble_eq_true hb; omega
    rw [this]
 rwa [e] at this

abbrev MI:=List (Int × Int)

def iE : MI -> Int -> Option Int
 | [],_=>none
 | (y,v) :: es,x=>if y = x then some v else iE es x

def oV : MI -> Int -> Int -> MI
 | [],x,v=>[(x,v)]
 | (y,u) :: es,x,v=>if y = x then (x,v) :: es else (y,u) :: oV es x v

abbrev encI (es : MI) : List (AV × AV):=es.map fun e=>(.int .i64 e.1,.int .i64 e.2)

theorem DC {x y : Int} : Hw (.int .i64 x) = Hw (.int .i64 y) ↔ x = y:=by simp [Hw]

theorem vS {es : MI} {x r : Int} {k : AV -> Prop} (hl : iE es x = some r) (h : k (.eG [.int .i64 r,.tt])) : wz (encI es) (.int .i64 x) fun r=>uF true (.int .i64 0) r k:=by
 refine ⟨some (.int .i64 r),?_,h⟩
 induction es with
 | nil=>simp [iE] at hl
 | cons e es ih =>
   obtain ⟨y,v⟩:=e
   simp only [iE] at hl
   by_cases hy : y = x
   ·subst hy
    rw [if_pos rfl] at hl
    obtain rfl:=Option.some.inj hl
    exact ⟨_,List.mem_cons_self,rfl,rfl⟩
   ·rw [if_neg hy] at hl
    obtain ⟨z,hz,h3,h4⟩:=ih hl
    exact ⟨z,by simp only [encI,List.map_cons,List.mem_cons]; exact .inr hz,h3,h4⟩

theorem qH {es : MI} {x : Int} {k : AV -> Prop} (hl : iE es x = none) (h : k (.eG [.int .i64 0,.ff])) : wz (encI es) (.int .i64 x) fun r=>uF true (.int .i64 0) r k:=by
 refine ⟨none,?_,h⟩
 induction es with
 | nil=>intro z hz; simp [encI] at hz
 | cons e es ih =>
   obtain ⟨y,v⟩:=e
   simp only [iE] at hl
   by_cases hy : y = x
   ·subst hy; rw [if_pos rfl] at hl; cases hl
   ·rw [if_neg hy] at hl
    intro z hz
    simp only [encI,List.map_cons,List.mem_cons] at hz
    rcases hz with rfl | hz
    ·exact fun e=>hy (DC.1 e)
    ·exact ih hl z hz

theorem CV {es : MI} {x v : Int} {k : List (AV × AV) -> Prop} (h : k (encI (oV es x v))) : Vb (encI es) (.int .i64 x) (.int .i64 v) k:=by
 refine ⟨_,?_,h⟩
 clear h
 induction es with
 | nil=>exact .inl ⟨by simp [encI],rfl⟩
 | cons e es ih =>
   obtain ⟨y,u⟩:=e
   by_cases hy : y = x
   ·subst hy
    exact .inr ⟨0,(.int .i64 y,.int .i64 u),rfl,rfl,by simp [oV,encI]⟩
   ·simp only [oV,if_neg hy]
    rcases ih with ⟨h1,h2⟩ | ⟨j,z,h1,h2,h3⟩
    ·refine .inl ⟨?_,?_⟩
     ·intro z hz
      simp only [encI,List.map_cons,List.mem_cons] at hz
      rcases hz with rfl | hz
      ·exact fun e=>hy (DC.1 e)
      ·exact h1 z hz
     ·simp only [encI,List.map_cons,List.cons_append] at h2 ⊢
      rw [h2]
    ·refine .inr ⟨j + 1,z,by simpa [encI] using h1,h2,?_⟩
     simp only [encI,List.map_cons,List.set_cons_succ] at h3 ⊢
     rw [h3]

theorem jO {es : MI} {x y v : Int} : iE (oV es x v) y = if x = y then some v else iE es y:=by
 induction es with
 | nil=>simp [oV,iE]
 | cons e es ih =>
   obtain ⟨z,u⟩:=e
   simp only [oV]
   by_cases hz : z = x
   ·subst hz
    rw [if_pos rfl]
    simp only [iE]
    split <;> rfl
   ·rw [if_neg hz]
    simp only [iE,ih]
    by_cases h1 : z = y
    ·subst h1
     rw [if_pos rfl,if_pos rfl,if_neg (fun e=>hz e.symm)]
    ·rw [if_neg h1,if_neg h1]

theorem iw (n : Nat) : ∀ es : MI,oq n (encI es) = true
 | []=>rfl
 | _ :: es=>by
   show (match true,true with | true,true=>oq n (encI es) | _,_=>false) = true
   exact iw n es

def dJ (s : Int -> Bool) (i : Int) (b : Bool) : Int -> Bool:=fun j=>if j = i then b else s j

theorem vF {T : Tb} (h : bJ T) (d : Nat) : ∀ (r : Int),T.Rf r -> r <= d -> ∀ (s s' : Int -> Bool),(∀ j,0 <= j -> j < T.n -> T.lvl r <= T.pl j -> s j = s' j) -> ev T.nodes s r = ev T.nodes s' r:=by
 induction d with
 | zero =>
   intro r hr hd s s' _
   have:=hr.1
   obtain rfl : r = 0:=by omega
   rfl
 | succ d ih =>
   intro r hr hd s s' hs
   by_cases h2 : r < 2
   ·have:=hr.1
    rcases (by omega : r = 0 \/ r = 1) with rfl | rfl <;> rfl
   ·obtain ⟨g,e⟩:=h.at hr (by omega)
    obtain ⟨k1,k2,k3,k4,k5,k6⟩:=h.kid hr (by omega)
    have hv : s (T.node r).1 = s' (T.node r).1:=hs _ g.v.1 g.v.2 (by rw [show T.lvl r = T.pl (T.node r).1 from if_neg h2]; exact Int.le_refl _)
    have hlo:=g.lo.2
    have hhi:=g.hi.2
    have:=hr.2
    rw [e s,e s',hv,ih _ k2 (by omega) s s' fun j a b c=>hs j a b (by omega),ih _ k1 (by omega) s s' fun j a b c=>hs j a b (by omega)]

theorem vC {T : Tb} (h : bJ T) {r i : Int} (hr : T.Rf r) (hi : 0 <= i /\ i < T.n) (hl : T.pl i < T.lvl r) (s : Int -> Bool) (b : Bool) : ev T.nodes (dJ s i b) r = ev T.nodes s r:=by
 refine vF h r.toNat r hr (by have:=hr.1; omega) _ _ fun j h0 h1 h2=>?_
 unfold dJ
 rw [if_neg]
 rintro rfl
 omega

def Dh (T : Tb) (i : Int) (b : Bool) (D : MI) : Prop :=
 ∀ r x,iE D r = some x -> T.Rf r /\ T.Rf x /\ T.lvl r <= T.lvl x /\ ∀ s,ev T.nodes s x = ev T.nodes (dJ s i b) r

theorem Dh.ext {T T' : Tb} {i : Int} {b : Bool} {D : MI} (h : Dh T i b D) (x : Xt T T') : Dh T' i b D:=by
 intro r y hl
 obtain ⟨h1,h2,h3,h4⟩:=h r y hl
 exact ⟨x.rf h1,x.rf h2,by rw [x.lvl h1,x.lvl h2]; exact h3,fun s=>by rw [x.ev h2,x.ev h1]; exact h4 s⟩

theorem Dh.mark {T : Tb} {i : Int} {b : Bool} {D : MI} (h : Dh T i b D) {r x : Int} (g : T.Rf r /\ T.Rf x /\ T.lvl r <= T.lvl x /\ ∀ s,ev T.nodes s x = ev T.nodes (dJ s i b) r) : Dh T i b (oV D r x):=by
 intro r' x' hl
 rw [jO] at hl
 split at hl
 ·rename_i e
  subst e
  obtain rfl:=Option.some.inj hl
  exact g
 ·exact h r' x' hl

abbrev byI (b : Bool) : Int:=if b = true then 1 else 0
abbrev PI (T : Tb) (i : Int) (b : Bool) (D : MI) : Heap :=
 [(10,.box (.fn 270 [.ptr 5 [] 0,.ptr 6 [] 0,.ptr 9 [] 0,.ptr 7 [] 0,.ptr 10 [] 0])),(9,.box (.mp 8)),(8,.dU (.int .i64 0) (encI D)),(7,.box (.int .i64 (byI b))),(6,.box (.int .i64 i)),(5,.box (.ptr 0 [] 0))] ++ iH T

theorem bndT (T : Tb) (m : Nat) (h : 5 <= m) : Lm m (iH T):=by
 have h1 : Nat.blt 1 m = true:=Nat.ble_eq_true_of_le (by omega)
 have h2 : Nat.blt 2 m = true:=Nat.ble_eq_true_of_le (by omega)
 have h3 : Nat.blt 3 m = true:=Nat.ble_eq_true_of_le (by omega)
 have h4 : Nat.blt 4 m = true:=Nat.ble_eq_true_of_le (by omega)
 refine ⟨aF _ _,aF _ _,rfl,rfl,?_,trivial⟩
 simp only [Gl,dN,iM,h1,h2,h3,h4]

theorem bndW (T : Tb) (i : Int) (b : Bool) (D : MI) : Lm 11 (PI T i b D) :=
 ⟨rfl,rfl,iw _ _,rfl,rfl,rfl,bndT T 11 (by decide)⟩

abbrev Qp (r : Int) : List AV:=[.int .i64 r,.ptr 5 [] 0,.ptr 6 [] 0,.ptr 9 [] 0,.ptr 7 [] 0,.ptr 10 [] 0]

structure CmP (N : Nat) (i : Int) (b : Bool) (T T' : Tb) (D' : MI) (r x : Int) : Prop where
 good : bJ T'
 ext : Xt T T'
 rf : T'.Rf x
 lvl : T.lvl r <= T'.lvl x
 val : ∀ s,ev T'.nodes s x = ev T.nodes (dJ s i b) r
 done : Dh T' i b D'

theorem Qk (T : Tb) (i : Int) (b : Bool) (D : MI) (hT : bJ T) (hn : T.nodes.length <= 1000000000) (hi0 : 0 <= i) (hi : i < T.n) (r x : Int) (hr : T.Rf r) (hlv : ¬ T.pl i < T.lvl r) (hl : iE D r = some x) :
  aA Tryz.prog 270 (Qp r) (PI T i b D) (.int .i64 x) (PI T i b D):=by
 have hpi : T.place.getD ((i.toNat : Nat) : Int).toNat 0 = T.pl i:=by unfold Tb.pl; rw [Int.toNat_natCast]
 have ql:=mY T hT hn r hr
 refine aA.intro lay mixed Tryz.func270 (by kernel_rfl) rfl (by kernel_rfl) rfl fun hok=>?_
 (try dsimp only[aZ,aN]);(try dsimp only[aj]);conv=>whnf
 refine aS.both [] [3,6,7,9] ⟨[false,true,false,false,true,true,false,false,true,false,true],by kernel_rfl,?_⟩
 conv=>whnf
 refine .gen _ _ (xM [(10,_),(9,_),(8,_),(7,_),(6,_),(5,_)] (by simp) ql (fun _=>rfl) (fun _=>rfl) rfl) fun _=>?_
 conv=>whnf
 (refine aI (by (conv=>whnf)<;>exact rfl) ?_;(conv=>whnf))
 (refine aI (by (conv=>whnf)<;>exact rfl) ?_;(conv=>whnf))
 (refine aI (by (conv=>whnf)<;>exact rfl) ?_;(conv=>whnf))
 refine ⟨⟨hi0,by rw [hT.yj]; exact hi⟩,?_⟩
 conv=>whnf
 rw [Nat.zero_add]
 refine dQ 0 ⟨by omega,by rw [Int.toNat_of_nonneg hi0,hT.yj]; exact hi⟩ ?_
 conv=>whnf
 rw [hpi]
 refine ⟨rfl,?_⟩
 conv=>whnf
 refine aI ?_ ?_
 ·conv=>whnf
  refine dQ 0 ⟨by omega,by rw [Int.toNat_of_nonneg hi0,hT.yj]; exact hi⟩ ?_
  conv=>whnf
  rw [hpi]
  exact ⟨rfl,rfl⟩
 (try dsimp only[aj]);conv=>whnf
 refine And.intro (fun h=>absurd h hlv) (fun _=>?_)
 (try dsimp only[aj]);conv=>whnf
 refine vS hl ?_
 (try dsimp only[aj]);conv=>whnf
 refine ⟨⟨_,_,.refl _ _,?_⟩⟩
 conv=>whnf
 refine ⟨?_,rfl,by simp [nextId],.mk ?_ (by simp [ay])⟩
 ·all_goals exact wk
 ·repeat' first|exact rfl|exact trivial|exact wR|exact lR _|apply aI
  all_goals first | exact aJ _ | exact aF _ _ | exact iw _ _ | (simp; done) | skip

theorem Jo (T : Tb) (i : Int) (b : Bool) (D : MI) (hT : bJ T) (hn : T.nodes.length <= 1000000000) (hi0 : 0 <= i) (hi : i < T.n) (r : Int) (hr : T.Rf r) (hlv : T.pl i < T.lvl r) :
  aA Tryz.prog 270 (Qp r) (PI T i b D) (.int .i64 r) (PI T i b D):=by
 have hpi : T.place.getD ((i.toNat : Nat) : Int).toNat 0 = T.pl i:=by unfold Tb.pl; rw [Int.toNat_natCast]
 have ql:=mY T hT hn r hr
 refine aA.intro lay mixed Tryz.func270 (by kernel_rfl) rfl (by kernel_rfl) rfl fun hok=>?_
 (try dsimp only[aZ,aN]);(try dsimp only[aj]);conv=>whnf
 refine aS.both [] [3,6,7,9] ⟨[false,true,false,false,true,true,false,false,true,false,true],by kernel_rfl,?_⟩
 conv=>whnf
 refine .gen _ _ (xM [(10,_),(9,_),(8,_),(7,_),(6,_),(5,_)] (by simp) ql (fun _=>rfl) (fun _=>rfl) rfl) fun _=>?_
 conv=>whnf
 (refine aI (by (conv=>whnf)<;>exact rfl) ?_;(conv=>whnf))
 (refine aI (by (conv=>whnf)<;>exact rfl) ?_;(conv=>whnf))
 (refine aI (by (conv=>whnf)<;>exact rfl) ?_;(conv=>whnf))
 refine ⟨⟨hi0,by rw [hT.yj]; exact hi⟩,?_⟩
 conv=>whnf
 rw [Nat.zero_add]
 refine dQ 0 ⟨by omega,by rw [Int.toNat_of_nonneg hi0,hT.yj]; exact hi⟩ ?_
 conv=>whnf
 rw [hpi]
 refine ⟨rfl,?_⟩
 conv=>whnf
 refine aI ?_ ?_
 ·conv=>whnf
  refine dQ 0 ⟨by omega,by rw [Int.toNat_of_nonneg hi0,hT.yj]; exact hi⟩ ?_
  conv=>whnf
  rw [hpi]
  exact ⟨rfl,rfl⟩
 (try dsimp only[aj]);conv=>whnf
 refine And.intro (fun _=>?_) (fun h=>absurd hlv h)
 (try dsimp only[aj]);conv=>whnf
 refine ⟨⟨_,_,.refl _ _,?_⟩⟩
 conv=>whnf
 refine ⟨?_,rfl,by simp [nextId],.mk ?_ (by simp [ay])⟩
 ·all_goals exact wk
 ·repeat' first|exact rfl|exact trivial|exact wR|exact lR _|apply aI
  all_goals first | exact aJ _ | exact aF _ _ | exact iw _ _ | (simp; done) | skip

theorem UO (T T' : Tb) (i : Int) (b : Bool) (D : MI) (hT : bJ T) (hn : T.nodes.length <= 1000000000) (hi0 : 0 <= i) (hi : i < T.n) (r x : Int) (hr : T.Rf r) (h2 : 2 <= r) (hlv : ¬ T.pl i < T.lvl r) (hl : iE D r = none)
  (hv : (T.nodes.getD (r - 2).toNat default).1 = i)
  (qc : aA Tryz.prog 133 [.ptr 0 [] 0,.int .i64 (byI b),.int .i64 (T.nodes.getD (r - 2).toNat default).2.2,.int .i64 (T.nodes.getD (r - 2).toNat default).2.1] (iH T) (.int .i64 x) (iH T')) :
  aA Tryz.prog 270 (Qp r) (PI T i b D) (.int .i64 x) (PI T' i b (oV D r x)):=by
 have hpi : T.place.getD ((i.toNat : Nat) : Int).toNat 0 = T.pl i:=by unfold Tb.pl; rw [Int.toNat_natCast]
 have ql:=mY T hT hn r hr
 have hr2:=hr.2
 refine aA.intro lay mixed Tryz.func270 (by kernel_rfl) rfl (by kernel_rfl) rfl fun hok=>?_
 (try dsimp only[aZ,aN]);(try dsimp only[aj]);conv=>whnf
 refine aS.both [] [3,6,7,9] ⟨[false,true,false,false,true,true,false,false,true,false,true],by kernel_rfl,?_⟩
 conv=>whnf
 refine .gen _ _ (xM [(10,_),(9,_),(8,_),(7,_),(6,_),(5,_)] (by simp) ql (fun _=>rfl) (fun _=>rfl) rfl) fun _=>?_
 conv=>whnf
 (refine aI (by (conv=>whnf)<;>exact rfl) ?_;(conv=>whnf))
 (refine aI (by (conv=>whnf)<;>exact rfl) ?_;(conv=>whnf))
 (refine aI (by (conv=>whnf)<;>exact rfl) ?_;(conv=>whnf))
 refine ⟨⟨hi0,by rw [hT.yj]; exact hi⟩,?_⟩
 conv=>whnf
 rw [Nat.zero_add]
 refine dQ 0 ⟨by omega,by rw [Int.toNat_of_nonneg hi0,hT.yj]; exact hi⟩ ?_
 conv=>whnf
 rw [hpi]
 refine ⟨rfl,?_⟩
 conv=>whnf
 refine aI ?_ ?_
 ·conv=>whnf
  refine dQ 0 ⟨by omega,by rw [Int.toNat_of_nonneg hi0,hT.yj]; exact hi⟩ ?_
  conv=>whnf
  rw [hpi]
  exact ⟨rfl,rfl⟩
 (try dsimp only[aj]);conv=>whnf
 refine And.intro (fun h=>absurd h hlv) (fun _=>?_)
 (try dsimp only[aj]);conv=>whnf
 refine qH hl ?_
 (try dsimp only[aj]);conv=>whnf
 refine ⟨bC (by omega) (by omega),?_⟩
 (try dsimp only[aj]);conv=>whnf
 refine dQ default ⟨by omega,by omega⟩ ?_
 (try dsimp only[aj]);conv=>whnf
 refine And.intro (fun _=>?_) (fun h=>absurd hv h)
 (try dsimp only[aj]);conv=>whnf
 refine .gen _ _ (xM [(11,_),(10,_),(9,_),(8,_),(7,_),(6,_),(5,_)] (by simp) qc (fun _=>rfl) (fun _=>rfl) rfl) fun _=>?_
 (try dsimp only[aj]);conv=>whnf
 refine CV ?_
 (try dsimp only[aj]);conv=>whnf
 refine ⟨⟨_,_,.refl _ _,?_⟩⟩
 conv=>whnf
 refine ⟨?_,rfl,by simp [nextId],.mk ?_ (by simp [ay])⟩
 ·all_goals exact wk
 ·repeat' first|exact rfl|exact trivial|exact wR|exact lR _|apply aI
  all_goals first | exact aJ _ | exact aF _ _ | exact iw _ _ | (simp; done) | skip

theorem UQ (T T0 T1 T2 T3 : Tb) (i : Int) (b : Bool) (D D1 D2 : MI) (hT : bJ T) (hn : T.nodes.length <= 1000000000) (hi0 : 0 <= i) (hi : i < T.n) (r e xh xl x : Int) (hr : T.Rf r) (h2 : 2 <= r) (hlv : ¬ T.pl i < T.lvl r) (hl : iE D r = none)
  (hv : ¬ (T.nodes.getD (r - 2).toNat default).1 = i)
  (qe : aA Tryz.prog 129 [.ptr 0 [] 0,.int .i64 (T.nodes.getD (r - 2).toNat default).1] (iH T) (.int .i64 e) (iH T0))
  (qh : aA Tryz.prog 270 (Qp (T.nodes.getD (r - 2).toNat default).2.2) (PI T0 i b D) (.int .i64 xh) (PI T1 i b D1))
  (qo : aA Tryz.prog 270 (Qp (T.nodes.getD (r - 2).toNat default).2.1) (PI T1 i b D1) (.int .i64 xl) (PI T2 i b D2))
  (qc : aA Tryz.prog 133 [.ptr 0 [] 0,.int .i64 e,.int .i64 xh,.int .i64 xl] (iH T2) (.int .i64 x) (iH T3)) :
  aA Tryz.prog 270 (Qp r) (PI T i b D) (.int .i64 x) (PI T3 i b (oV D2 r x)):=by
 have hpi : T.place.getD ((i.toNat : Nat) : Int).toNat 0 = T.pl i:=by unfold Tb.pl; rw [Int.toNat_natCast]
 have ql:=mY T hT hn r hr
 have hr2:=hr.2
 have th:=fun K : AV=>aA.top 11 [(11,.box K)] (by simp) qh ⟨rfl,rfl⟩ (bndW _ _ _ _) (bndW _ _ _ _) ⟨rfl,rfl⟩ ⟨rfl,rfl⟩
 have tl:=fun K : AV=>aA.top 11 [(11,.box K)] (by simp) qo ⟨rfl,rfl⟩ (bndW _ _ _ _) (bndW _ _ _ _) ⟨rfl,rfl⟩ ⟨rfl,rfl⟩
 refine aA.intro lay mixed Tryz.func270 (by kernel_rfl) rfl (by kernel_rfl) rfl fun hok=>?_
 (try dsimp only[aZ,aN]);(try dsimp only[aj]);conv=>whnf
 refine aS.both [] [3,6,7,9] ⟨[false,true,false,false,true,true,false,false,true,false,true],by kernel_rfl,?_⟩
 conv=>whnf
 refine .gen _ _ (xM [(10,_),(9,_),(8,_),(7,_),(6,_),(5,_)] (by simp) ql (fun _=>rfl) (fun _=>rfl) rfl) fun _=>?_
 conv=>whnf
 (refine aI (by (conv=>whnf)<;>exact rfl) ?_;(conv=>whnf))
 (refine aI (by (conv=>whnf)<;>exact rfl) ?_;(conv=>whnf))
 (refine aI (by (conv=>whnf)<;>exact rfl) ?_;(conv=>whnf))
 refine ⟨⟨hi0,by rw [hT.yj]; exact hi⟩,?_⟩
 conv=>whnf
 rw [Nat.zero_add]
 refine dQ 0 ⟨by omega,by rw [Int.toNat_of_nonneg hi0,hT.yj]; exact hi⟩ ?_
 conv=>whnf
 rw [hpi]
 refine ⟨rfl,?_⟩
 conv=>whnf
 refine aI ?_ ?_
 ·conv=>whnf
  refine dQ 0 ⟨by omega,by rw [Int.toNat_of_nonneg hi0,hT.yj]; exact hi⟩ ?_
  conv=>whnf
  rw [hpi]
  exact ⟨rfl,rfl⟩
 (try dsimp only[aj]);conv=>whnf
 refine And.intro (fun h=>absurd h hlv) (fun _=>?_)
 (try dsimp only[aj]);conv=>whnf
 refine qH hl ?_
 (try dsimp only[aj]);conv=>whnf
 refine ⟨bC (by omega) (by omega),?_⟩
 (try dsimp only[aj]);conv=>whnf
 refine dQ default ⟨by omega,by omega⟩ ?_
 (try dsimp only[aj]);conv=>whnf
 refine And.intro (fun h=>absurd h hv) (fun _=>?_)
 (try dsimp only[aj]);conv=>whnf
 refine aS.both [0] [5,7,9,11] ⟨[false,false,true,false,false,false,true,false,false,false,true,false,false,false,true],by kernel_rfl,?_⟩
 conv=>whnf
 refine .gen _ _ (xM [(11,_),(10,_),(9,_),(8,_),(7,_),(6,_),(5,_)] (by simp) qe (fun _=>rfl) (fun _=>rfl) rfl) fun _=>?_
 conv=>whnf
 (refine aI (by (conv=>whnf)<;>exact rfl) ?_;(conv=>whnf))
 (refine aI (by (conv=>whnf)<;>exact rfl) ?_;(conv=>whnf))
 (refine aI (by (conv=>whnf)<;>exact rfl) ?_;(conv=>whnf))
 refine .gen _ _ (th _) fun _=>?_
 conv=>whnf
 (refine aI (by (conv=>whnf)<;>exact rfl) ?_;(conv=>whnf))
 (refine aI (by (conv=>whnf)<;>exact rfl) ?_;(conv=>whnf))
 (refine aI (by (conv=>whnf)<;>exact rfl) ?_;(conv=>whnf))
 (refine aI (by (conv=>whnf)<;>exact rfl) ?_;(conv=>whnf))
 (refine aI (by (conv=>whnf)<;>exact rfl) ?_;(conv=>whnf))
 refine .gen _ _ (tl _) fun _=>?_
 conv=>whnf
 (refine aI (by (conv=>whnf)<;>exact rfl) ?_;(conv=>whnf))
 refine .gen _ _ (xM [(11,_),(10,_),(9,_),(8,_),(7,_),(6,_),(5,_)] (by simp) qc (fun _=>rfl) (fun _=>rfl) rfl) fun _=>?_
 conv=>whnf
 (refine aI (by (conv=>whnf)<;>exact rfl) ?_;(conv=>whnf))
 refine CV ?_
 (try dsimp only[aj]);conv=>whnf
 refine ⟨⟨_,_,.refl _ _,?_⟩⟩
 conv=>whnf
 refine ⟨?_,rfl,by simp [nextId],.mk ?_ (by simp [ay])⟩
 ·all_goals exact wk
 ·repeat' first|exact rfl|exact trivial|exact wR|exact lR _|apply aI
  all_goals first | exact aJ _ | exact aF _ _ | exact iw _ _ | (simp; done) | skip

theorem UN (N : Nat) (i : Int) (b : Bool) (hi0 : 0 <= i) (d : Nat) : ∀ (T : Tb) (D : MI),bJ T -> T.n <= N -> i < T.n -> Dh T i b D -> ∀ (r : Int),T.Rf r -> T.n - T.lvl r <= d -> T.nodes.length + 2 ^ d * (2 ^ N + 2) <= 1000000000 ->
  ∃ T' D' x,aA Tryz.prog 270 (Qp r) (PI T i b D) (.int .i64 x) (PI T' i b D') /\ CmP N i b T T' D' r x /\ T'.nodes.length + (2 ^ N + 2) <= T.nodes.length + 2 ^ d * (2 ^ N + 2):=by
 have h2N : 0 < 2 ^ N:=Nat.pow_pos (by decide)
 induction d with
 | zero =>
   intro T D hT hN hi hD r hr hd hS
   have hpl:=hT.YJ i hi0 hi
   have hlv : T.pl i < T.lvl r:=by omega
   rw [Nat.pow_zero,Nat.one_mul] at hS ⊢
   exact ⟨T,D,r,Jo T i b D hT (by omega) hi0 hi r hr hlv,⟨hT,.refl _,hr,Int.le_refl _,fun s=>(vC hT hr ⟨hi0,hi⟩ hlv s b).symm,hD⟩,Nat.le_refl _⟩
 | succ d ih =>
   intro T D hT hN hi hD r hr hd hS
   have hpl:=hT.YJ i hi0 hi
   have hM : 2 ^ (d + 1) * (2 ^ N + 2) = 2 ^ d * (2 ^ N + 2) + 2 ^ d * (2 ^ N + 2):=by rw [Nat.pow_succ,Nat.mul_two,Nat.add_mul]
   have hK : 2 ^ N + 2 <= 2 ^ d * (2 ^ N + 2):=Nat.le_mul_of_pos_left _ (Nat.pow_pos (by decide))
   rw [hM] at hS ⊢
   generalize 2 ^ d * (2 ^ N + 2) = M at *
   by_cases hlv : T.pl i < T.lvl r
   ·exact ⟨T,D,r,Jo T i b D hT (by omega) hi0 hi r hr hlv,⟨hT,.refl _,hr,Int.le_refl _,fun s=>(vC hT hr ⟨hi0,hi⟩ hlv s b).symm,hD⟩,by omega⟩
   cases hl : iE D r with
   | some x =>
     obtain ⟨g1,g2,g3,g4⟩:=hD r x hl
     exact ⟨T,D,x,Qk T i b D hT (by omega) hi0 hi r x hr hlv hl,⟨hT,.refl _,g2,g3,g4,hD⟩,by omega⟩
   | none =>
     have h2 : 2 <= r:=by
      apply Classical.byContradiction
      intro h
      have : T.lvl r = T.n:=if_pos (by omega)
      omega
     obtain ⟨gn,gev⟩:=hT.at hr h2
     obtain ⟨k1,k2,k3,k4,k5,k6⟩:=hT.kid hr h2
     have hlr : T.lvl r = T.pl (T.node r).1:=if_neg (by omega)
     by_cases hv : (T.node r).1 = i
     ·obtain ⟨x,qc,p⟩:=BG T hT (byI b) (T.node r).2.2 (T.node r).2.1 (by cases b <;> exact ⟨by decide,by simp [byI]; omega⟩) k2 k1 (by cases b <;> simp [byI])
      have hby : T.lvl (byI b) = T.n:=if_pos (by cases b <;> decide)
      have hval : ∀ s,ev T.nodes s x = ev T.nodes (dJ s i b) r:=by
       intro s
       have e1 : dJ s i b (T.node r).1 = b:=by rw [hv]; exact if_pos rfl
       rw [p.val s,gev (dJ s i b),e1,vC hT k1 ⟨hi0,hi⟩ (by rw [<- hv,<- hlr]; exact k3),vC hT k2 ⟨hi0,hi⟩ (by rw [<- hv,<- hlr]; exact k4)]
       cases b <;> rfl
      have hlx : T.lvl r <= T.lvl x:=by have:=p.lvl; omega
      exact ⟨T,oV D r x,x,UO T T i b D hT (by omega) hi0 hi r x hr h2 hlv hl hv qc,⟨hT,.refl _,p.rf,hlx,hval,hD.mark ⟨hr,p.rf,hlx,hval⟩⟩,by omega⟩
     ·have qe:=Oa T (T.node r).1 (by omega)
      have m:=wM hT (v:=(T.node r).1) (lo:=0) (hi:=1) gn.v (.zero T) (.one T) (by rw [<- hlr]; exact k6) (by rw [<- hlr]; exact k6)
      generalize T.make (T.node r).1 0 1 = q at *
      obtain ⟨T0,e⟩:=q
      obtain ⟨m1,m2,m3,m4,m5,m6,m7⟩:=m
      dsimp only at m1 m2 m3 m4 m5 m6 m7 qe
      obtain ⟨T1,D1,xh,f1,p1,n1⟩:=ih T0 D m1 (by rw [m2.n]; exact hN) (by rw [m2.n]; exact hi) (hD.ext m2) (T.node r).2.2 (m2.rf k2) (by rw [m2.n,m2.lvl k2]; omega) (by omega)
      have x1:=m2.trans p1.ext
      obtain ⟨T2,D2,xl,f2,p2,n2⟩:=ih T1 D1 p1.good (by rw [x1.n]; exact hN) (by rw [x1.n]; exact hi) p1.done (T.node r).2.1 (x1.rf k1) (by rw [x1.n,x1.lvl k1]; omega) (by omega)
      have x2:=x1.trans p2.ext
      have r1 : T2.Rf e:=p2.ext.rf (p1.ext.rf m3)
      have r2 : T2.Rf xh:=p2.ext.rf p1.rf
      have l1 : T.lvl r <= T2.lvl e:=by rw [p2.ext.lvl (p1.ext.rf m3),p1.ext.lvl m3,hlr]; exact m4
      have l2 : T.lvl r <= T2.lvl xh:=by rw [p2.ext.lvl p1.rf]; have:=p1.lvl; rw [m2.lvl k2] at this; omega
      have l3 : T.lvl r <= T2.lvl xl:=by have:=p2.lvl; rw [x1.lvl k1] at this; omega
      have hn2:=x2.n
      obtain ⟨T3,x,qc,p3,n3⟩:=oK N T2 p2.good e xh xl r1 r2 p2.rf (by rw [hn2]; omega) (by omega)
      have x3:=x2.trans p3.ext
      have hval : ∀ s,ev T3.nodes s x = ev T.nodes (dJ s i b) r:=by
       intro s
       have e1 : dJ s i b (T.node r).1 = s (T.node r).1:=if_neg hv
       rw [p3.val s,p2.ext.ev (p1.ext.rf m3),p1.ext.ev m3,m7 s,p2.ext.ev p1.rf,p1.val s,p2.val s,m2.ev k2,x1.ev k1,gev (dJ s i b),e1,yD,nZ]
       cases s (T.node r).1 <;> rfl
      have hlx : T.lvl r <= T3.lvl x:=by have:=p3.lvl; omega
      refine ⟨T3,oV D2 r x,x,UQ T T0 T1 T2 T3 i b D D1 D2 hT (by omega) hi0 hi r e xh xl x hr h2 hlv hl hv qe f1 f2 qc,⟨p3.good,x3,p3.rf,hlx,hval,(p2.done.ext p3.ext).mark ⟨x3.rf hr,p3.rf,by rw [x3.lvl hr]; exact hlx,fun s=>by rw [hval s,x3.ev hr]⟩⟩,by omega⟩

theorem sat_ne {T : Tb} (h : bJ T) (d : Nat) : ∀ (r : Int),T.Rf r -> r <= d -> (r ≠ 0 -> ∃ s,ev T.nodes s r = true) /\ (r ≠ 1 -> ∃ s,ev T.nodes s r = false):=by
 induction d with
 | zero =>
   intro r hr hd
   have:=hr.1
   obtain rfl : r = 0:=by omega
   exact ⟨fun h=>absurd rfl h,fun _=>⟨fun _=>false,rfl⟩⟩
 | succ d ih =>
   intro r hr hd
   by_cases h2 : r < 2
   ·have:=hr.1
    rcases (by omega : r = 0 \/ r = 1) with rfl | rfl
    ·exact ⟨fun h=>absurd rfl h,fun _=>⟨fun _=>false,rfl⟩⟩
    ·exact ⟨fun _=>⟨fun _=>false,rfl⟩,fun h=>absurd rfl h⟩
   ·obtain ⟨g,e⟩:=h.at hr (by omega)
    obtain ⟨k1,k2,k3,k4,k5,k6⟩:=h.kid hr (by omega)
    have hlo:=g.lo.2
    have hhi:=g.hi.2
    have:=hr.2
    obtain ⟨a1,a2⟩:=ih _ k1 (by omega)
    obtain ⟨b1,b2⟩:=ih _ k2 (by omega)
    have hlr : T.lvl r = T.pl (T.node r).1:=if_neg (by omega)
    have low : ∀ v : Bool,(∃ s,ev T.nodes s (T.node r).2.1 = v) -> ∃ s,ev T.nodes s r = v:=by
     rintro v ⟨s,hs⟩
     refine ⟨dJ s (T.node r).1 false,?_⟩
     rw [e,show dJ s (T.node r).1 false (T.node r).1 = false from if_pos rfl,vC h k1 g.v (by rw [<- hlr]; exact k3)]
     simpa using hs
    have high : ∀ v : Bool,(∃ s,ev T.nodes s (T.node r).2.2 = v) -> ∃ s,ev T.nodes s r = v:=by
     rintro v ⟨s,hs⟩
     refine ⟨dJ s (T.node r).1 true,?_⟩
     rw [e,show dJ s (T.node r).1 true (T.node r).1 = true from if_pos rfl,vC h k2 g.v (by rw [<- hlr]; exact k4)]
     simpa using hs
    have hne:=g.ne
    refine ⟨fun _=>?_,fun _=>?_⟩
    ·by_cases h0 : (T.node r).2.1 = 0
     ·exact high true (b1 (by omega))
     ·exact low true (a1 h0)
    ·by_cases h0 : (T.node r).2.1 = 1
     ·exact high false (b2 (by omega))
     ·exact low false (a2 h0)

theorem bJ.sat {T : Tb} (h : bJ T) {r : Int} (hr : T.Rf r) : r = 0 ↔ ∀ s,ev T.nodes s r = false:=by
 constructor
 ·rintro rfl s; rfl
 ·intro hs
  apply Classical.byContradiction
  intro h0
  obtain ⟨s,hs'⟩:=(sat_ne h r.toNat r hr (by have:=hr.1; omega)).1 h0
  rw [hs s] at hs'; cases hs'

structure RsP (i : Int) (b : Bool) (T T' : Tb) (r x : Int) : Prop where
 good : bJ T'
 ext : Xt T T'
 rf : T'.Rf x
 lvl : T.lvl r <= T'.lvl x
 val : ∀ s,ev T'.nodes s x = ev T.nodes (dJ s i b) r

abbrev bbAV (b : Bool) : AV:=if b = true then .tt else .ff

theorem Qd (N : Nat) (i : Int) (b : Bool) (T : Tb) (hT : bJ T) (hN : T.n <= N) (hi0 : 0 <= i) (hi : i < T.n) (r : Int) (hr : T.Rf r) (hS : T.nodes.length + 2 ^ N * (2 ^ N + 2) <= 1000000000) :
  ∃ T' x,aA Tryz.prog 232 [.ptr 0 [] 0,.int .i64 r,.int .i64 i,.int .i64 (byI b)] (iH T) (.int .i64 x) (iH T') /\ RsP i b T T' r x /\ T'.nodes.length <= T.nodes.length + 2 ^ N * (2 ^ N + 2):=by
 have hlp:=hT.nY hr
 obtain ⟨T',D',x,f,p,n⟩:=UN N i b hi0 N T [] hT hN hi (fun _ _ h=>by cases h) r hr (by omega) hS
 refine ⟨T',x,?_,⟨p.good,p.ext,p.rf,p.lvl,p.val⟩,Nat.le_trans (Nat.le_add_right _ _) n⟩
 refine aA.intro lay mixed Tryz.func232 (by kernel_rfl) rfl (by kernel_rfl) rfl fun hok=>?_
 (try dsimp only[aZ,aN]);(try dsimp only[aj]);conv=>whnf
 refine .gen _ _ f fun _=>?_
 (try dsimp only[aj]);conv=>whnf
 refine ⟨⟨_,_,.refl _ _,?_⟩⟩
 conv=>whnf
 refine ⟨?_,rfl,by simp [nextId],.mk ?_ (by simp [ay])⟩
 ·all_goals exact wk
 ·repeat' first|exact rfl|exact trivial|exact wR|exact lR _|apply aI
  all_goals first | exact aJ _ | exact aF _ _ | (simp; done) | skip

theorem NZ (N : Nat) (i : Int) (b : Bool) (T : Tb) (hT : bJ T) (hN : T.n <= N) (hi0 : 0 <= i) (hi : i < T.n) (r : Int) (hr : T.Rf r) (hS : T.nodes.length + 2 ^ N * (2 ^ N + 2) <= 1000000000) :
  ∃ T' x,aA Tryz.prog 136 [.ptr 0 [] 0,.int .i64 r,.int .i64 i,bbAV b] (iH T) (.int .i64 x) (iH T') /\ RsP i b T T' r x /\ T'.nodes.length <= T.nodes.length + 2 ^ N * (2 ^ N + 2):=by
 obtain ⟨T',x,f,p,n⟩:=Qd N i b T hT hN hi0 hi r hr hS
 refine ⟨T',x,?_,p,n⟩
 cases b with
 | true =>
   refine aA.intro lay mixed Tryz.func136 (by kernel_rfl) rfl (by kernel_rfl) rfl fun hok=>?_
   (try dsimp only[aZ,aN]);(try dsimp only[aj]);conv=>whnf
   refine .gen _ _ f fun _=>?_
   (try dsimp only[aj]);conv=>whnf
   refine ⟨⟨_,_,.refl _ _,?_⟩⟩
   conv=>whnf
   refine ⟨?_,rfl,by simp [nextId],.mk ?_ (by simp [ay])⟩
   ·all_goals exact wk
   ·repeat' first|exact rfl|exact trivial|exact wR|exact lR _|apply aI
    all_goals first | exact aJ _ | exact aF _ _ | (simp; done) | skip
 | false =>
   refine aA.intro lay mixed Tryz.func136 (by kernel_rfl) rfl (by kernel_rfl) rfl fun hok=>?_
   (try dsimp only[aZ,aN]);(try dsimp only[aj]);conv=>whnf
   refine .gen _ _ f fun _=>?_
   (try dsimp only[aj]);conv=>whnf
   refine ⟨⟨_,_,.refl _ _,?_⟩⟩
   conv=>whnf
   refine ⟨?_,rfl,by simp [nextId],.mk ?_ (by simp [ay])⟩
   ·all_goals exact wk
   ·repeat' first|exact rfl|exact trivial|exact wR|exact lR _|apply aI
    all_goals first | exact aJ _ | exact aF _ _ | (simp; done) | skip

def pF (m : Nat) : Int -> Bool:=fun j=>m.testBit j.toNat
def Vf (q i : Nat) (s : Int -> Bool) : Int -> Bool:=fun j=>if (i : Int) <= j then q.testBit (j - i).toNat else s j

theorem QU (q : Nat) (b : Bool) : (2 * q + b.toNat).testBit 0 = b:=by
 rw [Nat.testBit_zero]
 cases b <;> simp <;> omega
theorem JH (q : Nat) (b : Bool) (k : Nat) : (2 * q + b.toNat).testBit (k + 1) = q.testBit k:=by
 rw [Nat.testBit_succ]
 congr 1
 cases b <;> simp <;> omega

theorem EH (q i : Nat) (b : Bool) (s : Int -> Bool) : Vf (2 * q + b.toNat) i s = Vf q (i + 1) (dJ s i b):=by
 funext j
 unfold Vf dJ
 by_cases h1 : ((i + 1 : Nat) : Int) <= j
 ·rw [if_pos (by omega),if_pos h1,show (j - (i : Int)).toNat = (j - ((i + 1 : Nat) : Int)).toNat + 1 by omega,JH]
 ·rw [if_neg h1]
  by_cases h2 : j = (i : Int)
  ·subst h2
   rw [if_pos (by omega),if_pos rfl,show ((i : Int) - (i : Int)).toNat = 0 by omega,QU]
  ·rw [if_neg (by omega),if_neg h2]

theorem VX (m i : Nat) : Vf (m / 2 ^ i) i (pF m) = pF m:=by
 funext j
 unfold Vf pF
 split
 ·rw [Nat.testBit_div_two_pow]
  congr 1; omega
 ·rfl

theorem VY (q i : Nat) : 2 * q * 2 ^ i ||| 2 ^ i = (2 * q + 1) * 2 ^ i:=by
 apply Nat.eq_of_testBit_eq
 intro j
 rw [Nat.testBit_or,Nat.testBit_mul_two_pow,Nat.testBit_mul_two_pow,Nat.testBit_two_pow]
 by_cases h : i <= j
 ·rcases Nat.lt_or_eq_of_le h with h1 | h1
  ·obtain ⟨k,hk⟩ : ∃ k,j - i = k + 1:=⟨j - i - 1,by omega⟩
   have e1:=JH q false k
   have e2:=JH q true k
   simp only [Bool.toNat_false,Bool.toNat_true,Nat.add_zero] at e1 e2
   rw [hk,e1,e2]
   have : ¬ i = j:=by omega
   simp [this]
  ·subst h1
   have e2:=QU q true
   simp only [Bool.toNat_true] at e2
   rw [Nat.sub_self,e2]
   simp
 ·have : ¬ i = j:=by omega
  simp [h,this]

structure LsS where
 i : Nat
 T : Tb
 r : Int
 q : Nat

structure LeI (T : Tb) (r : Int) (S B : Nat) (s : LsS) : Prop where
 good : bJ s.T
 ext : Xt T s.T
 rf : s.T.Rf s.r
 le : (s.i : Int) <= T.n
 sat : s.r ≠ 0
 val : ∀ t,ev s.T.nodes t s.r = ev T.nodes (Vf s.q s.i t) r
 low : ∀ m,ev T.nodes (pF m) r = true -> s.q <= m / 2 ^ s.i
 bnd : s.q < 2 ^ (T.n.toNat - s.i)
 size : s.T.nodes.length + 2 * s.i * S <= B

theorem o9 {α : Type} (I : Nat -> α -> Prop) (R : Nat -> α -> α -> Prop) (n : Nat) (s0 : α) (h0 : I 0 s0) (step : ∀ k s,k < n -> I k s -> ∃ s',I (k + 1) s' /\ R k s s') :
  ∃ f : Nat -> α,f 0 = s0 /\ (∀ k,k <= n -> I k (f k)) /\ ∀ k,k < n -> R k (f k) (f (k + 1)):=by
 have : ∀ m,m <= n -> ∃ f : Nat -> α,f 0 = s0 /\ (∀ k,k <= m -> I k (f k)) /\ ∀ k,k < m -> R k (f k) (f (k + 1)):=by
  intro m
  induction m with
  | zero =>
    refine fun _=>⟨fun _=>s0,rfl,fun k hk=>?_,fun k hk=>absurd hk (Nat.not_lt_zero _)⟩
    obtain rfl : k = 0:=by omega
    exact h0
  | succ m ih =>
    intro hm
    obtain ⟨f,f0,f1,f2⟩:=ih (by omega)
    obtain ⟨s',g1,g2⟩:=step m (f m) (by omega) (f1 m (Nat.le_refl _))
    refine ⟨fun k=>if k = m + 1 then s' else f k,by simp [f0],fun k hk=>?_,fun k hk=>?_⟩
    ·by_cases h : k = m + 1
     ·subst h; simp only [if_pos]; exact g1
     ·simp only [if_neg h]; exact f1 k (by omega)
    ·by_cases h : k = m
     ·subst h
      simp only [if_pos]
      rw [if_neg (by omega)]
      exact g2
     ·simp only [if_neg (show ¬ k = m + 1 by omega),if_neg (show ¬ k + 1 = m + 1 by omega)]
      exact f2 k (by omega)
 exact this n (Nat.le_refl _)

def LeR (i : Nat) (s s' : LsS) : Prop :=
 ∃ T1 x,aA Tryz.prog 136 [.ptr 0 [] 0,.int .i64 s.r,.int .i64 i,.ff] (iH s.T) (.int .i64 x) (iH T1) /\
   ((x ≠ 0 /\ s' = ⟨i,T1,x,2 * s.q⟩) \/ (x = 0 /\ ∃ T2 y,aA Tryz.prog 136 [.ptr 0 [] 0,.int .i64 s.r,.int .i64 i,.tt] (iH T1) (.int .i64 y) (iH T2) /\ s' = ⟨i,T2,y,2 * s.q + 1⟩))

theorem le_step (N : Nat) (T : Tb) (hN : T.n <= N) (r : Int) (_ : T.Rf r) (i : Nat) (s : LsS) (B : Nat) (hB : B <= 1000000000) (h : LeI T r (2 ^ N * (2 ^ N + 2)) B s) (hi : s.i = i + 1) :
  ∃ s',(LeI T r (2 ^ N * (2 ^ N + 2)) B s' /\ s'.i = i) /\ LeR i s s':=by
 obtain ⟨h1,h2,h3,h4,h5,h6,h7,h8,h9⟩:=h
 rw [hi] at h4 h6 h7 h8 h9
 have hn:=h2.n
 have hb2 : 2 ^ (T.n.toNat - i) = 2 * 2 ^ (T.n.toNat - (i + 1)):=by
  rw [show T.n.toNat - i = (T.n.toNat - (i + 1)) + 1 by omega,Nat.pow_succ,Nat.mul_comm]
 have Q:=NZ N
 have h9' : s.T.nodes.length + (2 * i * (2 ^ N * (2 ^ N + 2)) + (2 ^ N * (2 ^ N + 2) + 2 ^ N * (2 ^ N + 2))) <= B:=by
  have : 2 * (i + 1) * (2 ^ N * (2 ^ N + 2)) = 2 * i * (2 ^ N * (2 ^ N + 2)) + (2 ^ N * (2 ^ N + 2) + 2 ^ N * (2 ^ N + 2)):=by rw [Nat.mul_add,Nat.add_mul,Nat.mul_one,Nat.two_mul (2 ^ N * (2 ^ N + 2))]
  rw [<- this]; exact h9
 clear h9
 generalize 2 ^ N * (2 ^ N + 2) = S at *
 obtain ⟨W,hW⟩ : ∃ W,W = 2 * i * S:=⟨_,rfl⟩
 rw [<- hW] at h9'
 have hsz : ∀ L : Nat,L <= s.T.nodes.length + S + S -> L + 2 * i * S <= B:=fun L hL=>by rw [<- hW]; omega
 obtain ⟨T1,x,f1,p1,n1⟩:=Q (i : Int) false s.T h1 (by omega) (by omega) (by omega) s.r h3 (by omega)
 have v1 : ∀ t,ev T1.nodes t x = ev T.nodes (Vf (2 * s.q + false.toNat) i t) r:=by
  intro t
  rw [p1.val,h6,EH]
 by_cases hx : x = 0
 ·obtain ⟨T2,y,f2,p2,n2⟩:=Q (i : Int) true T1 p1.good (by rw [p1.ext.n]; omega) (by omega) (by rw [p1.ext.n]; omega) s.r (p1.ext.rf h3) (by omega)
  have v2 : ∀ t,ev T2.nodes t y = ev T.nodes (Vf (2 * s.q + true.toNat) i t) r:=by
   intro t
   rw [p2.val,p1.ext.ev h3,h6,EH]
  have hz : ∀ t,ev T.nodes (Vf (2 * s.q + false.toNat) i t) r = false:=fun t=>by rw [<- v1 t,hx]; rfl
  refine ⟨⟨i,T2,y,2 * s.q + 1⟩,⟨⟨p2.good,(h2.trans p1.ext).trans p2.ext,p2.rf,by show (i : Int) <= T.n; omega,fun hy=>?_,v2,fun m hm=>?_,?_,hsz _ (by show T2.nodes.length <= _; omega)⟩,rfl⟩,T1,x,f1,.inr ⟨hx,T2,y,f2,rfl⟩⟩
  ·-- one of both is true somewhere
   apply h5
   refine (h1.sat h3).2 fun t=>?_
   rw [h6]
   have e:=EH s.q i (t i) t
   have e2 : dJ t i (t i) = t:=by
    funext j; unfold dJ; split
    ·rename_i h; rw [h]
    ·rfl
   rw [e2] at e
   rw [<- e]
   cases t (i : Int) with
   | false=>exact hz t
   | true =>
     have hy : y = 0:=hy
     rw [<- v2 t,hy]; rfl
  ·have h:=h7 m hm
   rw [Nat.pow_succ,<- Nat.div_div_eq_div_mul] at h
   have hne : m / 2 ^ i ≠ 2 * s.q:=by
    intro e
    have h':=hz (pF m)
    rw [show 2 * s.q + false.toNat = m / 2 ^ i by rw [e]; rfl,VX,hm] at h'
    cases h'
   show 2 * s.q + 1 <= m / 2 ^ i
   omega
  ·show 2 * s.q + 1 < _
   rw [hb2]; omega
 ·refine ⟨⟨i,T1,x,2 * s.q⟩,⟨⟨p1.good,h2.trans p1.ext,p1.rf,by show (i : Int) <= T.n; omega,hx,v1,fun m hm=>?_,?_,hsz _ (by show T1.nodes.length <= _; omega)⟩,rfl⟩,T1,x,f1,.inl ⟨hx,rfl⟩⟩
  ·have h:=h7 m hm
   rw [Nat.pow_succ,<- Nat.div_div_eq_div_mul] at h
   show 2 * s.q <= m / 2 ^ i
   omega
  ·show 2 * s.q < _
   rw [hb2]; omega

theorem Z5 (N : Nat) (hN60 : N <= 60) (T : Tb) (hT : bJ T) (hN : T.n <= N) (r : Int) (hr : T.Rf r) (hr0 : r ≠ 0) (B : Nat) (hB : B <= 1000000000) (hS : T.nodes.length + 2 * T.n.toNat * (2 ^ N * (2 ^ N + 2)) <= B) :
  ∃ T' q,aA Tryz.prog 55 [.ptr 0 [] 0,.int .i64 r,.int .i64 T.n] (iH T) (.int .i64 ((q : Nat) : Int)) (iH T') /\ bJ T' /\ Xt T T' /\ ev T.nodes (pF q) r = true /\ (∀ m,ev T.nodes (pF m) r = true -> q <= m) /\ q < 2 ^ T.n.toNat /\ T'.nodes.length <= B:=by
 have hn0 : 0 <= T.n:=by unfold Tb.n; omega
 have hov : ∀ t,ev T.nodes (Vf 0 T.n.toNat t) r = ev T.nodes t r:=fun t=>vF hT r.toNat r hr (by have:=hr.1; omega) _ _ fun j h0 h1 _=>by
  unfold Vf; rw [if_neg (by omega)]
 obtain ⟨f,f0,f1,f2⟩:=o9 (fun k s=>LeI T r (2 ^ N * (2 ^ N + 2)) B s /\ s.i = T.n.toNat - k) (fun k s s'=>LeR (T.n.toNat - (k + 1)) s s') T.n.toNat ⟨T.n.toNat,T,r,0⟩
  ⟨⟨hT,.refl _,hr,by show ((T.n.toNat : Nat) : Int) <= T.n; omega,hr0,fun t=>(hov t).symm,fun _ _=>Nat.zero_le _,Nat.pow_pos (by decide),hS⟩,rfl⟩
  (fun k s hk h=>by
   obtain ⟨s',h1,h2⟩:=le_step N T hN r hr (T.n.toNat - (k + 1)) s B hB h.1 (by rw [h.2]; omega)
   exact ⟨s',h1,h2⟩)
 obtain ⟨l1,l2⟩:=f1 T.n.toNat (Nat.le_refl _)
 rw [Nat.sub_self] at l2
 have hfin:=l1.val
 have hlow:=l1.low
 have hb:=l1.bnd
 rw [l2] at hfin hlow hb
 refine ⟨(f T.n.toNat).T,(f T.n.toNat).q,?_,l1.good,l1.ext,?_,fun m hm=>by have:=hlow m hm; rwa [Nat.pow_zero,Nat.div_one] at this,by simpa using hb,by have:=l1.size; omega⟩
 ·generalize hn : T.n.toNat = n at *
  have hnT : T.n = (n : Int):=by omega
  rw [hnT]
  have hn60 : n <= 60:=by omega
  refine aA.intro lay mixed Tryz.func55 (by kernel_rfl) rfl (by kernel_rfl) rfl fun hok=>?_
  (try dsimp only[aZ,aN]);(try dsimp only[aj]);conv=>whnf
  refine ⟨bC (by omega) (by omega),?_⟩
  (try dsimp only[aj]);conv=>whnf
  refine aK.of <| (aC.inv (.refl _ _) (fun k : Nat=>k <= n) (fun k=>[(8,.int .i64 (((n - k : Nat) : Int) - 1)),(7,.int .i64 (((f k).q * 2 ^ (n - k) : Nat) : Int)),(1,.int .i64 (f k).r)]) (fun k=>iH (f k).T) (fun k=>n - k) 0 (Nat.zero_le _) ?_ ?_ ?_)
  ·exact fun _=>rfl
  ·rw [f0]
   refine ⟨?_,.mk ?_ (by simp [ay])⟩
   ·repeat' first|exact rfl|exact trivial|exact wR|exact lR _|apply aI
    all_goals first | (show (_ : Int) = _; simp; done) | skip
   ·repeat' first|exact rfl|exact trivial|exact wR|exact lR _|apply aI
    all_goals first | exact aJ _ | exact aF _ _ | skip
  intro k hk _
  obtain ⟨qk,qi⟩:=f1 k hk
  have qb:=qk.bnd
  rw [qi,hn] at qb
  have hst : (f k).q * 2 ^ (n - k) < 2 ^ n:=by
   have : 2 ^ n = 2 ^ (n - (n - k)) * 2 ^ (n - k):=by rw [<- Nat.pow_add]; congr 1; omega
   rw [this]
   exact Nat.mul_lt_mul_of_pos_right qb (Nat.pow_pos (by decide))
  have h60 : 2 ^ n <= 2 ^ 60:=Nat.pow_le_pow_right (by decide) hn60
  (try dsimp only[aj]);conv=>whnf
  refine And.intro (fun h=>?_) (fun h=>?_)
  ·have hlt : k < n:=by omega
   have ek : ((n - k : Nat) : Int) - 1 = ((n - (k + 1) : Nat) : Int):=by omega
   obtain ⟨T1,x,g1,alt⟩:=f2 k hlt
   rw [ek]
   (try dsimp only[aj]);conv=>whnf
   refine .gen _ _ g1 fun _=>?_
   (try dsimp only[aj]);conv=>whnf
   have hkk : n - k = (n - (k + 1)) + 1:=by omega
   have hin : n - (k + 1) < 60:=by omega
   have hlast : ((n - (k + 1) : Nat) : Int) - 1 = ((n - (k + 1) : Nat) : Int) - 1:=rfl
   rcases alt with ⟨hx,hs⟩ | ⟨hx,T2,y,g2,hs⟩
   ·refine And.intro (fun h=>absurd h hx) (fun _=>?_)
    (try dsimp only[aj]);conv=>whnf
    refine ⟨bC (by omega) (by omega),?_⟩
    (try dsimp only[aj]);conv=>whnf
    refine ⟨k + 1,?_,?_,?_⟩
    ·exact hlt
    ·rw [hs]
     refine ⟨?_,.mk ?_ (by simp [ay])⟩
     ·repeat' first|exact rfl|exact trivial|exact wR|exact lR _|apply aI
      all_goals (show (_ : Int) = _; congr 1; rw [hkk,Nat.pow_succ,Nat.mul_comm 2,Nat.mul_assoc,Nat.mul_comm 2])
     ·repeat' first|exact rfl|exact trivial|exact wR|exact lR _|apply aI
      all_goals first | exact aJ _ | exact aF _ _ | skip
    ·omega
   ·refine And.intro (fun _=>?_) (fun h=>absurd hx h)
    (try dsimp only[aj]);conv=>whnf
    refine .gen _ _ g2 fun _=>?_
    (try dsimp only[aj]);conv=>whnf
    refine ⟨by omega,?_⟩
    rw [sK (by omega)]
    (try dsimp only[aj]);conv=>whnf
    have hpw : 2 ^ (n - (k + 1)) < 2 ^ 60:=Nat.pow_lt_pow_right (by decide) hin
    rw [yt (by omega) (by omega)]
    refine ⟨bC (by omega) (by omega),?_⟩
    (try dsimp only[aj]);conv=>whnf
    refine ⟨k + 1,?_,?_,?_⟩
    ·exact hlt
    ·rw [hs]
     refine ⟨?_,.mk ?_ (by simp [ay])⟩
     ·repeat' first|exact rfl|exact trivial|exact wR|exact lR _|apply aI
      all_goals (show (_ : Int) = _; congr 1; rw [hkk,Nat.pow_succ,<- VY]; congr 1; rw [Nat.mul_comm 2,Nat.mul_assoc,Nat.mul_comm 2])
     ·repeat' first|exact rfl|exact trivial|exact wR|exact lR _|apply aI
      all_goals first | exact aJ _ | exact aF _ _ | skip
    ·omega
  ·have hk : k = n:=by omega
   subst hk
   (try dsimp only[aj]);conv=>whnf
   refine ⟨⟨_,_,.refl _ _,?_⟩⟩
   conv=>whnf
   refine ⟨?_,rfl,by simp [nextId],.mk ?_ (by simp [ay])⟩
   ·repeat' first|exact rfl|exact trivial|exact wR|exact lR _|apply aI
    all_goals (rw [Nat.sub_self,Nat.pow_zero,Nat.mul_one])
   ·repeat' first|exact rfl|exact trivial|exact wR|exact lR _|apply aI
    all_goals first | exact aJ _ | exact aF _ _ | skip
 ·obtain ⟨t,ht⟩ : ∃ t,ev (f T.n.toNat).T.nodes t (f T.n.toNat).r = true:=by
   apply Classical.byContradiction
   intro hn
   exact l1.sat ((l1.good.sat l1.rf).2 fun t=>by
    cases h : ev (f T.n.toNat).T.nodes t (f T.n.toNat).r with
    | true=>exact absurd ⟨t,h⟩ hn
    | false=>rfl)
  rw [hfin] at ht
  rw [<- ht]
  refine vF hT r.toNat r hr (by have:=hr.1; omega) _ _ fun j h0 h1 _=>?_
  unfold Vf pF
  rw [if_pos (by omega)]
  congr 1; omega

def nK (f : (Int -> Bool) -> Bool) : Nat -> (Int -> Bool) -> Nat
 | 0,s=>(f s).toNat
 | k + 1,s=>nK f k (dJ s k false) + nK f k (dJ s k true)

theorem wF {s : Int -> Bool} {i j : Int} {a b : Bool} (h : i ≠ j) : dJ (dJ s i a) j b = dJ (dJ s j b) i a:=by
 funext x
 unfold dJ
 by_cases h1 : x = j
 ·subst h1; rw [if_pos rfl,if_neg (fun e=>h e.symm),if_pos rfl]
 ·rw [if_neg h1]
  by_cases h2 : x = i
  ·rw [if_pos h2,if_pos h2]
  ·rw [if_neg h2,if_neg h2,if_neg h1]

theorem kT {f g : (Int -> Bool) -> Bool} (h : ∀ s,f s = g s) : ∀ (k : Nat) (s : Int -> Bool),nK f k s = nK g k s
 | 0,s=>by simp only [nK,h s]
 | k + 1,s=>by simp only [nK,kT h k]

theorem mX {f : (Int -> Bool) -> Bool} {v : Int} {b : Bool} : ∀ (k : Nat) (s : Int -> Bool),(k : Int) <= v -> nK f k (dJ s v b) = nK (fun t=>f (dJ t v b)) k s
 | 0,s,_=>rfl
 | k + 1,s,h=>by
   simp only [nK]
   rw [wF (s:=s) (i:=v) (j:=(k : Int)) (a:=b) (b:=false) (by omega),wF (s:=s) (i:=v) (j:=(k : Int)) (a:=b) (b:=true) (by omega),mX k (dJ s k false) (by omega),mX k (dJ s k true) (by omega)]

theorem BD {f l h : (Int -> Bool) -> Bool} {v : Nat} (hf : ∀ s,f s = if s v then h s else l s) (hl : ∀ s b,l (dJ s v b) = l s) (hh : ∀ s b,h (dJ s v b) = h s) :
  ∀ (k : Nat) (s : Int -> Bool),v < k -> 2 * nK f k s = nK l k s + nK h k s
 | 0,_,hk=>by omega
 | k + 1,s,hk=>by
   by_cases hv : v = k
   ·subst hv
    simp only [nK]
    have e1 : ∀ t,(fun t=>f (dJ t v false)) t = l t:=fun t=>by
     show f (dJ t v false) = l t
     rw [hf,show dJ t (v : Int) false v = false from if_pos rfl,hl]; simp
    have e2 : ∀ t,(fun t=>f (dJ t v true)) t = h t:=fun t=>by
     show f (dJ t v true) = h t
     rw [hf,show dJ t (v : Int) true v = true from if_pos rfl,hh]; simp
    rw [mX v s (Int.le_refl _),mX v s (Int.le_refl _),kT e1,kT e2]
    rw [mX (f:=l) v s (Int.le_refl _),mX (f:=l) v s (Int.le_refl _),mX (f:=h) v s (Int.le_refl _),mX (f:=h) v s (Int.le_refl _)]
    rw [kT (f:=fun t=>l (dJ t v false)) (g:=l) (fun t=>hl t false),kT (f:=fun t=>l (dJ t v true)) (g:=l) (fun t=>hl t true),kT (f:=fun t=>h (dJ t v false)) (g:=h) (fun t=>hh t false),kT (f:=fun t=>h (dJ t v true)) (g:=h) (fun t=>hh t true)]
    omega
   ·simp only [nK]
    have h1:=BD hf hl hh k (dJ s k false) (by omega)
    have h2:=BD hf hl hh k (dJ s k true) (by omega)
    omega

theorem yF {f : (Int -> Bool) -> Bool} : ∀ (k : Nat) (s : Int -> Bool),nK f k s = (List.range (2 ^ k)).countP fun m=>f fun j=>if 0 <= j /\ j < (k : Int) then m.testBit j.toNat else s j
 | 0,s=>by
   have : (fun j : Int=>if 0 <= j /\ j < ((0 : Nat) : Int) then (0 : Nat).testBit j.toNat else s j) = s:=by
    funext j; rw [if_neg (by omega)]
   simp only [nK,Nat.pow_zero,List.range_one,List.countP_cons,List.countP_nil,this]
   cases f s <;> rfl
 | k + 1,s=>by
   simp only [nK]
   rw [yF k,yF k]
   have e : 2 ^ (k + 1) = 2 ^ k + 2 ^ k:=by rw [Nat.pow_succ]; omega
   rw [e,List.range_add,List.countP_append,List.countP_map]
   congr 1
   ·apply List.countP_congr
    intro m hm
    have hm : m < 2 ^ k:=by simpa using hm
    have : (fun j : Int=>if 0 <= j /\ j < (k : Int) then m.testBit j.toNat else dJ s k false j) = fun j : Int=>if 0 <= j /\ j < ((k + 1 : Nat) : Int) then m.testBit j.toNat else s j:=by
     funext j
     by_cases h1 : 0 <= j /\ j < (k : Int)
     ·rw [if_pos h1,if_pos (by omega)]
     ·rw [if_neg h1]
      unfold dJ
      by_cases h2 : j = (k : Int)
      ·subst h2
       rw [if_pos rfl,if_pos (by omega),Int.toNat_natCast,Nat.testBit_lt_two_pow hm]
      ·rw [if_neg h2,if_neg (by omega)]
    rw [this]
   ·apply List.countP_congr
    intro m hm
    have hm : m < 2 ^ k:=by simpa using hm
    have : (fun j : Int=>if 0 <= j /\ j < (k : Int) then m.testBit j.toNat else dJ s k true j) = fun j : Int=>if 0 <= j /\ j < ((k + 1 : Nat) : Int) then (2 ^ k + m).testBit j.toNat else s j:=by
     funext j
     by_cases h1 : 0 <= j /\ j < (k : Int)
     ·rw [if_pos h1,if_pos (by omega)]
      rw [Nat.testBit_two_pow_add_gt (by omega)]
     ·rw [if_neg h1]
      unfold dJ
      by_cases h2 : j = (k : Int)
      ·subst h2
       rw [if_pos rfl,if_pos (by omega),Int.toNat_natCast,Nat.testBit_two_pow_add_eq,Nat.testBit_lt_two_pow hm]
       rfl
      ·rw [if_neg h2,if_neg (by omega)]
    simp only [Function.comp_apply,this]

def zE : Int -> Bool:=fun _=>false

def Tb.cnt (T : Tb) (r : Int) : Nat:=nK (fun s=>ev T.nodes s r) T.n.toNat zE

theorem KG {f : (Int -> Bool) -> Bool} : ∀ (k : Nat) (s : Int -> Bool),nK f k s <= 2 ^ k
 | 0,s=>by simp only [nK]; cases f s <;> decide
 | k + 1,s=>by
   have h1:=KG (f:=f) k (dJ s k false)
   have h2:=KG (f:=f) k (dJ s k true)
   simp only [nK]
   rw [Nat.pow_succ]; omega

theorem FY : ∀ (k : Nat) (s : Int -> Bool),nK (fun _=>false) k s = 0
 | 0,_=>rfl
 | k + 1,s=>by simp only [nK,FY k]
theorem Jj : ∀ (k : Nat) (s : Int -> Bool),nK (fun _=>true) k s = 2 ^ k
 | 0,_=>rfl
 | k + 1,s=>by simp only [nK,Jj k]; rw [Nat.pow_succ]; omega

theorem bJ.XC {T : Tb} (h : bJ T) {r : Int} (hr : T.Rf r) (h2 : 2 <= r) : T.cnt r = (T.cnt (T.node r).2.1 + T.cnt (T.node r).2.2) / 2:=by
 obtain ⟨g,e⟩:=h.at hr h2
 obtain ⟨k1,k2,k3,k4,k5,k6⟩:=h.kid hr h2
 have hlr : T.lvl r = T.pl (T.node r).1:=if_neg (by omega)
 have hv : (((T.node r).1.toNat : Nat) : Int) = (T.node r).1:=Int.toNat_of_nonneg g.v.1
 have:=BD (f:=fun s=>ev T.nodes s r) (l:=fun s=>ev T.nodes s (T.node r).2.1) (h:=fun s=>ev T.nodes s (T.node r).2.2) (v:=(T.node r).1.toNat)
  (fun s=>by rw [hv]; exact e s) (fun s b=>by rw [hv]; exact vC h k1 g.v (by rw [<- hlr]; exact k3) s b) (fun s b=>by rw [hv]; exact vC h k2 g.v (by rw [<- hlr]; exact k4) s b) T.n.toNat zE (by have:=g.v; omega)
 unfold Tb.cnt
 omega

abbrev encS (M : List Int) : List (AV × AV):=M.map fun k=>(.int .i64 k,.tt)

theorem U3 {M : List Int} {x : Int} {k : AV -> Prop} (hm : x ∈ M) (h : k .tt) : wz (encS M) (.int .i64 x) fun r=>uF false .ff r k :=
 ⟨some .tt,⟨(.int .i64 x,.tt),List.mem_map_of_mem (f:=fun k=>(AV.int .i64 k,AV.tt)) hm,rfl,rfl⟩,h⟩

theorem Qq {M : List Int} {x : Int} {k : AV -> Prop} (hm : x ∉ M) (h : k .ff) : wz (encS M) (.int .i64 x) fun r=>uF false .ff r k:=by
 refine ⟨none,?_,h⟩
 intro z hz e
 obtain ⟨y,hy,rfl⟩:=List.mem_map.1 hz
 exact hm (DC.1 e ▸ hy)

theorem aupdS {M : List Int} {x : Int} {k : List (AV × AV) -> Prop} (hm : x ∉ M) (h : k (encS (M ++ [x]))) : Vb (encS M) (.int .i64 x) .tt k:=by
 refine ⟨_,.inl ⟨fun z hz e=>?_,rfl⟩,by simpa [encS] using h⟩
 obtain ⟨y,hy,rfl⟩:=List.mem_map.1 hz
 exact hm (DC.1 e ▸ hy)

theorem kG (n : Nat) : ∀ M : List Int,oq n (encS M) = true
 | []=>rfl
 | _ :: M=>by
   show (match true,true with | true,true=>oq n (encS M) | _,_=>false) = true
   exact kG n M

abbrev argS (r : Int) : List AV:=[.int .i64 r,.ptr 8 [] 0,.ptr 6 [] 0,.ptr 9 [] 0,.ptr 5 [] 0]
abbrev hpS (T : Tb) (most : Int) (M : List Int) : Heap :=
 [(9,.box (.fn 135 [.ptr 8 [] 0,.ptr 6 [] 0,.ptr 9 [] 0,.ptr 5 [] 0])),(8,.box (.mp 7)),(7,.dU (.int .i64 0) (encS M)),(6,.box (.int .i64 most)),(5,.box (.ptr 0 [] 0))] ++ iH T

theorem UD (most : Int) (d : Nat) : ∀ (T : Tb) (M : List Int),bJ T -> T.nodes.length <= 1000000000 -> ∀ (r : Int),T.Rf r -> T.n - T.lvl r <= d -> ((M.length + 2 ^ d : Nat) : Int) <= most + 1 -> most <= 1000000 ->
  ∃ M',aA Tryz.prog 135 (argS r) (hpS T most M) (.eG []) (hpS T most M') /\ M'.length + 1 <= M.length + 2 ^ d:=by
 have early : ∀ (T : Tb) (M : List Int) (r : Int),(r < 2 \/ r ∈ M) -> (M.length : Int) <= most -> most <= 1000000 -> aA Tryz.prog 135 (argS r) (hpS T most M) (.eG []) (hpS T most M):=by
  intro T M r h hm hmo
  by_cases hr2 : r < 2
  ·refine aA.intro lay mixed Tryz.func135 (by kernel_rfl) rfl (by kernel_rfl) rfl fun hok=>?_
   (try dsimp only[aZ,aN]);(try dsimp only[aj]);conv=>whnf
   refine And.intro (fun _=>?_) (fun h=>absurd hr2 h)
   (try dsimp only[aj]);conv=>whnf
   refine ⟨⟨_,_,.refl _ _,?_⟩⟩
   conv=>whnf
   refine ⟨?_,rfl,by simp [nextId],.mk ?_ (by simp [ay])⟩
   ·all_goals exact wk
   ·repeat' first|exact rfl|exact trivial|exact wR|exact lR _|apply aI
    all_goals first | exact aJ _ | exact aF _ _ | exact kG _ _ | exact iw _ _ | (simp; done) | skip
  have hmem : r ∈ M:=h.resolve_left hr2
  refine aA.intro lay mixed Tryz.func135 (by kernel_rfl) rfl (by kernel_rfl) rfl fun hok=>?_
  (try dsimp only[aZ,aN]);(try dsimp only[aj]);conv=>whnf
  refine And.intro (fun h=>absurd h hr2) (fun _=>?_)
  (try dsimp only[aj]);conv=>whnf
  refine U3 hmem ?_
  (try dsimp only[aj]);conv=>whnf
  refine ⟨⟨_,_,.refl _ _,?_⟩⟩
  conv=>whnf
  refine ⟨?_,rfl,by simp [nextId],.mk ?_ (by simp [ay])⟩
  ·all_goals exact wk
  ·repeat' first|exact rfl|exact trivial|exact wR|exact lR _|apply aI
   all_goals first | exact aJ _ | exact aF _ _ | exact kG _ _ | exact iw _ _ | (simp; done) | skip
 induction d with
 | zero =>
   intro T M hT hn r hr hd hm hmo
   have hr2 : r < 2:=by
    apply Classical.byContradiction
    intro h
    have:=hT.kid hr (by omega)
    omega
   rw [Nat.pow_zero] at hm ⊢
   exact ⟨M,early T M r (.inl hr2) (by omega) hmo,Nat.le_refl _⟩
 | succ d ih =>
   intro T M hT hn r hr hd hm hmo
   have h2d : 0 < 2 ^ d:=Nat.pow_pos (by decide)
   have h2e : 2 ^ (d + 1) = 2 ^ d + 2 ^ d:=by rw [Nat.pow_succ]; omega
   rw [h2e] at hm ⊢
   by_cases hr2 : r < 2
   ·exact ⟨M,early T M r (.inl hr2) (by omega) hmo,by omega⟩
   by_cases hmem : r ∈ M
   ·exact ⟨M,early T M r (.inr hmem) (by omega) hmo,by omega⟩
   obtain ⟨k1,k2,k3,k4,k5,k6⟩:=hT.kid hr (by omega)
   have hr':=hr.2
   obtain ⟨M2,f1,n1⟩:=ih T (M ++ [r]) hT hn (T.node r).2.1 k1 (by omega) (by rw [List.length_append,List.length_singleton]; omega) hmo
   rw [List.length_append,List.length_singleton] at n1
   obtain ⟨M3,f2,n2⟩:=ih T M2 hT hn (T.node r).2.2 k2 (by omega) (by omega) hmo
   refine ⟨M3,?_,by omega⟩
   refine aA.intro lay mixed Tryz.func135 (by kernel_rfl) rfl (by kernel_rfl) rfl fun hok=>?_
   (try dsimp only[aZ,aN]);(try dsimp only[aj]);conv=>whnf
   refine And.intro (fun h=>absurd h hr2) (fun _=>?_)
   (try dsimp only[aj]);conv=>whnf
   refine Qq hmem ?_
   (try dsimp only[aj]);conv=>whnf
   refine ⟨by simp; omega,?_⟩
   (try dsimp only[aj]);conv=>whnf
   refine And.intro (fun h=>by exfalso; simp only [List.length_map] at h; omega) (fun _=>?_)
   (try dsimp only[aj]);conv=>whnf
   refine aupdS hmem ?_
   (try dsimp only[aj]);conv=>whnf
   refine aS.mk ⟨[false,false,true,true,false,true,true,true,true,false,false],by kernel_rfl,?_⟩
   conv=>whnf
   refine ⟨bC (by omega) (by omega),?_⟩
   conv=>whnf
   refine dQ default ⟨by omega,by omega⟩ ?_
   conv=>whnf
   refine .gen _ _ f1 fun _=>?_
   (try dsimp only[aj]);conv=>whnf
   refine aS.mk ⟨[false,false,true,true,false,true,true,true,true,false,false],by kernel_rfl,?_⟩
   conv=>whnf
   refine ⟨bC (by omega) (by omega),?_⟩
   conv=>whnf
   refine dQ default ⟨by omega,by omega⟩ ?_
   conv=>whnf
   refine .gen _ _ f2 fun _=>?_
   (try dsimp only[aj]);conv=>whnf
   refine ⟨⟨_,_,.refl _ _,?_⟩⟩
   conv=>whnf
   refine ⟨?_,rfl,by simp [nextId],.mk ?_ (by simp [ay])⟩
   ·all_goals exact wk
   ·repeat' first|exact rfl|exact trivial|exact wR|exact lR _|apply aI
    all_goals first | exact aJ _ | exact aF _ _ | exact kG _ _ | exact iw _ _ | (simp; done) | skip

theorem NY (N : Nat) (hN : N <= 12) (T : Tb) (hT : bJ T) (hn : T.nodes.length <= 1000000000) (hTN : T.n <= N) (r : Int) (hr : T.Rf r) :
  aA Tryz.prog 54 [.ptr 0 [] 0,.int .i64 r,.int .i64 4096] (iH T) .tt (iH T):=by
 have hlp:=hT.nY hr
 have hp : 2 ^ N <= 2 ^ 12:=Nat.pow_le_pow_right (by decide) hN
 obtain ⟨M',f,n⟩:=UD 4096 N T [] hT hn r hr (by omega) (by simp only [List.length_nil]; omega) (by decide)
 simp only [List.length_nil] at n
 refine aA.intro lay mixed Tryz.func54 (by kernel_rfl) rfl (by kernel_rfl) rfl fun hok=>?_
 (try dsimp only[aZ,aN]);(try dsimp only[aj]);conv=>whnf
 refine .gen _ _ f fun _=>?_
 (try dsimp only[aj]);conv=>whnf
 refine ⟨by simp; omega,?_⟩
 (try dsimp only[aj]);conv=>whnf
 refine ⟨⟨_,_,.refl _ _,?_⟩⟩
 conv=>whnf
 refine ⟨?_,rfl,by simp [nextId],.mk ?_ (by simp [ay])⟩
 ·show ((encS M').length : Int) <= 4096
  rw [List.length_map]
  omega
 ·repeat' first|exact rfl|exact trivial|exact wR|exact lR _|apply aI
  all_goals first | exact aJ _ | exact aF _ _ | skip

structure DoneK (T : Tb) (D : MI) : Prop where
 zero : iE D 0 = some 0
 one : iE D 1 = some ((2 ^ T.n.toNat : Nat) : Int)
 all : ∀ r x,iE D r = some x -> T.Rf r -> x = (T.cnt r : Int)

abbrev argK (r : Int) : List AV:=[.int .i64 r,.ptr 7 [] 0,.ptr 8 [] 0,.ptr 5 [] 0]
abbrev hpK (T : Tb) (D : MI) : Heap :=
 [(8,.box (.fn 137 [.ptr 7 [] 0,.ptr 8 [] 0,.ptr 5 [] 0])),(7,.box (.mp 6)),(6,.dU (.int .i64 0) (encI D)),(5,.box (.ptr 0 [] 0))] ++ iH T

theorem Tb.cnt_le (T : Tb) (r : Int) : T.cnt r <= 2 ^ T.n.toNat:=KG _ _
theorem Tb.vH (T : Tb) : T.cnt 0 = 0:=FY _ _
theorem Tb.RP (T : Tb) : T.cnt 1 = 2 ^ T.n.toNat:=Jj _ _

theorem UF (d : Nat) : ∀ (T : Tb) (D : MI),bJ T -> T.nodes.length <= 1000000000 -> DoneK T D -> ∀ (r : Int),T.Rf r -> T.n - T.lvl r <= d ->
  ∃ D',aA Tryz.prog 137 (argK r) (hpK T D) (.int .i64 (T.cnt r : Nat)) (hpK T D') /\ DoneK T D':=by
 have known : ∀ (T : Tb) (D : MI) (r x : Int),iE D r = some x -> aA Tryz.prog 137 (argK r) (hpK T D) (.int .i64 x) (hpK T D):=by
  intro T D r x hl
  refine aA.intro lay mixed Tryz.func137 (by kernel_rfl) rfl (by kernel_rfl) rfl fun hok=>?_
  (try dsimp only[aZ,aN]);(try dsimp only[aj]);conv=>whnf
  refine vS hl ?_
  (try dsimp only[aj]);conv=>whnf
  refine ⟨⟨_,_,.refl _ _,?_⟩⟩
  conv=>whnf
  refine ⟨?_,rfl,by simp [nextId],.mk ?_ (by simp [ay])⟩
  ·all_goals exact wk
  ·repeat' first|exact rfl|exact trivial|exact wR|exact lR _|apply aI
   all_goals first | exact aJ _ | exact aF _ _ | exact kG _ _ | exact iw _ _ | (simp; done) | skip
 induction d with
 | zero =>
   intro T D hT hn hD r hr hd
   have hr2 : r < 2:=by
    apply Classical.byContradiction
    intro h
    have:=hT.kid hr (by omega)
    omega
   have hr0:=hr.1
   rcases (by omega : r = 0 \/ r = 1) with rfl | rfl
   ·exact ⟨D,by rw [T.vH]; exact known T D 0 0 hD.zero,hD⟩
   ·exact ⟨D,by rw [T.RP]; exact known T D 1 _ hD.one,hD⟩
 | succ d ih =>
   intro T D hT hn hD r hr hd
   cases hl : iE D r with
   | some x =>
     have:=hD.all r x hl hr
     subst this
     exact ⟨D,known T D r _ hl,hD⟩
   | none =>
     have hr2 : 2 <= r:=by
      apply Classical.byContradiction
      intro h
      have hr0:=hr.1
      rcases (by omega : r = 0 \/ r = 1) with rfl | rfl
      ·rw [hD.zero] at hl; cases hl
      ·rw [hD.one] at hl; cases hl
     obtain ⟨k1,k2,k3,k4,k5,k6⟩:=hT.kid hr hr2
     have hr':=hr.2
     have hsm:=hT.small
     have hnn : T.n.toNat <= 60:=by unfold Tb.n; omega
     have h60 : 2 ^ T.n.toNat <= 2 ^ 60:=Nat.pow_le_pow_right (by decide) hnn
     have b1:=T.cnt_le (T.node r).2.1
     have b2:=T.cnt_le (T.node r).2.2
     have hc:=hT.XC hr hr2
     obtain ⟨D1,f1,g1⟩:=ih T D hT hn hD (T.node r).2.1 k1 (by omega)
     obtain ⟨D2,f2,g2⟩:=ih T D1 hT hn g1 (T.node r).2.2 k2 (by omega)
     refine ⟨oV D2 r (T.cnt r : Nat),?_,⟨?_,?_,fun r' x' h' hr'=>?_⟩⟩
     ·refine aA.intro lay mixed Tryz.func137 (by kernel_rfl) rfl (by kernel_rfl) rfl fun hok=>?_
      (try dsimp only[aZ,aN]);(try dsimp only[aj]);conv=>whnf
      refine qH hl ?_
      (try dsimp only[aj]);conv=>whnf
      refine aS.both [] [11,12,15] ⟨[false,false,true,true,false,true,true,true,true,true,false,false,false,true,true,false,true,true,true,true,true,false,true,true,true],by kernel_rfl,?_⟩
      conv=>whnf
      refine ⟨bC (by omega) (by omega),?_⟩
      conv=>whnf
      refine dQ default ⟨by omega,by omega⟩ ?_
      conv=>whnf
      refine .gen _ _ f1 fun _=>?_
      conv=>whnf
      (refine aI (by (conv=>whnf)<;>exact rfl) ?_;(conv=>whnf))
      (refine aI (by (conv=>whnf)<;>exact rfl) ?_;(conv=>whnf))
      (refine aI (by (conv=>whnf)<;>exact rfl) ?_;(conv=>whnf))
      refine ⟨bC (by omega) (by omega),?_⟩
      conv=>whnf
      refine dQ default ⟨by omega,by omega⟩ ?_
      conv=>whnf
      refine .gen _ _ f2 fun _=>?_
      conv=>whnf
      refine ⟨bC (by omega) (by omega),?_⟩
      conv=>whnf
      refine ⟨by decide,?_⟩
      have ec : Int.tdiv (((T.cnt (T.node r).2.1 : Nat) : Int) + ((T.cnt (T.node r).2.2 : Nat) : Int)) 2 = ((T.cnt r : Nat) : Int):=by
       rw [hc,Int.tdiv_eq_ediv_of_nonneg (by omega)]
       omega
      rw [ec]
      have b3:=T.cnt_le r
      refine ⟨bC (by omega) (by omega),?_⟩
      (try dsimp only[aj]);conv=>whnf
      refine CV ?_
      (try dsimp only[aj]);conv=>whnf
      refine ⟨⟨_,_,.refl _ _,?_⟩⟩
      conv=>whnf
      refine ⟨?_,rfl,by simp [nextId],.mk ?_ (by simp [ay])⟩
      ·all_goals exact wk
      ·repeat' first|exact rfl|exact trivial|exact wR|exact lR _|apply aI
       all_goals first | exact aJ _ | exact aF _ _ | exact kG _ _ | exact iw _ _ | (simp; done) | skip
     ·rw [jO,if_neg (by omega)]; exact g2.zero
     ·rw [jO,if_neg (by omega)]; exact g2.one
     ·rw [jO] at h'
      split at h'
      ·rename_i e
       subst e
       exact (Option.some.inj h').symm
      ·exact g2.all r' x' h' hr'

theorem F7 (T : Tb) (hT : bJ T) (hn : T.nodes.length <= 1000000000) (r : Int) (hr : T.Rf r) :
  aA Tryz.prog 56 [.ptr 0 [] 0,.int .i64 r] (iH T) (.int .i64 (T.cnt r : Nat)) (iH T):=by
 have hlp:=hT.nY hr
 have hsm:=hT.small
 have h60 : 2 ^ T.n.toNat <= 2 ^ 60:=Nat.pow_le_pow_right (by decide) (by unfold Tb.n; omega)
 obtain ⟨D',f,g⟩:=UF T.n.toNat T [(0,0),(1,((2 ^ T.n.toNat : Nat) : Int))] hT hn ⟨rfl,rfl,fun r x h hr=>by
  simp only [iE] at h
  split at h
  ·rename_i e; subst e; rw [T.vH]; exact (Option.some.inj h).symm
  ·split at h
   ·rename_i e; subst e; rw [T.RP]; exact (Option.some.inj h).symm
   ·cases h⟩ r hr (by omega)
 refine aA.intro lay mixed Tryz.func56 (by kernel_rfl) rfl (by kernel_rfl) rfl fun hok=>?_
 (try dsimp only[aZ,aN]);(try dsimp only[aj]);conv=>whnf
 refine CV (es:=[]) ?_
 (try dsimp only[aj]);conv=>whnf
 rw [List.length_map]
 refine ⟨by omega,?_⟩
 rw [sK (by omega)]
 (try dsimp only[aj]);conv=>whnf
 rw [show 2 ^ T.order.length = 2 ^ T.n.toNat from rfl]
 refine CV (es:=[(0,0)]) ?_
 (try dsimp only[aj]);conv=>whnf
 refine .gen _ _ f fun _=>?_
 (try dsimp only[aj]);conv=>whnf
 refine ⟨⟨_,_,.refl _ _,?_⟩⟩
 conv=>whnf
 refine ⟨?_,rfl,by simp [nextId],.mk ?_ (by simp [ay])⟩
 ·all_goals exact wk
 ·repeat' first|exact rfl|exact trivial|exact wR|exact lR _|apply aI
  all_goals first | exact aJ _ | exact aF _ _ | exact kG _ _ | exact iw _ _ | (simp; done) | skip

def lV (T : Tb) (ns : List Node) (r : Int) : Int:=if r < 2 then T.n else T.pl (ns.getD (r - 2).toNat default).1

structure lD (T : Tb) (ns : List Node) (k : Nat) (x : Node) : Prop where
 v : 0 <= x.1 /\ x.1 < T.n
 lo : 0 <= x.2.1 /\ x.2.1 < 2 + (k : Int)
 hi : 0 <= x.2.2 /\ x.2.2 < 2 + (k : Int)
 Zi : T.pl x.1 < lV T ns x.2.1
 Zj : T.pl x.1 < lV T ns x.2.2

structure ImS where
 T : Tb
 refs : List Int

def gR (refs : List Int) (r : Int) : Int:=refs.getD r.toNat 0

structure ImI (T : Tb) (ns : List Node) (k : Nat) (s : ImS) : Prop where
 good : bJ s.T
 ext : Xt T s.T
 len : s.refs.length = 2 + ns.length
 all : ∀ r : Int,0 <= r -> r < 2 + (k : Int) -> s.T.Rf (gR s.refs r) /\ lV T ns r <= s.T.lvl (gR s.refs r) /\ ∀ t,ev s.T.nodes t (gR s.refs r) = ev ns t r
 size : s.T.nodes.length <= T.nodes.length + k

def ImR (ns : List Node) (k : Nat) (s s' : ImS) : Prop :=
 ∃ x,aA Tryz.prog 132 [.ptr 0 [] 0,.int .i64 (ns.getD k default).1,.int .i64 (gR s.refs (ns.getD k default).2.1),.int .i64 (gR s.refs (ns.getD k default).2.2)] (iH s.T) (.int .i64 x) (iH s'.T) /\ s'.refs = s.refs.set (2 + k) x

theorem gR_set {refs : List Int} {k : Nat} {x r : Int} (hk : k < refs.length) (h0 : 0 <= r) : gR (refs.set k x) r = if r = (k : Int) then x else gR refs r:=by
 unfold gR
 rw [List.getD_eq_getElem?_getD,List.getElem?_set]
 by_cases h : r = (k : Int)
 ·subst h
  rw [if_pos (by omega),if_pos hk,if_pos rfl]; rfl
 ·rw [if_neg (by omega),if_neg h,List.getD_eq_getElem?_getD]

theorem Zo {T : Tb} {ns : List Node} (_ : bJ T) (hns : ∀ (k : Nat) (h : k < ns.length),lD T ns k ns[k]) (hS : T.nodes.length + ns.length <= 1000000000) {k : Nat} (hk : k < ns.length) {s : ImS} (h : ImI T ns k s) :
  ∃ s',ImI T ns (k + 1) s' /\ ImR ns k s s':=by
 have g:=hns k hk
 have ex : ns.getD k default = ns[k]:=by rw [List.getD_eq_getElem?_getD,List.getElem?_eq_getElem hk]; rfl
 obtain ⟨a1,a2,a3⟩:=h.all _ g.lo.1 g.lo.2
 obtain ⟨b1,b2,b3⟩:=h.all _ g.hi.1 g.hi.2
 have m:=wM h.good (v:=ns[k].1) (lo:=gR s.refs ns[k].2.1) (hi:=gR s.refs ns[k].2.2) (by rw [h.ext.n]; exact g.v) a1 b1 (by rw [h.ext.pl]; have:=g.Zi; omega) (by rw [h.ext.pl]; have:=g.Zj; omega)
 have hsz:=h.size
 have q:=KH s.T ns[k].1 (gR s.refs ns[k].2.1) (gR s.refs ns[k].2.2) (by omega)
 generalize s.T.make ns[k].1 (gR s.refs ns[k].2.1) (gR s.refs ns[k].2.2) = w at *
 obtain ⟨T',x⟩:=w
 obtain ⟨m1,m2,m3,m4,m5,m6,m7⟩:=m
 dsimp only at m1 m2 m3 m4 m5 m6 m7 q
 have hlen:=h.len
 refine ⟨⟨T',s.refs.set (2 + k) x⟩,⟨m1,h.ext.trans m2,by show (s.refs.set (2 + k) x).length = _; rw [List.length_set]; exact hlen,fun r h0 h1=>?_,by show T'.nodes.length <= _; omega⟩,x,by rw [ex]; exact q,rfl⟩
 show T'.Rf (gR (s.refs.set (2 + k) x) r) /\ lV T ns r <= T'.lvl (gR (s.refs.set (2 + k) x) r) /\ ∀ t,ev T'.nodes t (gR (s.refs.set (2 + k) x) r) = ev ns t r
 rw [gR_set (by omega) h0]
 by_cases hr : r = ((2 + k : Nat) : Int)
 ·rw [if_pos hr]
  have e1 : (ns.getD (r - 2).toNat default) = ns[k]:=by rw [show (r - 2).toNat = k by omega,ex]
  refine ⟨m3,?_,fun t=>?_⟩
  ·unfold lV
   rw [if_neg (by omega),e1,<- h.ext.pl]; exact m4
  ·have:=tq ns t hk g.lo.2 g.hi.2
   rw [show r = 2 + (k : Int) by omega,this,m7 t,a3 t,b3 t]
 ·rw [if_neg hr]
  obtain ⟨c1,c2,c3⟩:=h.all r h0 (by omega)
  exact ⟨m2.rf c1,by rw [m2.lvl c1]; exact c2,fun t=>by rw [m2.ev c1]; exact c3 t⟩

abbrev xP (order : List Int) (ns : List Node) (root : Int) : AV:=.ag [.sl 1 (order.map (.int .i64)) .no,.sl 3 (ns.map Rj) .no,.int .i64 root]

theorem Jk (T : Tb) (order : List Int) (ns : List Node) (root : Int) (hT : bJ T) (hns : ∀ (k : Nat) (h : k < ns.length),lD T ns k ns[k]) (hS : T.nodes.length + ns.length <= 1000000000) (hr : 0 <= root /\ root < 2 + (ns.length : Int)) :
  ∃ T' x,aA Tryz.prog 52 [.ptr 0 [] 0,xP order ns root] (iH T) (.int .i64 x) (iH T') /\ bJ T' /\ Xt T T' /\ T'.Rf x /\ (∀ t,ev T'.nodes t x = ev ns t root) /\ T'.nodes.length <= T.nodes.length + ns.length:=by
 obtain ⟨f,f0,f1,f2⟩:=o9 (fun k s=>ImI T ns k s) (fun k s s'=>ImR ns k s s') ns.length ⟨T,0 :: 1 :: List.replicate ns.length 0⟩
  ⟨hT,.refl _,by simp; omega,fun r h0 h1=>by
   rcases (by omega : r = 0 \/ r = 1) with rfl | rfl
   ·exact ⟨.zero T,Int.le_refl _,fun t=>rfl⟩
   ·exact ⟨.one T,Int.le_refl _,fun t=>rfl⟩,Nat.le_refl _⟩
  (fun k s hk h=>Zo hT hns hS hk h)
 have l:=f1 ns.length (Nat.le_refl _)
 obtain ⟨r1,r2,r3⟩:=l.all root hr.1 hr.2
 refine ⟨(f ns.length).T,gR (f ns.length).refs root,?_,l.good,l.ext,r1,r3,l.size⟩
 have hll:=l.len
 refine aA.intro lay mixed Tryz.func52 (by kernel_rfl) rfl (by kernel_rfl) rfl fun hok=>?_
 (try dsimp only[aZ,aN]);(try dsimp only[aj]);conv=>whnf
 rw [List.length_map]
 refine ⟨bC (by omega) (by omega),?_⟩
 (try dsimp only[aj]);conv=>whnf
 rw [show (2 : Int) + (ns.length : Int) = ((2 + ns.length : Nat) : Int) by omega]
 refine ⟨⟨by omega,Int.le_refl _,by show ((2 + ns.length : Nat) : Int) * ((8 : Nat) : Int) <= 281474976710656; omega,by omega⟩,.wr ?_⟩
 rw [Int.toNat_natCast]
 (try dsimp only[aj]);conv=>whnf
 refine ⟨⟨by omega,by omega⟩,?_⟩
 (try dsimp only[aj]);conv=>whnf
 refine ⟨by simp; omega,rfl,?_⟩
 (try dsimp only[aj]);conv=>whnf
 rw [show (List.replicate (2 + ns.length) (AV.int IntKind.i64 0)).set (0 + Int.toNat 1) (strip (AV.int IntKind.i64 1)) = (f 0).refs.map (.int .i64) from by
  rw [f0,Nat.add_comm 2]
  simp [List.replicate_succ,strip]]
 refine aK.of <| (aC.inv (.refl _ _) (fun k : Nat=>k <= ns.length) (fun k=>[(18,.int .i64 k)]) (fun k=>(6,.arr 1 (2 + ns.length) ((f k).refs.map (.int .i64))) :: (5,.box (xP order ns root)) :: iH (f k).T) (fun k=>ns.length - k) 0 (Nat.zero_le _) ?_ ?_ ?_)
 ·exact fun _=>rfl
 ·have hT0 : T = (f 0).T:=by rw [f0]
  refine ⟨?_,.mk ?_ (by simp [ay])⟩
  ·all_goals exact wk
  ·rw [<- hT0]
   repeat' first|exact rfl|exact trivial|exact wR|exact lR _|apply aI
   all_goals first | exact aJ _ | exact aF _ _ | skip
 intro k hk _
 have lk:=f1 k hk
 have lkl:=lk.len
 (try dsimp only[aj]);conv=>whnf
 refine And.intro (fun h=>?_) (fun h=>?_)
 ·have hlt : k < ns.length:=by simpa using h
  obtain ⟨x,g1,g2⟩:=f2 k hlt
  have gk:=hns k hlt
  have ex : ns.getD k default = ns[k]:=by rw [List.getD_eq_getElem?_getD,List.getElem?_eq_getElem hlt]; rfl
  rw [ex] at g1
  (try dsimp only[aj]);conv=>whnf
  refine jq hlt ?_
  (try dsimp only[aj]);conv=>whnf
  refine aS.mk ⟨[true,true,true,true,true,false,true,true,false,true,false,true,true,false,true,false,false,true,false],by kernel_rfl,?_⟩
  conv=>whnf
  refine ⟨bC (by omega) (by omega),?_⟩
  conv=>whnf
  refine ⟨⟨gk.lo.1,by have:=gk.lo.2; omega⟩,?_⟩
  conv=>whnf
  rw [Nat.zero_add]
  refine dQ 0 ⟨by omega,by have:=gk.lo.2; have:=gk.lo.1; omega⟩ ?_
  conv=>whnf
  refine ⟨rfl,?_⟩
  conv=>whnf
  refine ⟨⟨gk.hi.1,by have:=gk.hi.2; omega⟩,?_⟩
  conv=>whnf
  rw [Nat.zero_add]
  refine dQ 0 ⟨by omega,by have:=gk.hi.2; have:=gk.hi.1; omega⟩ ?_
  conv=>whnf
  refine ⟨rfl,?_⟩
  conv=>whnf
  rw [Int.toNat_natCast,Int.toNat_natCast]
  refine .gen _ _ (xM [(7,_),(6,_),(5,_)] (by simp) g1 (fun _=>rfl) (fun _=>rfl) rfl) fun _=>?_
  conv=>whnf
  refine ⟨⟨by omega,by omega⟩,?_⟩
  conv=>whnf
  refine ⟨by rw [List.length_map]; omega,rfl,?_⟩
  (try dsimp only[aj]);conv=>whnf
  rw [show 0 + (2 + (k : Int)).toNat = 2 + k by omega]
  refine zA ?_;conv=>whnf
  refine ⟨k + 1,?_,?_,?_⟩
  ·exact hlt
  ·rw [g2]
   refine ⟨?_,.mk ?_ (by simp [ay])⟩
   ·all_goals exact wk
   ·repeat' first|exact rfl|exact trivial|exact wR|exact lR _|apply aI
    all_goals first | exact aJ _ | exact aF _ _ | (rw [List.map_set]; exact aB _) | skip
  ·omega
 ·have hk : k = ns.length:=by (have : ¬ k < ns.length:=by simpa using h); omega
  subst hk
  (try dsimp only[aj]);conv=>whnf
  refine ⟨⟨hr.1,by have:=hr.2; omega⟩,?_⟩
  (try dsimp only[aj]);conv=>whnf
  rw [Nat.zero_add]
  refine dQ 0 ⟨by omega,by have:=hr.1; have:=hr.2; omega⟩ ?_
  (try dsimp only[aj]);conv=>whnf
  refine ⟨rfl,?_⟩
  (try dsimp only[aj]);conv=>whnf
  rw [Int.toNat_natCast]
  refine ⟨⟨_,_,.refl _ _,?_⟩⟩
  conv=>whnf
  refine ⟨?_,rfl,by simp [nextId],.mk ?_ (by simp [ay])⟩
  ·all_goals exact wk
  ·repeat' first|exact rfl|exact trivial|exact wR|exact lR _|apply aI
   all_goals first | exact aJ _ | exact aF _ _ | (simp; done) | skip

theorem ES {T : Tb} {ns l : List Node} {x : Int} (h : x < 2 + (ns.length : Int)) : lV T (ns ++ l) x = lV T ns x:=by
 unfold lV
 split
 ·rfl
 ·rw [List.getD_eq_getElem?_getD,List.getD_eq_getElem?_getD,List.getElem?_append_left (by omega)]

theorem lD.app {T : Tb} {ns l : List Node} {k : Nat} {x : Node} (h : lD T ns k x) (hk : k <= ns.length) : lD T (ns ++ l) k x :=
 ⟨h.v,h.lo,h.hi,by rw [ES (by have:=h.lo.2; omega)]; exact h.Zi,by rw [ES (by have:=h.hi.2; omega)]; exact h.Zj⟩

structure ExR (T : Tb) (ns : List Node) (r x : Int) : Prop where
 lo : 0 <= x
 hi : x < 2 + (ns.length : Int)
 lvl : lV T ns x = T.lvl r
 val : ∀ t,ev ns t x = ev T.nodes t r

theorem ExR.app {T : Tb} {ns l : List Node} {r x : Int} (h : ExR T ns r x) : ExR T (ns ++ l) r x :=
 ⟨h.lo,by have:=h.hi; rw [List.length_append]; omega,by rw [ES h.hi]; exact h.lvl,fun t=>by rw [Bq _ _ _ h.hi]; exact h.val t⟩

structure ExI (T : Tb) (D : MI) (ns : List Node) : Prop where
 zero : ∃ x,iE D 0 = some x
 one : ∃ x,iE D 1 = some x
 all : ∀ r x,iE D r = some x -> T.Rf r -> ExR T ns r x
 nodes : ∀ (k : Nat) (h : k < ns.length),lD T ns k ns[k]

abbrev argE (r : Int) : List AV:=[.int .i64 r,.ptr 9 [] 0,.ptr 5 [] 0,.ptr 10 [] 0,.ptr 7 [] 0]
abbrev OQ : AV:=.ag [.aG,.aG,.int .i64 0]
abbrev hpE (T : Tb) (D : MI) (ns : List Node) : Heap :=
 [(11,.tok 3 ns.length),(10,.box (.fn 229 [.ptr 9 [] 0,.ptr 5 [] 0,.ptr 10 [] 0,.ptr 7 [] 0])),(9,.box (.mp 8)),(8,.dU (.int .i64 0) (encI D)),
  (7,.box (.ag [.sl 1 (T.order.map (.int .i64)) .no,.sl 3 (ns.map Rj) (.own 11),.int .i64 0])),(6,.box OQ),(5,.box (.ptr 0 [] 0))] ++ iH T

theorem bndE (T : Tb) (D : MI) (ns : List Node) : Lm 12 (hpE T D ns):=⟨rfl,rfl,rfl,iw _ _,rfl,rfl,rfl,bndT T 12 (by decide)⟩

theorem Qr {es : MI} {x r : Int} {k : AV -> Prop} (hl : iE es x = some r) (h : k (.int .i64 r)) : wz (encI es) (.int .i64 x) fun r=>uF false (.int .i64 0) r k:=by
 refine ⟨some (.int .i64 r),?_,h⟩
 induction es with
 | nil=>simp [iE] at hl
 | cons e es ih =>
   obtain ⟨y,v⟩:=e
   simp only [iE] at hl
   by_cases hy : y = x
   ·subst hy
    rw [if_pos rfl] at hl
    obtain rfl:=Option.some.inj hl
    exact ⟨_,List.mem_cons_self,rfl,rfl⟩
   ·rw [if_neg hy] at hl
    obtain ⟨z,hz,h3,h4⟩:=ih hl
    exact ⟨z,by simp only [encI,List.map_cons,List.mem_cons]; exact .inr hz,h3,h4⟩

theorem aupdI2 {es : MI} {x v w : Int} {k : List (AV × AV) -> Prop} (e : w = v) (h : k (encI (oV es x v))) : Vb (encI es) (.int .i64 x) (.int .i64 w) k:=by subst e; exact CV h

theorem Qc (T : Tb) (hT : bJ T) (hn : T.nodes.length <= 1000000000) (d : Nat) : ∀ (D : MI) (ns : List Node),ExI T D ns -> ∀ (r : Int),T.Rf r -> T.n - T.lvl r <= d -> ns.length + 2 ^ d <= 1000000000 ->
  ∃ D' ns' x,aA Tryz.prog 229 (argE r) (hpE T D ns) (.int .i64 x) (hpE T D' ns') /\ ExI T D' ns' /\ (∃ l,ns' = ns ++ l) /\ ExR T ns' r x /\ ns'.length + 1 <= ns.length + 2 ^ d:=by
 have known : ∀ (D : MI) (ns : List Node) (r x : Int),iE D r = some x -> aA Tryz.prog 229 (argE r) (hpE T D ns) (.int .i64 x) (hpE T D ns):=by
  intro D ns r x hl
  refine aA.intro lay mixed Tryz.func229 (by kernel_rfl) rfl (by kernel_rfl) rfl fun hok=>?_
  (try dsimp only[aZ,aN]);(try dsimp only[aj]);conv=>whnf
  refine vS hl ?_
  (try dsimp only[aj]);conv=>whnf
  refine ⟨⟨_,_,.refl _ _,?_⟩⟩
  conv=>whnf
  refine ⟨?_,rfl,by simp [nextId],.mk ?_ (by simp [ay])⟩
  ·all_goals exact wk
  ·repeat' first|exact rfl|exact trivial|exact wR|exact lR _|apply aI
   all_goals first | exact aJ _ | exact aF _ _ | exact kG _ _ | exact iw _ _ | (show dK _ (List.map _ (_ ++ [_])); rw [List.map_append]; exact aB _) | (simp; done) | skip
 have h2d : ∀ d : Nat,0 < 2 ^ d:=fun d=>Nat.pow_pos (by decide)
 induction d with
 | zero =>
   intro D ns hD r hr hd hS
   have hr2 : r < 2:=by
    apply Classical.byContradiction
    intro h
    have:=hT.kid hr (by omega)
    omega
   have hr0:=hr.1
   obtain ⟨x,hl⟩ : ∃ x,iE D r = some x:=by
    rcases (by omega : r = 0 \/ r = 1) with rfl | rfl
    ·exact hD.zero
    ·exact hD.one
   exact ⟨D,ns,x,known D ns r x hl,hD,⟨[],by simp⟩,hD.all r x hl hr,Nat.le_refl _⟩
 | succ d ih =>
   intro D ns hD r hr hd hS
   have h2e : 2 ^ (d + 1) = 2 ^ d + 2 ^ d:=by rw [Nat.pow_succ]; omega
   have hp:=h2d d
   rw [h2e] at hS ⊢
   cases hl : iE D r with
   | some x=>exact ⟨D,ns,x,known D ns r x hl,hD,⟨[],by simp⟩,hD.all r x hl hr,by omega⟩
   | none =>
     have hr2 : 2 <= r:=by
      apply Classical.byContradiction
      intro h
      have hr0:=hr.1
      rcases (by omega : r = 0 \/ r = 1) with rfl | rfl
      ·obtain ⟨x,h⟩:=hD.zero; rw [h] at hl; cases hl
      ·obtain ⟨x,h⟩:=hD.one; rw [h] at hl; cases hl
     obtain ⟨k1,k2,k3,k4,k5,k6⟩:=hT.kid hr hr2
     obtain ⟨gn,ge⟩:=hT.at hr hr2
     have hr':=hr.2
     have hlr : T.lvl r = T.pl (T.node r).1:=if_neg (by omega)
     obtain ⟨D1,n1,x1,f1,i1,⟨l1,e1⟩,p1,s1⟩:=ih D ns hD (T.node r).2.1 k1 (by omega) (by omega)
     obtain ⟨D2,n2,x2,f2,i2,⟨l2,e2⟩,p2,s2⟩:=ih D1 n1 i1 (T.node r).2.2 k2 (by omega) (by omega)
     have p1' : ExR T n2 (T.node r).2.1 x1:=by rw [e2]; exact p1.app
     have hnew : ∀ h : n2.length < (n2 ++ [((T.node r).1,x1,x2)]).length,(n2 ++ [((T.node r).1,x1,x2)])[n2.length] = ((T.node r).1,x1,x2):=fun h=>by simp
     have gnew : lD T (n2 ++ [((T.node r).1,x1,x2)]) n2.length ((T.node r).1,x1,x2) :=
      lD.app ⟨gn.v,⟨p1'.lo,p1'.hi⟩,⟨p2.lo,p2.hi⟩,by show T.pl (T.node r).1 < lV T n2 x1; rw [p1'.lvl,<- hlr]; exact k3,by show T.pl (T.node r).1 < lV T n2 x2; rw [p2.lvl,<- hlr]; exact k4⟩ (Nat.le_refl _)
     have pnew : ExR T (n2 ++ [((T.node r).1,x1,x2)]) r (2 + (n2.length : Int)):=by
      refine ⟨by omega,by simp; omega,?_,fun t=>?_⟩
      ·unfold lV
       rw [if_neg (by omega),show (2 + (n2.length : Int) - 2).toNat = n2.length by omega,List.getD_eq_getElem?_getD,List.getElem?_eq_getElem (by simp),hnew,hlr]; rfl
      ·have:=tq (n2 ++ [((T.node r).1,x1,x2)]) t (k:=n2.length) (by simp) (by rw [hnew]; exact p1'.hi) (by rw [hnew]; exact p2.hi)
       rw [hnew] at this
       rw [this,Bq _ _ _ p1'.hi,Bq _ _ _ p2.hi,p1'.val,p2.val,ge t]
     refine ⟨oV D2 r (2 + (n2.length : Int)),n2 ++ [((T.node r).1,x1,x2)],2 + (n2.length : Int),?_,⟨?_,?_,fun r' x' h' hr''=>?_,fun k hk=>?_⟩,⟨l1 ++ l2 ++ [((T.node r).1,x1,x2)],by rw [e2,e1]; simp⟩,pnew,by simp; omega⟩
     ·have t1:=fun K : AV=>aA.top 12 [(12,.box K)] (by simp) f1 ⟨rfl,rfl⟩ (bndE _ _ _) (bndE _ _ _) ⟨rfl,rfl⟩ ⟨rfl,rfl⟩
      have t2:=fun K : AV=>aA.top 12 [(12,.box K)] (by simp) f2 ⟨rfl,rfl⟩ (bndE _ _ _) (bndE _ _ _) ⟨rfl,rfl⟩ ⟨rfl,rfl⟩
      refine aA.intro lay mixed Tryz.func229 (by kernel_rfl) rfl (by kernel_rfl) rfl fun hok=>?_
      (try dsimp only[aZ,aN]);(try dsimp only[aj]);conv=>whnf
      refine qH hl ?_
      (try dsimp only[aj]);conv=>whnf
      refine ⟨bC (by omega) (by omega),?_⟩
      (try dsimp only[aj]);conv=>whnf
      refine dQ default ⟨by omega,by omega⟩ ?_
      (try dsimp only[aj]);conv=>whnf
      refine .gen _ _ (t1 _) fun _=>?_
      (try dsimp only[aj]);conv=>whnf
      refine .gen _ _ (t2 _) fun _=>?_
      (try dsimp only[aj]);conv=>whnf
      refine ⟨by rw [List.length_map],.mk (by simp [maxL]; omega) (by simp; omega) ?_⟩
      (try dsimp only[aj]);conv=>whnf
      refine ⟨bC (by simp; omega) (by simp; omega),?_⟩
      (try dsimp only[aj]);conv=>whnf
      refine aupdI2 (v:=2 + (n2.length : Int)) (by simp; omega) ?_
      (try dsimp only[aj]);conv=>whnf
      refine Qr (r:=2 + (n2.length : Int)) (by rw [jO,if_pos rfl]) ?_
      (try dsimp only[aj]);conv=>whnf
      refine ⟨⟨_,_,.refl _ _,?_⟩⟩
      conv=>whnf
      refine ⟨?_,rfl,by simp [nextId],.mk ?_ (by simp [ay])⟩
      ·all_goals exact wk
      ·repeat' first|exact rfl|exact trivial|exact wR|exact lR _|apply aI
       all_goals first | exact aJ _ | exact aF _ _ | exact kG _ _ | exact iw _ _ | (show dK _ (List.map _ (_ ++ [_])); rw [List.map_append]; exact aB _) | (simp; done) | skip
     ·rw [jO,if_neg (by omega)]; exact i2.zero
     ·rw [jO,if_neg (by omega)]; exact i2.one
     ·rw [jO] at h'
      split at h'
      ·rename_i e
       subst e
       obtain rfl:=Option.some.inj h'
       exact pnew
      ·exact (i2.all r' x' h' hr'').app
     ·by_cases hkl : k < n2.length
      ·rw [List.getElem_append_left hkl]; exact (i2.nodes k hkl).app (by omega)
      ·obtain rfl : k = n2.length:=by simp at hk; omega
       rw [hnew]; exact gnew

theorem UE (T : Tb) (hT : bJ T) (hn : T.nodes.length <= 1000000000) (hS : 2 ^ T.n.toNat <= 1000000000) (r : Int) (hr : T.Rf r) :
  ∃ ns x,aA Tryz.prog 131 [.ptr 0 [] 0,.int .i64 r] (iH T) (xP T.order ns x) (iH T) /\ (∀ (k : Nat) (h : k < ns.length),lD T ns k ns[k]) /\ 0 <= x /\ x < 2 + (ns.length : Int) /\ (∀ t,ev ns t x = ev T.nodes t r) /\ ns.length <= 2 ^ T.n.toNat:=by
 have hlp:=hT.nY hr
 have hsm:=hT.small
 have i0 : ExI T [(0,0),(1,1)] []:=by
  refine ⟨⟨0,rfl⟩,⟨1,rfl⟩,fun r x h hr=>?_,fun k hk=>absurd hk (Nat.not_lt_zero _)⟩
  simp only [iE] at h
  split at h
  ·rename_i e; subst e
   obtain rfl:=Option.some.inj h
   exact ⟨by omega,by omega,rfl,fun t=>rfl⟩
  ·split at h
   ·rename_i e; subst e
    obtain rfl:=Option.some.inj h
    exact ⟨by omega,by omega,rfl,fun t=>rfl⟩
   ·cases h
 obtain ⟨D',ns',x,f,g,⟨l,e⟩,p,n⟩:=Qc T hT hn T.n.toNat [(0,0),(1,1)] [] i0 r hr (by omega) (by simpa using hS)
 simp only [List.length_nil,Nat.zero_add] at n
 refine ⟨ns',x,?_,g.nodes,p.lo,p.hi,p.val,by omega⟩
 refine aA.intro lay mixed Tryz.func131 (by kernel_rfl) rfl (by kernel_rfl) rfl fun hok=>?_
 (try dsimp only[aZ,aN]);(try dsimp only[aj]);conv=>whnf
 refine .pure (by simp [maxL]; omega) (by simp; omega) ?_
 (try dsimp only[aj]);conv=>whnf
 refine CV (es:=[]) ?_
 (try dsimp only[aj]);conv=>whnf
 refine CV (es:=[(0,0)]) ?_
 (try dsimp only[aj]);conv=>whnf
 refine .gen _ _ (aA.pre (.I9 7 [1] 3 [] (.ag [.sl 1 (T.order.map (.int .i64)) .no,.aG,.int .i64 0]) .aG _ rfl rfl (.inl ⟨rfl,rfl⟩) rfl (.refl _ _)) f) fun _=>?_
 (try dsimp only[aj]);conv=>whnf
 refine ⟨⟨_,_,.refl _ _,?_⟩⟩
 conv=>whnf
 refine ⟨?_,rfl,by simp [nextId],.mk ?_ (by simp [ay])⟩
 ·all_goals exact wk
 ·repeat' first|exact rfl|exact trivial|exact wR|exact lR _|apply aI
  all_goals first | exact aJ _ | exact aF _ _ | exact kG _ _ | exact iw _ _ | (show dK _ (List.map _ (_ ++ [_])); rw [List.map_append]; exact aB _) | (simp; done) | skip

structure Hl (v : Int) (i : Nat) (x : Nd) : Prop where
 kind : 0 <= x.kind /\ x.kind <= 5
 num : if x.kind = 0 then x.args.length = 0 else if x.kind = 1 then x.args.length = 1 else 1 <= x.args.length /\ x.args.length <= 16
 args : ∀ a ∈ x.args,0 <= a /\ a < v + i
 k : if x.kind = 0 then x.k = 0 \/ x.k = 1 else if x.kind = 4 then 1 <= x.k /\ x.k <= x.args.length else x.k = 0

structure xY (f : Fo) : Prop where
 vars : 0 <= f.vars /\ f.vars <= 24
 len : f.nodes.length <= 128
 nodes : ∀ (i : Nat) (h : i < f.nodes.length),Hl f.vars i f.nodes[i]
 top : 0 <= f.top /\ f.top < f.vars + f.nodes.length

theorem KN (x : Nd) (v : Int) (i : Nat) (h : Hl v i x) : aA Tryz.prog 250 [.int .i64 x.kind,.int .i64 x.args.length] [] .tt []:=by
 have h2:=h.num
 refine aA.intro lay mixed Tryz.func250 (by kernel_rfl) rfl (by kernel_rfl) rfl fun hok=>?_
 (try dsimp only[aZ,aN]);(try dsimp only[aj]);conv=>whnf
 refine And.intro (fun g=>?_) (fun g=>?_)
 ·rw [if_pos g] at h2
  (try dsimp only[aj]);conv=>whnf
  refine fM ?_;(conv=>whnf);refine ⟨?_,rfl⟩;conv=>whnf
  show (x.args.length : Int) = 0
  omega
 rw [if_neg g] at h2
 (try dsimp only[aj]);conv=>whnf
 refine And.intro (fun g=>?_) (fun g=>?_)
 ·rw [if_pos g] at h2
  (try dsimp only[aj]);conv=>whnf
  refine fM ?_;(conv=>whnf);refine ⟨?_,rfl⟩;conv=>whnf
  show (x.args.length : Int) = 1
  omega
 rw [if_neg g] at h2
 (try dsimp only[aj]);conv=>whnf
 refine And.intro (fun g=>?_) (fun g=>by exfalso; omega)
 (try dsimp only[aj]);conv=>whnf
 refine fM ?_;(conv=>whnf);refine ⟨?_,rfl⟩;conv=>whnf
 show (x.args.length : Int) <= 16
 omega

theorem KL (f : Fo) (hv : 0 <= f.vars /\ f.vars <= 24) (i : Nat) (hi : i < f.nodes.length) (hl : f.nodes.length <= 128) (h : Hl f.vars i f.nodes[i]) : aA Tryz.prog 186 [f.av,.int .i64 i] [] .eP []:=by
 have ca:=KN _ _ _ h
 obtain ⟨h1,h2,h3,h4⟩:=h
 have hal : f.nodes[i].args.length <= 16:=by
  split at h2
  ·omega
  ·split at h2 <;> omega
 refine aA.intro lay mixed Tryz.func186 (by kernel_rfl) rfl (by kernel_rfl) rfl fun hok=>?_
 (try dsimp only[aZ,aN]);(try dsimp only[aj]);conv=>whnf
 refine jq hi ?_
 generalize f.nodes[i] = x at *
 (try dsimp only[aj]);conv=>whnf
 refine And.intro (fun g=>by exfalso; omega) (fun g=>?_)
 (try dsimp only[aj]);conv=>whnf
 refine And.intro (fun g=>by exfalso; omega) (fun g=>?_)
 (try dsimp only[aj]);conv=>whnf
 rw [show (((x.args.map (AV.int .i64)).length : Nat) : Int) = (x.args.length : Int) by simp]
 refine .pure _ _ ?_ ⟨rfl,rfl⟩ ca fun _=>?_
 ·all_goals exact wk
 (try dsimp only[aj]);conv=>whnf
 refine aK.of <| aC.inv (.refl _ _) (fun (j : Nat)=>j <= x.args.length) (fun (j : Nat)=>[(33,.int .i64 j)]) (fun _=>_) (fun (j : Nat)=>x.args.length - j) 0 ?_ (fun _=>rfl) ?_ ?_
 ·exact Nat.zero_le _
 ·all_goals exact wk
 intro j hj _
 (try dsimp only[aj]);conv=>whnf
 refine And.intro (fun g1=>?_) (fun g1=>?_)
 ·have hjl : j < x.args.length:=by simpa using g1
  have ha:=h3 _ (List.getElem_mem hjl)
  (try dsimp only[aj]);conv=>whnf
  refine jq hjl ?_
  generalize x.args[j] = a at *
  (try dsimp only[aj]);conv=>whnf
  refine And.intro (fun g=>by exfalso; omega) (fun g=>?_)
  (try dsimp only[aj]);conv=>whnf
  refine zA ?_;conv=>whnf
  refine And.intro (fun g=>by exfalso; omega) (fun g=>?_)
  (try dsimp only[aj]);conv=>whnf
  refine zA ?_;conv=>whnf
  refine ⟨j + 1,?_,?_,?_⟩
  ·exact hjl
  ·all_goals exact wk
  ·omega
 (try dsimp only[aj]);conv=>whnf
 refine And.intro (fun g=>?_) (fun g=>?_)
 ·rw [if_pos g] at h4
  (try dsimp only[aj]);conv=>whnf
  refine And.intro (fun g=>?_) (fun g=>?_)
  ·(try dsimp only[aj]);conv=>whnf
   refine And.intro (fun g=>by exfalso; omega) (fun g=>?_)
   (try dsimp only[aj]);conv=>whnf
   refine fM ?_;(conv=>whnf);refine ⟨?_,rfl⟩;conv=>whnf
   all_goals exact wk
  ·(try dsimp only[aj]);conv=>whnf
   refine fM ?_;(conv=>whnf);refine ⟨?_,rfl⟩;conv=>whnf
   all_goals exact wk
 rw [if_neg g] at h4
 (try dsimp only[aj]);conv=>whnf
 refine And.intro (fun g=>?_) (fun g=>?_)
 ·rw [if_pos g] at h4
  (try dsimp only[aj]);conv=>whnf
  refine And.intro (fun g=>by exfalso; omega) (fun g=>?_)
  (try dsimp only[aj]);conv=>whnf
  refine And.intro (fun g=>by exfalso; simp at g; omega) (fun g=>?_)
  (try dsimp only[aj]);conv=>whnf
  refine fM ?_;(conv=>whnf);refine ⟨?_,rfl⟩;conv=>whnf
  all_goals exact wk
 rw [if_neg g] at h4
 (try dsimp only[aj]);conv=>whnf
 refine And.intro (fun g=>by exfalso; omega) (fun g=>?_)
 (try dsimp only[aj]);conv=>whnf
 refine fM ?_;(conv=>whnf);refine ⟨?_,rfl⟩;conv=>whnf
 all_goals exact wk

theorem X6 (f : Fo) (h : xY f) : aA Tryz.prog 187 [f.av,.int .i64 f.top] [] .tt []:=by
 obtain ⟨h1,h2,_,h4⟩:=h
 refine aA.intro lay mixed Tryz.func187 (by kernel_rfl) rfl (by kernel_rfl) rfl fun hok=>?_
 (try dsimp only[aZ,aN]);(try dsimp only[aj]);conv=>whnf
 refine And.intro (fun _=>?_) (fun g=>by exfalso; omega)
 (try dsimp only[aj]);conv=>whnf
 refine And.intro (fun _=>?_) (fun g=>by exfalso; omega)
 (try dsimp only[aj]);conv=>whnf
 refine And.intro (fun g=>?_) (fun g=>?_)
 ·(try dsimp only[aj]);conv=>whnf
  refine fM ?_;(conv=>whnf);refine ⟨?_,rfl⟩;conv=>whnf
  all_goals exact wk
 ·(try dsimp only[aj]);conv=>whnf
  refine zA ?_;conv=>whnf
  refine fM ?_;(conv=>whnf);refine ⟨?_,rfl⟩;conv=>whnf
  show f.top - f.vars < (((f.nodes.map Nd.av).length : Nat) : Int)
  simp
  omega

theorem vM (f : Fo) (h : xY f) : aA Tryz.prog 98 [f.av] [] .eP []:=by
 have cv:=X6 f h
 obtain ⟨h1,h2,h3,h4⟩:=h
 have cn:=fun i hi=>KL f h1 i hi h2 (h3 i hi)
 refine aA.intro lay mixed Tryz.func98 (by kernel_rfl) rfl (by kernel_rfl) rfl fun hok=>?_
 (try dsimp only[aZ,aN]);(try dsimp only[aj]);conv=>whnf
 refine And.intro (fun g=>by exfalso; omega) (fun g=>?_)
 (try dsimp only[aj]);conv=>whnf
 refine And.intro (fun g=>by exfalso; omega) (fun g=>?_)
 (try dsimp only[aj]);conv=>whnf
 refine And.intro (fun g=>by exfalso; simp at g; omega) (fun g=>?_)
 (try dsimp only[aj]);conv=>whnf
 refine aK.of <| aC.inv (.refl _ _) (fun (i : Nat)=>i <= f.nodes.length) (fun (i : Nat)=>[(22,.int .i64 i)]) (fun _=>_) (fun (i : Nat)=>f.nodes.length - i) 0 ?_ (fun _=>rfl) ?_ ?_
 ·exact Nat.zero_le _
 ·all_goals exact wk
 intro i hi _
 (try dsimp only[aj]);conv=>whnf
 refine And.intro (fun g1=>?_) (fun g1=>?_)
 ·have hil : i < f.nodes.length:=by simpa using g1
  (try dsimp only[aj]);conv=>whnf
  refine .pure _ _ ?_ ⟨rfl,rfl⟩ (cn i hil) fun _=>?_
  ·exact ak _
  (try dsimp only[aj]);conv=>whnf
  refine zA ?_;conv=>whnf
  refine ⟨i + 1,?_,?_,?_⟩
  ·exact hil
  ·all_goals exact wk
  ·omega
 (try dsimp only[aj]);conv=>whnf
 refine .pure _ _ ?_ ⟨rfl,rfl⟩ cv fun _=>?_
 ·exact ak _
 (try dsimp only[aj]);conv=>whnf
 refine fM ?_;(conv=>whnf);refine ⟨?_,rfl⟩;conv=>whnf
 all_goals exact wk

def Ih (v : List Bool) (args : List Int) : Nat:=args.foldl (fun n a=>if v.getD a.toNat false = true then n + 1 else n) 0

def qA (x : Nd) (n : Nat) : Bool :=
 if x.kind = 0 then decide (x.k = 1) else if x.kind = 1 then decide (n = 0) else if x.kind = 2 then decide (n = x.args.length) else if x.kind = 3 then decide (0 < n)
 else if x.kind = 4 then decide (x.k <= n) else if x.kind = 5 then decide (n % 2 = 1) else false

def OX (v : List Bool) (x : Nd) : List Bool:=v ++ [qA x (Ih v x.args)]

structure Yy (T T' : Tb) (r : Int) (f : (Int -> Bool) -> Bool) (z : Nat) : Prop where
 good : bJ T'
 ext : Xt T T'
 rf : T'.Rf r
 val : ∀ s,ev T'.nodes s r = f s
 size : T'.nodes.length <= T.nodes.length + z

theorem Ej (T : Tb) (hT : bJ T) (N : Nat) (hN : T.n <= N) (a b c : Int) (ha : T.Rf a) (hb : T.Rf b) (hc : T.Rf c) : T.n - min (min (T.lvl a) (T.lvl b)) (T.lvl c) <= N:=by
 have:=hT.nY ha
 have:=hT.nY hb
 have:=hT.nY hc
 omega

theorem XH (N : Nat) (T : Tb) (hT : bJ T) (hN : T.n <= N) (a : Int) (ha : T.Rf a) (hS : T.nodes.length + 2 ^ N <= 1000000000) :
  ∃ T' r,aA Tryz.prog 134 [.ptr 0 [] 0,.int .i64 a] (iH T) (.int .i64 r) (iH T') /\ Yy T T' r (fun s=>!ev T.nodes s a) (2 ^ N):=by
 obtain ⟨T',r,f,p,n⟩:=oK N T hT a 0 1 ha (.zero T) (.one T) (Ej T hT N hN _ _ _ ha (.zero T) (.one T)) hS
 refine ⟨T',r,?_,⟨p.good,p.ext,p.rf,fun s=>by rw [p.val s,nZ,yD]; cases ev T.nodes s a <;> rfl,by omega⟩⟩
 refine aA.intro lay mixed Tryz.func134 (by kernel_rfl) rfl (by kernel_rfl) rfl fun hok=>?_
 (try dsimp only[aZ,aN]);(try dsimp only[aj]);conv=>whnf
 refine .gen _ _ f fun _=>?_
 (try dsimp only[aj]);conv=>whnf
 refine ⟨⟨_,_,.refl _ _,?_⟩⟩
 conv=>whnf
 refine ⟨?_,rfl,by simp [nextId],.mk ?_ (by simp [ay])⟩
 ·all_goals exact wk
 ·repeat' first|exact rfl|exact trivial|exact wR|exact lR _|apply aI
  all_goals first | exact aJ _ | exact aF _ _ | (simp; done) | skip

theorem Qe (N : Nat) (T : Tb) (hT : bJ T) (hN : T.n <= N) (a b : Int) (ha : T.Rf a) (hb : T.Rf b) (hS : T.nodes.length + 2 * 2 ^ N <= 1000000000) :
  ∃ T' r,aA Tryz.prog 57 [.ptr 0 [] 0,.int .i64 a,.int .i64 b] (iH T) (.int .i64 r) (iH T') /\ Yy T T' r (fun s=>ev T.nodes s a && ev T.nodes s b) (2 * 2 ^ N):=by
 obtain ⟨T',r,f,p,n⟩:=oK N T hT a b 0 ha hb (.zero T) (Ej T hT N hN _ _ _ ha hb (.zero T)) (by omega)
 refine ⟨T',r,?_,⟨p.good,p.ext,p.rf,fun s=>by rw [p.val s,nZ]; cases ev T.nodes s a <;> rfl,by omega⟩⟩
 refine aA.intro lay mixed Tryz.func57 (by kernel_rfl) rfl (by kernel_rfl) rfl fun hok=>?_
 (try dsimp only[aZ,aN]);(try dsimp only[aj]);conv=>whnf
 refine .gen _ _ f fun _=>?_
 (try dsimp only[aj]);conv=>whnf
 refine ⟨⟨_,_,.refl _ _,?_⟩⟩
 conv=>whnf
 refine ⟨?_,rfl,by simp [nextId],.mk ?_ (by simp [ay])⟩
 ·all_goals exact wk
 ·repeat' first|exact rfl|exact trivial|exact wR|exact lR _|apply aI
  all_goals first | exact aJ _ | exact aF _ _ | (simp; done) | skip

theorem c_tOr (N : Nat) (T : Tb) (hT : bJ T) (hN : T.n <= N) (a b : Int) (ha : T.Rf a) (hb : T.Rf b) (hS : T.nodes.length + 2 * 2 ^ N <= 1000000000) :
  ∃ T' r,aA Tryz.prog 227 [.ptr 0 [] 0,.int .i64 a,.int .i64 b] (iH T) (.int .i64 r) (iH T') /\ Yy T T' r (fun s=>ev T.nodes s a || ev T.nodes s b) (2 * 2 ^ N):=by
 obtain ⟨T',r,f,p,n⟩:=oK N T hT a 1 b ha (.one T) hb (Ej T hT N hN _ _ _ ha (.one T) hb) (by omega)
 refine ⟨T',r,?_,⟨p.good,p.ext,p.rf,fun s=>by rw [p.val s,yD]; cases ev T.nodes s a <;> rfl,by omega⟩⟩
 refine aA.intro lay mixed Tryz.func227 (by kernel_rfl) rfl (by kernel_rfl) rfl fun hok=>?_
 (try dsimp only[aZ,aN]);(try dsimp only[aj]);conv=>whnf
 refine .gen _ _ f fun _=>?_
 (try dsimp only[aj]);conv=>whnf
 refine ⟨⟨_,_,.refl _ _,?_⟩⟩
 conv=>whnf
 refine ⟨?_,rfl,by simp [nextId],.mk ?_ (by simp [ay])⟩
 ·all_goals exact wk
 ·repeat' first|exact rfl|exact trivial|exact wR|exact lR _|apply aI
  all_goals first | exact aJ _ | exact aF _ _ | (simp; done) | skip

theorem XG (N : Nat) (T : Tb) (hT : bJ T) (hN : T.n <= N) (a b : Int) (ha : T.Rf a) (hb : T.Rf b) (hS : T.nodes.length + 2 * 2 ^ N <= 1000000000) :
  ∃ T' r,aA Tryz.prog 53 [.ptr 0 [] 0,.int .i64 a,.int .i64 b] (iH T) (.int .i64 r) (iH T') /\ Yy T T' r (fun s=>ev T.nodes s a ^^ ev T.nodes s b) (2 * 2 ^ N):=by
 obtain ⟨T1,c,f1,p1⟩:=XH N T hT hN b hb (by omega)
 have hs:=p1.size
 obtain ⟨T',r,f,p,n⟩:=oK N T1 p1.good a c b (p1.ext.rf ha) p1.rf (p1.ext.rf hb) (Ej T1 p1.good N (by rw [p1.ext.n]; exact hN) _ _ _ (p1.ext.rf ha) p1.rf (p1.ext.rf hb)) (by omega)
 refine ⟨T',r,?_,⟨p.good,p1.ext.trans p.ext,p.rf,fun s=>by rw [p.val s,p1.val s,p1.ext.ev ha,p1.ext.ev hb]; cases ev T.nodes s a <;> cases ev T.nodes s b <;> rfl,by omega⟩⟩
 refine aA.intro lay mixed Tryz.func53 (by kernel_rfl) rfl (by kernel_rfl) rfl fun hok=>?_
 (try dsimp only[aZ,aN]);(try dsimp only[aj]);conv=>whnf
 refine .gen _ _ f1 fun _=>?_
 (try dsimp only[aj]);conv=>whnf
 refine .gen _ _ f fun _=>?_
 (try dsimp only[aj]);conv=>whnf
 refine ⟨⟨_,_,.refl _ _,?_⟩⟩
 conv=>whnf
 refine ⟨?_,rfl,by simp [nextId],.mk ?_ (by simp [ay])⟩
 ·all_goals exact wk
 ·repeat' first|exact rfl|exact trivial|exact wR|exact lR _|apply aI
  all_goals first | exact aJ _ | exact aF _ _ | (simp; done) | skip

theorem c_join (f : Nat) (refs : List Int) (g : Nat -> Tb × Int) (hg : ∀ k,k < refs.length -> aA Tryz.prog f [.ptr 0 [] 0,.int .i64 (g k).2,.int .i64 (refs.getD k 0)] (iH (g k).1) (.int .i64 (g (k + 1)).2) (iH (g (k + 1)).1)) :
  aA Tryz.prog 226 [iL refs,.int .i64 (g 0).2,.bm f 0] (iH (g 0).1) (.int .i64 (g refs.length).2) (iH (g refs.length).1):=by
 refine aA.intro lay mixed Tryz.func226 (by kernel_rfl) rfl (by kernel_rfl) rfl fun hok=>?_
 have hl : refs.length <= 9223372036854775807:=by have:=hok.1.1; simpa [maxL] using this
 (try dsimp only[aZ,aN]);(try dsimp only[aj]);conv=>whnf
 refine aK.of <| (aC.inv (.refl _ _) (fun k : Nat=>k <= refs.length) (fun k=>[(11,.int .i64 k),(1,.int .i64 (g k).2)]) (fun k=>iH (g k).1) (fun k=>refs.length - k) 0 (Nat.zero_le _) ?_ ?_ ?_)
 ·exact fun _=>rfl
 ·refine ⟨?_,.mk ?_ (by simp [ay])⟩
  ·all_goals exact wk
  ·repeat' first|exact rfl|exact trivial|exact wR|exact lR _|apply aI
   all_goals first | exact aJ _ | exact aF _ _ | skip
 intro k hk _
 (try dsimp only[aj]);conv=>whnf
 refine And.intro (fun h=>?_) (fun h=>?_)
 ·have hlt : k < refs.length:=by simpa using h
  have q:=hg k hlt
  rw [List.getD_eq_getElem?_getD,List.getElem?_eq_getElem hlt] at q
  (try dsimp only[aj]);conv=>whnf
  refine jq hlt ?_
  (try dsimp only[aj]);conv=>whnf
  refine .gen _ _ q fun _=>?_
  (try dsimp only[aj]);conv=>whnf
  refine zA ?_;conv=>whnf
  refine ⟨k + 1,?_,?_,?_⟩
  ·exact hlt
  ·refine ⟨?_,.mk ?_ (by simp [ay])⟩
   ·all_goals exact wk
   ·repeat' first|exact rfl|exact trivial|exact wR|exact lR _|apply aI
    all_goals first | exact aJ _ | exact aF _ _ | skip
  ·omega
 ·have hk : k = refs.length:=by (have : ¬ k < refs.length:=by simpa using h); omega
  subst hk
  (try dsimp only[aj]);conv=>whnf
  refine ⟨⟨_,_,.refl _ _,?_⟩⟩
  conv=>whnf
  refine ⟨?_,rfl,by simp [nextId],.mk ?_ (by simp [ay])⟩
  ·all_goals exact wk
  ·repeat' first|exact rfl|exact trivial|exact wR|exact lR _|apply aI
   all_goals first | exact aJ _ | exact aF _ _ | (simp; done) | skip

theorem Kt (N : Nat) (F : Nat) (op : Bool -> Bool -> Bool)
  (hop : ∀ (T : Tb),bJ T -> T.n <= N -> ∀ (a b : Int),T.Rf a -> T.Rf b -> T.nodes.length + 2 * 2 ^ N <= 1000000000 -> ∃ T' r,aA Tryz.prog F [.ptr 0 [] 0,.int .i64 a,.int .i64 b] (iH T) (.int .i64 r) (iH T') /\ Yy T T' r (fun s=>op (ev T.nodes s a) (ev T.nodes s b)) (2 * 2 ^ N))
  (T : Tb) (hT : bJ T) (hN : T.n <= N) (refs : List Int) (hr : ∀ r ∈ refs,T.Rf r) (first : Int) (hf : T.Rf first) (hS : T.nodes.length + (refs.length + 1) * (2 * 2 ^ N) <= 1000000000) :
  ∃ T' r,aA Tryz.prog 226 [iL refs,.int .i64 first,.bm F 0] (iH T) (.int .i64 r) (iH T') /\ Yy T T' r (fun s=>(refs.map (ev T.nodes s)).foldl op (ev T.nodes s first)) (refs.length * (2 * 2 ^ N)):=by
 generalize hZ : 2 * 2 ^ N = Z at *
 obtain ⟨g,g0,g1,g2⟩:=o9 (fun k (q : Tb × Int)=>Yy T q.1 q.2 (fun s=>((refs.take k).map (ev T.nodes s)).foldl op (ev T.nodes s first)) (k * Z))
  (fun k q q'=>aA Tryz.prog F [.ptr 0 [] 0,.int .i64 q.2,.int .i64 (refs.getD k 0)] (iH q.1) (.int .i64 q'.2) (iH q'.1)) refs.length (T,first)
  ⟨hT,.refl _,hf,fun s=>rfl,by simp⟩ (fun k q hk h=>by
   have hrk : T.Rf refs[k]:=hr _ (List.getElem_mem hk)
   have hsz:=h.size
   have hle : (k + 1) * Z <= (refs.length + 1) * Z:=Nat.mul_le_mul_right _ (by omega)
   have e : (k + 1) * Z = k * Z + Z:=by rw [Nat.add_mul,Nat.one_mul]
   obtain ⟨T',r,f,p⟩:=hop q.1 h.good (by rw [h.ext.n]; exact hN) q.2 refs[k] h.rf (h.ext.rf hrk) (by omega)
   have hps:=p.size
   refine ⟨(T',r),⟨p.good,h.ext.trans p.ext,p.rf,fun s=>?_,by show T'.nodes.length <= _; omega⟩,?_⟩
   ·show ev T'.nodes s r = _
    rw [p.val s,h.val s,h.ext.ev hrk,List.take_succ_eq_append_getElem hk,List.map_append,List.foldl_append]; rfl
   ·rw [List.getD_eq_getElem?_getD,List.getElem?_eq_getElem hk]; exact f)
 have l:=g1 refs.length (Nat.le_refl _)
 have q:=c_join F refs g g2
 rw [g0] at q
 refine ⟨(g refs.length).1,(g refs.length).2,q,⟨l.good,l.ext,l.rf,fun s=>?_,l.size⟩⟩
 have:=l.val s
 rw [List.take_length] at this
 exact this

structure VoS where
 T : Tb
 need : List Int

def cB (T : Tb) (t : Int -> Bool) (l : List Int) : Nat:=l.countP fun r=>ev T.nodes t r

structure VoI (T : Tb) (refs : List Int) (K Z m i : Nat) (s : VoS) : Prop where
 good : bJ s.T
 ext : Xt T s.T
 len : s.need.length = K + 1
 all : ∀ j,j <= K -> s.T.Rf (s.need.getD j 0) /\ ∀ t,ev s.T.nodes t (s.need.getD j 0) = decide (j <= cB T t (refs.take (if K - i < j then m + 1 else m)))
 size : s.T.nodes.length <= T.nodes.length + (m * K + i) * Z

def VoR (refs : List Int) (K m i : Nat) (s s' : VoS) : Prop :=
 ∃ x,aA Tryz.prog 133 [.ptr 0 [] 0,.int .i64 (refs.getD m 0),.int .i64 (s.need.getD (K - (i + 1)) 0),.int .i64 (s.need.getD (K - i) 0)] (iH s.T) (.int .i64 x) (iH s'.T) /\ s'.need = s.need.set (K - i) x

theorem jv {l : List Int} {i j : Nat} {x : Int} (hi : i < l.length) : (l.set i x).getD j 0 = if j = i then x else l.getD j 0:=by
 rw [List.getD_eq_getElem?_getD,List.getElem?_set]
 by_cases h : i = j
 ·subst h
  rw [if_pos rfl,if_pos hi,if_pos rfl]; rfl
 ·rw [if_neg h,if_neg (fun e=>h e.symm),List.getD_eq_getElem?_getD]

theorem YP (N : Nat) (T : Tb) (hN : T.n <= N) (refs : List Int) (hr : ∀ r ∈ refs,T.Rf r) (K m i : Nat) (hm : m < refs.length) (hi : i < K) (hS : T.nodes.length + refs.length * K * 2 ^ N <= 1000000000) (s : VoS) (h : VoI T refs K (2 ^ N) m i s) :
  ∃ s',VoI T refs K (2 ^ N) m (i + 1) s' /\ VoR refs K m i s s':=by
 have hrm : T.Rf refs[m]:=hr _ (List.getElem_mem hm)
 have em : refs.getD m 0 = refs[m]:=by rw [List.getD_eq_getElem?_getD,List.getElem?_eq_getElem hm]; rfl
 obtain ⟨a1,a2⟩:=h.all (K - (i + 1)) (by omega)
 obtain ⟨b1,b2⟩:=h.all (K - i) (by omega)
 have hsz:=h.size
 have hb : (m * K + (i + 1)) * 2 ^ N <= refs.length * K * 2 ^ N:=by
  refine Nat.mul_le_mul_right _ ?_
  have : (m + 1) * K <= refs.length * K:=Nat.mul_le_mul_right _ (by omega)
  rw [Nat.add_mul,Nat.one_mul] at this
  omega
 have he : (m * K + (i + 1)) * 2 ^ N = (m * K + i) * 2 ^ N + 2 ^ N:=by rw [<- Nat.add_assoc,Nat.add_mul (m * K + i),Nat.one_mul]
 have hlen:=h.len
 obtain ⟨T',x,f,p,n⟩:=oK N s.T h.good refs[m] (s.need.getD (K - (i + 1)) 0) (s.need.getD (K - i) 0) (h.ext.rf hrm) a1 b1 (Ej s.T h.good N (by rw [h.ext.n]; exact hN) _ _ _ (h.ext.rf hrm) a1 b1) (by omega)
 refine ⟨⟨T',s.need.set (K - i) x⟩,⟨p.good,h.ext.trans p.ext,by show (s.need.set (K - i) x).length = _; rw [List.length_set]; exact hlen,fun j hj=>?_,by show T'.nodes.length <= _; omega⟩,x,by rw [em]; exact f,rfl⟩
 show T'.Rf ((s.need.set (K - i) x).getD j 0) /\ ∀ t,ev T'.nodes t ((s.need.set (K - i) x).getD j 0) = _
 rw [jv (by omega)]
 by_cases hji : j = K - i
 ·rw [if_pos hji]
  refine ⟨p.rf,fun t=>?_⟩
  have c1 : (if K - i < K - (i + 1) then m + 1 else m) = m:=if_neg (by omega)
  have c2 : (if K - i < K - i then m + 1 else m) = m:=if_neg (by omega)
  have c3 : (if K - (i + 1) < j then m + 1 else m) = m + 1:=if_pos (by omega)
  rw [p.val t,h.ext.ev hrm,a2 t,b2 t,c1,c2,c3,List.take_succ_eq_append_getElem hm]
  unfold cB
  rw [List.countP_append,List.countP_singleton]
  subst hji
  generalize List.countP (fun r=>ev T.nodes t r) (List.take m refs) = c
  cases ev T.nodes t refs[m] with
  | true=>simp only [if_true]; exact decide_eq_decide.2 (by omega)
  | false=>simp
 ·rw [if_neg hji]
  obtain ⟨c1,c2⟩:=h.all j hj
  refine ⟨p.ext.rf c1,fun t=>?_⟩
  rw [p.ext.ev c1,c2 t]
  by_cases hlt : K - i < j
  ·rw [if_pos hlt,if_pos (by omega)]
  ·rw [if_neg hlt,if_neg (by omega)]

theorem c_vote (N : Nat) (T : Tb) (hT : bJ T) (hN : T.n <= N) (refs : List Int) (hr : ∀ r ∈ refs,T.Rf r) (K : Nat) (hK : K <= 1000) (hS : T.nodes.length + refs.length * K * 2 ^ N <= 1000000000) :
  ∃ T' r,aA Tryz.prog 228 [.ptr 0 [] 0,iL refs,.int .i64 K] (iH T) (.int .i64 r) (iH T') /\ Yy T T' r (fun s=>decide (K <= cB T s refs)) (refs.length * K * 2 ^ N):=by
 obtain ⟨g,g0,g1,g2⟩:=o9 (fun m s=>VoI T refs K (2 ^ N) m 0 s) (fun m s s'=>∃ h : Nat -> VoS,h 0 = s /\ h K = s' /\ (∀ i,i <= K -> VoI T refs K (2 ^ N) m i (h i)) /\ ∀ i,i < K -> VoR refs K m i (h i) (h (i + 1))) refs.length ⟨T,1 :: List.replicate K 0⟩
  (by
   refine ⟨hT,.refl _,by simp,fun j hj=>?_,by simp⟩
   cases j with
   | zero=>exact ⟨.one T,fun t=>by simp [yD]⟩
   | succ j =>
     have e : (1 :: List.replicate K 0).getD (j + 1) 0 = (0 : Int):=by
      simp [List.getD_eq_getElem?_getD,List.getElem?_replicate]
      split <;> rfl
     show T.Rf ((1 :: List.replicate K 0).getD (j + 1) 0) /\ _
     rw [e]
     exact ⟨.zero T,fun t=>by rw [if_neg (by omega)]; simp [cB,nZ]⟩)
  (fun m s hm h=>by
   obtain ⟨f,f0,f1,f2⟩:=o9 (fun i s=>VoI T refs K (2 ^ N) m i s) (fun i s s'=>VoR refs K m i s s') K s h (fun i s hi h=>YP N T hN refs hr K m i hm hi hS s h)
   have l:=f1 K (Nat.le_refl _)
   refine ⟨f K,⟨l.good,l.ext,l.len,fun j hj=>?_,?_⟩,f,f0,rfl,f1,f2⟩
   ·obtain ⟨a,b⟩:=l.all j hj
    refine ⟨a,fun t=>?_⟩
    rw [b t]
    cases j with
    | zero=>simp
    | succ j =>
      have c1 : (if K - K < j + 1 then m + 1 else m) = m + 1:=if_pos (by omega)
      have c2 : (if K - 0 < j + 1 then m + 1 + 1 else m + 1) = m + 1:=if_neg (by omega)
      rw [c1,c2]
   ·have:=l.size
    rw [Nat.add_zero,Nat.add_mul m 1 K,Nat.one_mul]
    exact this)
 have l:=g1 refs.length (Nat.le_refl _)
 obtain ⟨r1,r2⟩:=l.all K (Nat.le_refl _)
 refine ⟨(g refs.length).T,(g refs.length).need.getD K 0,?_,⟨l.good,l.ext,r1,fun s=>?_,by have:=l.size; rwa [Nat.add_zero] at this⟩⟩
 ·have hll:=l.len
  refine aA.intro lay mixed Tryz.func228 (by kernel_rfl) rfl (by kernel_rfl) rfl fun hok=>?_
  have hrl : refs.length <= 9223372036854775807:=by have:=hok.2.1.1; simpa [maxL] using this
  (try dsimp only[aZ,aN]);(try dsimp only[aj]);conv=>whnf
  rw [show (K : Int) + 1 = ((K + 1 : Nat) : Int) by omega]
  refine ⟨bC (by omega) (by omega),?_⟩
  (try dsimp only[aj]);conv=>whnf
  refine ⟨⟨by omega,Int.le_refl _,by show ((K + 1 : Nat) : Int) * ((8 : Nat) : Int) <= 281474976710656; omega,by omega⟩,.wr ?_⟩
  rw [Int.toNat_natCast]
  (try dsimp only[aj]);conv=>whnf
  refine ⟨⟨by omega,by omega⟩,?_⟩
  (try dsimp only[aj]);conv=>whnf
  refine ⟨by simp,rfl,?_⟩
  (try dsimp only[aj]);conv=>whnf
  rw [show (List.replicate (K + 1) (AV.int IntKind.i64 0)).set (0 + Int.toNat 0) (strip (AV.int IntKind.i64 1)) = (g 0).need.map (.int .i64) from by
   rw [g0]
   simp [List.replicate_succ,strip]]
  refine aK.of <| (aC.inv (.refl _ _) (fun m : Nat=>m <= refs.length) (fun m=>[(18,.int .i64 m)]) (fun m=>(5,.arr 1 (K + 1) ((g m).need.map (.int .i64))) :: iH (g m).T) (fun m=>refs.length - m) 0 (Nat.zero_le _) ?_ ?_ ?_)
  ·exact fun _=>rfl
  ·have hT0 : T = (g 0).T:=by rw [g0]
   refine ⟨?_,.mk ?_ (by simp [ay])⟩
   ·all_goals exact wk
   ·rw [<- hT0]
    repeat' first|exact rfl|exact trivial|exact wR|exact lR _|apply aI
    all_goals first | exact aJ _ | exact aF _ _ | skip
  intro m hm _
  (try dsimp only[aj]);conv=>whnf
  refine And.intro (fun h=>?_) (fun h=>?_)
  ·have hlt : m < refs.length:=by simpa using h
   obtain ⟨f,f0,fK,f1,f2⟩:=g2 m hlt
   have em : refs.getD m 0 = refs[m]:=by rw [List.getD_eq_getElem?_getD,List.getElem?_eq_getElem hlt]; rfl
   (try dsimp only[aj]);conv=>whnf
   refine jq hlt ?_
   (try dsimp only[aj]);conv=>whnf
   refine aK.of <| (aC.inv (.refl _ _) (fun i : Nat=>i <= K) (fun i=>[(10,.int .i64 ((K - i : Nat) : Int))]) (fun i=>(5,.arr 1 (K + 1) ((f i).need.map (.int .i64))) :: iH (f i).T) (fun i=>K - i) 0 (Nat.zero_le _) ?_ ?_ ?_)
   ·exact fun _=>rfl
   ·rw [<- f0]
    refine ⟨?_,.mk ?_ (by simp [ay])⟩
    ·all_goals exact wk
    ·repeat' first|exact rfl|exact trivial|exact wR|exact lR _|apply aI
     all_goals first | exact aJ _ | exact aF _ _ | skip
   intro i hi _
   have lf:=(f1 i hi).len
   (try dsimp only[aj]);conv=>whnf
   refine And.intro (fun h=>?_) (fun h=>?_)
   ·have hilt : i < K:=by omega
    obtain ⟨x,q1,q2⟩:=f2 i hilt
    rw [em] at q1
    (try dsimp only[aj]);conv=>whnf
    refine aS.mk ⟨[true,true,true,true,true,true,true,true,false,true,true,true,false,false,true,false],by kernel_rfl,?_⟩
    conv=>whnf
    refine ⟨bC (by omega) (by omega),?_⟩
    conv=>whnf
    rw [show ((K - i : Nat) : Int) - 1 = ((K - (i + 1) : Nat) : Int) by omega]
    refine ⟨⟨by omega,by omega⟩,?_⟩
    conv=>whnf
    rw [Nat.zero_add]
    refine dQ 0 ⟨by omega,by omega⟩ ?_
    conv=>whnf
    refine ⟨rfl,?_⟩
    conv=>whnf
    refine ⟨⟨by omega,by omega⟩,?_⟩
    conv=>whnf
    rw [Nat.zero_add]
    refine dQ 0 ⟨by omega,by omega⟩ ?_
    conv=>whnf
    refine ⟨rfl,?_⟩
    conv=>whnf
    rw [Int.toNat_natCast,Int.toNat_natCast,Int.toNat_natCast,Int.toNat_natCast]
    refine .gen _ _ (xM [(5,_)] (by simp) q1 (fun _=>rfl) (fun _=>rfl) rfl) fun _=>?_
    conv=>whnf
    refine ⟨⟨by omega,by omega⟩,?_⟩
    conv=>whnf
    refine ⟨by rw [List.length_map]; omega,rfl,?_⟩
    (try dsimp only[aj]);conv=>whnf
    refine ⟨bC (by omega) (by omega),?_⟩
    (try dsimp only[aj]);conv=>whnf
    refine ⟨i + 1,?_,?_,?_⟩
    ·exact hilt
    ·rw [q2]
     refine ⟨?_,.mk ?_ (by simp [ay])⟩
     ·repeat' first|exact rfl|exact trivial|exact wR|exact lR _|apply aI
      all_goals (show (_ : Int) = _; omega)
     ·repeat' first|exact rfl|exact trivial|exact wR|exact lR _|apply aI
      all_goals first | exact aJ _ | exact aF _ _ | (refine aY ?_; rw [List.map_set]; congr 1; omega) | skip
    ·omega
   ·have hiK : i = K:=by omega
    subst hiK
    (try dsimp only[aj]);conv=>whnf
    refine zA ?_;conv=>whnf
    rw [fK]
    refine ⟨m + 1,?_,?_,?_⟩
    ·exact hlt
    ·refine ⟨?_,.mk ?_ (by simp [ay])⟩
     ·all_goals exact wk
     ·repeat' first|exact rfl|exact trivial|exact wR|exact lR _|apply aI
      all_goals first | exact aJ _ | exact aF _ _ | skip
    ·omega
  ·have hk : m = refs.length:=by (have : ¬ m < refs.length:=by simpa using h); omega
   subst hk
   (try dsimp only[aj]);conv=>whnf
   refine ⟨⟨by omega,by omega⟩,?_⟩
   (try dsimp only[aj]);conv=>whnf
   rw [Nat.zero_add]
   refine dQ 0 ⟨by omega,by omega⟩ ?_
   (try dsimp only[aj]);conv=>whnf
   refine ⟨rfl,?_⟩
   (try dsimp only[aj]);conv=>whnf
   rw [Int.toNat_natCast,Int.toNat_natCast]
   refine ⟨⟨_,_,.refl _ _,?_⟩⟩
   conv=>whnf
   refine ⟨?_,rfl,by simp [nextId],.mk ?_ (by simp [ay])⟩
   ·all_goals exact wk
   ·repeat' first|exact rfl|exact trivial|exact wR|exact lR _|apply aI
    all_goals first | exact aJ _ | exact aF _ _ | (simp; done) | skip
 ·have:=r2 s
  rw [if_neg (by omega),List.take_length] at this
  exact this

theorem Xk (l : List Bool) (b : Bool) : l.foldl (fun a c=>a && c) b = (b && l.all id):=by
 induction l generalizing b with
 | nil=>simp
 | cons x l ih=>rw [List.foldl_cons,ih]; simp [Bool.and_assoc]
theorem Zt (l : List Bool) (b : Bool) : l.foldl (fun a c=>a || c) b = (b || l.any id):=by
 induction l generalizing b with
 | nil=>simp
 | cons x l ih=>rw [List.foldl_cons,ih]; simp [Bool.or_assoc]
theorem Xj (l : List Bool) (b : Bool) : l.foldl (fun a c=>a ^^ c) b = (b ^^ decide (l.countP id % 2 = 1)):=by
 induction l generalizing b with
 | nil=>simp
 | cons x l ih =>
   rw [List.foldl_cons,ih,List.countP_cons]
   have h : (List.countP id l) % 2 = 0 \/ (List.countP id l) % 2 = 1:=by omega
   rcases h with h | h <;> cases x <;> cases b <;> simp [h,Nat.add_mod]

theorem U5 (l : List Bool) : l.all id = decide (l.countP id = l.length):=by
 rw [Bool.eq_iff_iff]
 simp [List.countP_eq_length]
theorem U1 (l : List Bool) : l.any id = decide (0 < l.countP id):=by
 rw [Bool.eq_iff_iff]
 simp [List.countP_pos_iff]

theorem Qo (T : Tb) (s : Int -> Bool) (refs : List Int) : (refs.map (ev T.nodes s)).countP id = cB T s refs:=by
 unfold cB; rw [List.countP_map]; rfl

theorem Z9 (N : Nat) (T : Tb) (hT : bJ T) (hN : T.n <= N) (v : Int) (i : Nat) (x : Nd) (hx : Hl v i x) (refs : List Int) (hl : refs.length = x.args.length) (hr : ∀ r ∈ refs,T.Rf r) (hS : T.nodes.length + 600 * 2 ^ N <= 1000000000) :
  ∃ T' r,aA Tryz.prog 130 [.ptr 0 [] 0,x.av,iL refs] (iH T) (.int .i64 r) (iH T') /\ Yy T T' r (fun s=>qA x (cB T s refs)) (600 * 2 ^ N):=by
 obtain ⟨kind,k,args⟩:=x
 obtain ⟨hk,hn,_,hkk⟩:=hx
 dsimp only at hk hn hkk hl
 have hl16 : refs.length <= 16:=by
  rw [hl]; split at hn
  ·omega
  ·split at hn <;> omega
 have hp : 0 < 2 ^ N:=Nat.pow_pos (by decide)
 have weak : ∀ {T' : Tb} {r : Int} {f : (Int -> Bool) -> Bool} {z : Nat},z <= 600 * 2 ^ N -> Yy T T' r f z -> (∀ s,f s = qA ⟨kind,k,args⟩ (cB T s refs)) -> Yy T T' r (fun s=>qA ⟨kind,k,args⟩ (cB T s refs)) (600 * 2 ^ N) :=
  fun hz p hf=>⟨p.good,p.ext,p.rf,fun s=>by rw [p.val s]; exact hf s,Nat.le_trans p.size (by omega)⟩
 have hm : refs.length * (2 * 2 ^ N) <= 32 * 2 ^ N:=by
  rw [<- Nat.mul_assoc]; exact Nat.mul_le_mul_right _ (by omega)
 have hS1 : T.nodes.length + (refs.length + 1) * (2 * 2 ^ N) <= 1000000000:=by
  rw [Nat.add_mul,Nat.one_mul]; omega
 rcases (by omega : kind = 0 \/ kind = 1 \/ kind = 2 \/ kind = 3 \/ kind = 4 \/ kind = 5) with rfl | rfl | rfl | rfl | rfl | rfl
 ·-- a constant
  have hkk : k = 0 \/ k = 1:=by simpa using hkk
  have rfk : T.Rf k:=by
   rcases hkk with h | h
   ·rw [h]; exact .zero T
   ·rw [h]; exact .one T
  refine ⟨T,k,?_,⟨hT,.refl _,rfk,fun s=>by rcases hkk with rfl | rfl <;> rfl,by omega⟩⟩
  refine aA.intro lay mixed Tryz.func130 (by kernel_rfl) rfl (by kernel_rfl) rfl fun hok=>?_
  (try dsimp only[aZ,aN]);(try dsimp only[aj]);conv=>whnf
  refine And.intro (fun _=>?_) (fun h=>absurd rfl h)
  (try dsimp only[aj]);conv=>whnf
  refine ⟨⟨_,_,.refl _ _,?_⟩⟩
  conv=>whnf
  refine ⟨?_,rfl,by simp [nextId],.mk ?_ (by simp [ay])⟩
  ·all_goals exact wk
  ·repeat' first|exact rfl|exact trivial|exact wR|exact lR _|apply aI
   all_goals first | exact aJ _ | exact aF _ _ | (simp; done) | skip
 ·have hn : args.length = 1:=by simpa using hn
  obtain ⟨a,rfl⟩ : ∃ a,refs = [a]:=List.length_eq_one_iff.1 (by omega)
  obtain ⟨T',r,f,p⟩:=XH N T hT hN a (hr a (by simp)) (by omega)
  refine ⟨T',r,?_,weak (by omega) p fun s=>by simp [qA,cB]⟩
  refine aA.intro lay mixed Tryz.func130 (by kernel_rfl) rfl (by kernel_rfl) rfl fun hok=>?_
  (try dsimp only[aZ,aN]);(try dsimp only[aj]);conv=>whnf
  refine And.intro (fun h=>absurd h (by simp)) (fun _=>?_)
  (try dsimp only[aj]);conv=>whnf
  refine And.intro (fun _=>?_) (fun h=>absurd rfl h)
  (try dsimp only[aj]);conv=>whnf
  refine bZ.mk ⟨_,⟨by decide,rfl⟩,?_⟩
  (try dsimp only[aj]);conv=>whnf
  refine .gen _ _ (xM [(5,_)] (by simp) f (fun _=>rfl) (fun _=>rfl) rfl) fun _=>?_
  (try dsimp only[aj]);conv=>whnf
  refine ⟨⟨_,_,.refl _ _,?_⟩⟩
  conv=>whnf
  refine ⟨?_,rfl,by simp [nextId],.mk ?_ (by simp [ay])⟩
  ·all_goals exact wk
  ·repeat' first|exact rfl|exact trivial|exact wR|exact lR _|apply aI
   all_goals first | exact aJ _ | exact aF _ _ | (simp; done) | skip
 ·obtain ⟨T',r,f,p⟩:=Kt N 57 (fun a b=>a && b) (fun T hT hN a b ha hb hS=>Qe N T hT hN a b ha hb hS) T hT hN refs hr 1 (.one T) hS1
  refine ⟨T',r,?_,weak (by omega) p fun s=>by rw [Xk,yD,Bool.true_and,U5,Qo,List.length_map,hl]; simp [qA]⟩
  refine aA.intro lay mixed Tryz.func130 (by kernel_rfl) rfl (by kernel_rfl) rfl fun hok=>?_
  (try dsimp only[aZ,aN]);(try dsimp only[aj]);conv=>whnf
  refine And.intro (fun h=>absurd h (by simp)) (fun _=>?_)
  (try dsimp only[aj]);conv=>whnf
  refine And.intro (fun h=>absurd h (by simp)) (fun _=>?_)
  (try dsimp only[aj]);conv=>whnf
  refine And.intro (fun _=>?_) (fun h=>absurd rfl h)
  (try dsimp only[aj]);conv=>whnf
  refine .gen _ _ (xM [(5,_)] (by simp) f (fun _=>rfl) (fun _=>rfl) rfl) fun _=>?_
  (try dsimp only[aj]);conv=>whnf
  refine ⟨⟨_,_,.refl _ _,?_⟩⟩
  conv=>whnf
  refine ⟨?_,rfl,by simp [nextId],.mk ?_ (by simp [ay])⟩
  ·all_goals exact wk
  ·repeat' first|exact rfl|exact trivial|exact wR|exact lR _|apply aI
   all_goals first | exact aJ _ | exact aF _ _ | (simp; done) | skip
 ·obtain ⟨T',r,f,p⟩:=Kt N 227 (fun a b=>a || b) (fun T hT hN a b ha hb hS=>c_tOr N T hT hN a b ha hb hS) T hT hN refs hr 0 (.zero T) hS1
  refine ⟨T',r,?_,weak (by omega) p fun s=>by rw [Zt,nZ,Bool.false_or,U1,Qo]; simp [qA]⟩
  refine aA.intro lay mixed Tryz.func130 (by kernel_rfl) rfl (by kernel_rfl) rfl fun hok=>?_
  (try dsimp only[aZ,aN]);(try dsimp only[aj]);conv=>whnf
  refine And.intro (fun h=>absurd h (by simp)) (fun _=>?_)
  (try dsimp only[aj]);conv=>whnf
  refine And.intro (fun h=>absurd h (by simp)) (fun _=>?_)
  (try dsimp only[aj]);conv=>whnf
  refine And.intro (fun h=>absurd h (by simp)) (fun _=>?_)
  (try dsimp only[aj]);conv=>whnf
  refine And.intro (fun _=>?_) (fun h=>absurd rfl h)
  (try dsimp only[aj]);conv=>whnf
  refine .gen _ _ (xM [(5,_)] (by simp) f (fun _=>rfl) (fun _=>rfl) rfl) fun _=>?_
  (try dsimp only[aj]);conv=>whnf
  refine ⟨⟨_,_,.refl _ _,?_⟩⟩
  conv=>whnf
  refine ⟨?_,rfl,by simp [nextId],.mk ?_ (by simp [ay])⟩
  ·all_goals exact wk
  ·repeat' first|exact rfl|exact trivial|exact wR|exact lR _|apply aI
   all_goals first | exact aJ _ | exact aF _ _ | (simp; done) | skip
 ·have hkk : 1 <= k /\ k <= args.length:=by simpa using hkk
  obtain ⟨K,rfl⟩ : ∃ K : Nat,k = (K : Int):=⟨k.toNat,by omega⟩
  have hmk : refs.length * K * 2 ^ N <= 256 * 2 ^ N:=Nat.mul_le_mul_right _ (by
   have : refs.length * K <= 16 * 16:=Nat.mul_le_mul (by omega) (by omega)
   omega)
  obtain ⟨T',r,f,p⟩:=c_vote N T hT hN refs hr K (by omega) (by omega)
  refine ⟨T',r,?_,weak (by omega) p fun s=>by simp [qA]⟩
  refine aA.intro lay mixed Tryz.func130 (by kernel_rfl) rfl (by kernel_rfl) rfl fun hok=>?_
  (try dsimp only[aZ,aN]);(try dsimp only[aj]);conv=>whnf
  refine And.intro (fun h=>absurd h (by simp)) (fun _=>?_)
  (try dsimp only[aj]);conv=>whnf
  refine And.intro (fun h=>absurd h (by simp)) (fun _=>?_)
  (try dsimp only[aj]);conv=>whnf
  refine And.intro (fun h=>absurd h (by simp)) (fun _=>?_)
  (try dsimp only[aj]);conv=>whnf
  refine And.intro (fun h=>absurd h (by simp)) (fun _=>?_)
  (try dsimp only[aj]);conv=>whnf
  refine And.intro (fun h=>absurd h (by simp)) (fun _=>?_)
  (try dsimp only[aj]);conv=>whnf
  refine .gen _ _ (xM [(5,_)] (by simp) f (fun _=>rfl) (fun _=>rfl) rfl) fun _=>?_
  (try dsimp only[aj]);conv=>whnf
  refine ⟨⟨_,_,.refl _ _,?_⟩⟩
  conv=>whnf
  refine ⟨?_,rfl,by simp [nextId],.mk ?_ (by simp [ay])⟩
  ·all_goals exact wk
  ·repeat' first|exact rfl|exact trivial|exact wR|exact lR _|apply aI
   all_goals first | exact aJ _ | exact aF _ _ | (simp; done) | skip
 ·obtain ⟨T',r,f,p⟩:=Kt N 53 (fun a b=>a ^^ b) (fun T hT hN a b ha hb hS=>XG N T hT hN a b ha hb hS) T hT hN refs hr 0 (.zero T) hS1
  refine ⟨T',r,?_,weak (by omega) p fun s=>by rw [Xj,nZ,Bool.false_xor,Qo]; simp [qA]⟩
  refine aA.intro lay mixed Tryz.func130 (by kernel_rfl) rfl (by kernel_rfl) rfl fun hok=>?_
  (try dsimp only[aZ,aN]);(try dsimp only[aj]);conv=>whnf
  refine And.intro (fun h=>absurd h (by simp)) (fun _=>?_)
  (try dsimp only[aj]);conv=>whnf
  refine And.intro (fun h=>absurd h (by simp)) (fun _=>?_)
  (try dsimp only[aj]);conv=>whnf
  refine And.intro (fun h=>absurd h (by simp)) (fun _=>?_)
  (try dsimp only[aj]);conv=>whnf
  refine And.intro (fun h=>absurd h (by simp)) (fun _=>?_)
  (try dsimp only[aj]);conv=>whnf
  refine And.intro (fun _=>?_) (fun h=>absurd rfl h)
  (try dsimp only[aj]);conv=>whnf
  refine .gen _ _ (xM [(5,_)] (by simp) f (fun _=>rfl) (fun _=>rfl) rfl) fun _=>?_
  (try dsimp only[aj]);conv=>whnf
  refine ⟨⟨_,_,.refl _ _,?_⟩⟩
  conv=>whnf
  refine ⟨?_,rfl,by simp [nextId],.mk ?_ (by simp [ay])⟩
  ·all_goals exact wk
  ·repeat' first|exact rfl|exact trivial|exact wR|exact lR _|apply aI
   all_goals first | exact aJ _ | exact aF _ _ | (simp; done) | skip


end S

open Go Go.AL Go.Proofs
namespace Go.AL
section
variable {P : Program} {ops : Array Oper} {Q : Exit -> Act -> World -> Prop} {a : Act} {w : World} {o : Oper} {l : List Oper}

structure Ext (w w' : World) : Prop where
 size : w.heap.size <= w'.heap.size
 old : ∀ b,b < w.heap.size -> w'.heap[b]? = w.heap[b]?
 os : w'.os = w.os
 tape : w'.tape = w.tape
 output : w'.output = w.output

end
end Go.AL

namespace S
set_option maxRecDepth 100000

def exEv : Array Value:=#[.string ⟨#[97]⟩,.bool false,.slice none 0 0,.slice none 0 0,.bool false,.slice none 0 0,.slice none 0 0,.bool false,.slice none 0 0,.slice none 0 0,.int .i64 0,.string ⟨#[98]⟩,.bool false,.slice none 0 0,.slice none 0 0,.bool false,.slice none 0 0,.slice none 0 0,.bool false,.slice none 0 0,.slice none 0 0,.int .i64 0,.string ⟨#[99]⟩,.bool false,.slice none 0 0,.slice none 0 0,.bool false,.slice none 0 0,.slice none 0 0,.bool false,.slice none 0 0,.slice none 0 0,.int .i64 0]
def exI0 : Array Value:=#[.string ⟨#[97]⟩,.string ⟨#[64,112]⟩]
def exG0 (n : Nat) : Array Value:=#[.string ⟨#[103]⟩,.int .i64 0,.int .i64 0,.slice (some ⟨n,0,none⟩) 2 2,.bool false,.slice none 0 0,.slice none 0 0]
def exI1 : Array Value:=#[.string ⟨#[98]⟩,.string ⟨#[99]⟩]
def exG1 (n : Nat) : Array Value:=#[.string ⟨#[104]⟩,.int .i64 1,.int .i64 0,.slice (some ⟨n,0,none⟩) 2 2,.bool false,.slice none 0 0,.slice none 0 0]
def exP (n : Nat) : Array Value:=#[.string ⟨#[112]⟩,.string ⟨#[104]⟩,.slice (some ⟨n,0,none⟩) 1 1]
structure ExW (w w' : World) : Prop where
 ext : Ext w w'
 size : w'.heap.size = w.heap.size + 7
 ev : w'.heap[w.heap.size + 1]? = some (.cells exEv 142)
 i0 : w'.heap[w.heap.size + 2]? = some (.cells exI0 9)
 g0 : w'.heap[w.heap.size + 3]? = some (.cells (exG0 (w.heap.size + 2)) 163)
 i1 : w'.heap[w.heap.size + 4]? = some (.cells exI1 9)
 g1 : w'.heap[w.heap.size + 5]? = some (.cells (exG1 (w.heap.size + 4)) 163)
 pg : w'.heap[w.heap.size + 6]? = some (.cells (exP (w.heap.size + 5)) 144)

end S

open Go Go.AL Go.Proofs
namespace Go.AL
section
variable {P : Program} {L : Lay} {ops : Array Oper} {Q : Exit -> Act -> World -> Prop} {a : Act} {w : World} {o : Oper} {l : List Oper}

structure PutA (a a' : Act) (d : Nat) (v : Value) : Prop where
 size : a'.tmps.size = a.tmps.size
 defers : a'.defers = a.defers
 new : a'.eval (.tmp d) = v
 old : ∀ t : Nat,t ≠ d -> a'.eval (.tmp t) = a.eval (.tmp t)

end
end Go.AL

namespace S
set_option maxRecDepth 100000

section
variable {w : World} {Im : Nat -> Nat -> Prop}

end


structure CInv (m : Md) (st : CS) : Prop where
 len : st.nodes.length = st.es.length
 nd : (st.es.map (·.1)).Nodup
 ok : ∀ e ∈ st.es,okN m e.1 /\ e.1.1 ≠ 0

theorem qZ {α : Type} [DecidableEq α] : ∀ {l u : List α},l.Nodup -> (∀ x ∈ l,x ∈ u) -> l.length <= u.length
 | [],_,_,_=>Nat.zero_le _
 | x :: l,u,hn,hs=>by
   rw [List.nodup_cons] at hn
   have hx:=hs x (by simp)
   have:=qZ (u:=u.erase x) hn.2 fun y hy=>(List.mem_erase_of_ne (fun e=>hn.1 (by rw [<- e]; exact hy))).2 (hs y (by simp [hy]))
   rw [List.length_erase_of_mem hx] at this
   have:=List.length_pos_of_mem hx
   simp only [List.length_cons]; omega


structure uJ (o : List Int) (n : Nat) : Prop where
 len : o.length = n
 rng : ∀ x ∈ o,0 <= x /\ x < (n : Int)
 nd : o.Nodup

theorem uJ.mem {o : List Int} {n : Nat} (h : uJ o n) {i : Int} (h0 : 0 <= i) (h1 : i < (n : Int)) : i ∈ o:=by
 apply Classical.byContradiction
 intro hi
 have:=qZ (l:=i :: o) (u:=(List.range n).map (fun k : Nat=>(k : Int))) (List.nodup_cons.2 ⟨hi,h.nd⟩) (fun x hx=>by
  have hr : 0 <= x /\ x < (n : Int):=by
   rcases List.mem_cons.1 hx with rfl | hx
   ·exact ⟨h0,h1⟩
   ·exact h.rng x hx
  exact List.mem_map.2 ⟨x.toNat,List.mem_range.2 (by omega),by omega⟩)
 simp [h.len] at this
 omega

def nV (o : List Int) : Nat -> List Int
 | 0=>List.replicate o.length 0
 | k + 1=>(nV o k).set (o.getD k 0).toNat k

theorem jK (o : List Int) : ∀ k,(nV o k).length = o.length
 | 0=>by simp [nV]
 | k + 1=>by simp [nV,jK o k]

theorem Y2 {o : List Int} {n : Nat} (h : uJ o n) : ∀ (k : Nat),k <= n -> ∀ (j : Nat),j < k -> (nV o k).getD (o.getD j 0).toNat 0 = (j : Int):=by
 intro k
 induction k with
 | zero=>intro _ j hj; omega
 | succ k ih =>
   intro hk j hj
   have hlk : k < o.length:=by rw [h.len]; omega
   have hlj : j < o.length:=by rw [h.len]; omega
   have ek : o.getD k 0 = o[k]:=by rw [List.getD_eq_getElem?_getD,List.getElem?_eq_getElem hlk]; rfl
   have ej : o.getD j 0 = o[j]:=by rw [List.getD_eq_getElem?_getD,List.getElem?_eq_getElem hlj]; rfl
   have rk:=h.rng _ (List.getElem_mem hlk)
   have rj:=h.rng _ (List.getElem_mem hlj)
   show ((nV o k).set (o.getD k 0).toNat k).getD _ 0 = _
   rw [jv (by rw [jK,h.len,ek]; omega)]
   split
   ·rename_i e
    rw [ek,ej] at e
    have e2 : o[j] = o[k]:=by omega
    by_cases hjk : j = k
    ·rw [hjk]
    ·exact absurd e2 (List.pairwise_iff_getElem.1 h.nd j k hlj hlk (by omega))
   ·rename_i e
    have hjk : j ≠ k:=fun e'=>e (by rw [e'])
    exact ih (by omega) j (by omega)

def Tb.new (o : List Int) : Tb:=⟨o,nV o o.length,[],[],[]⟩

theorem EM {o : List Int} {n : Nat} (h : uJ o n) (hn : n <= 60) : bJ (Tb.new o):=by
 have hl:=h.len
 have at':=Y2 h n (Nat.le_refl _)
 refine ⟨by show o.length <= 60; omega,jK _ _,fun k h0 h1=>?_,fun i h0 h1=>?_,fun k hk=>absurd hk (Nat.not_lt_zero _),fun x r=>?_,fun c a b r hh=>by cases hh⟩
 ·have h1 : k < (o.length : Int):=h1
  have hlk : k.toNat < o.length:=by omega
  have ek : o.getD k.toNat 0 = o[k.toNat]:=by rw [List.getD_eq_getElem?_getD,List.getElem?_eq_getElem hlk]; rfl
  have rk:=h.rng _ (List.getElem_mem hlk)
  refine ⟨?_,?_,?_⟩
  ·show 0 <= o.getD k.toNat 0; rw [ek]; exact rk.1
  ·show o.getD k.toNat 0 < (o.length : Int); rw [ek,hl]; exact rk.2
  ·show (nV o o.length).getD (o.getD k.toNat 0).toNat 0 = k
   rw [hl,at' k.toNat (by omega)]; omega
 ·have h1 : i < (o.length : Int):=h1
  obtain ⟨k,hk,e⟩:=List.mem_iff_getElem.1 (h.mem h0 (by omega))
  have ek : o.getD k 0 = i:=by rw [List.getD_eq_getElem?_getD,List.getElem?_eq_getElem hk]; exact e
  have:=at' k (by omega)
  rw [ek] at this
  have hp : (Tb.new o).pl i = (k : Int):=by show (nV o o.length).getD i.toNat 0 = _; rw [hl]; exact this
  rw [hp]
  refine ⟨by omega,by show (k : Int) < (o.length : Int); omega,?_⟩
  show o.getD (k : Int).toNat 0 = i
  rw [Int.toNat_natCast]; exact ek
 ·constructor
  ·intro hh; cases hh
  ·rintro ⟨k,hk,_⟩; exact absurd hk (Nat.not_lt_zero _)

abbrev xN (o : List Int) (nd : AV) : AV:=.ag [.sl 1 (o.map (.int .i64)) .no,.ms 0 0 o.length o.length 1,nd,.mp 1,.mp 2]
abbrev hpN0 (o : List Int) (p : List Int) : Heap:=[(3,.box (xN o .aG)),(2,.dU IE []),(1,.dU IE []),(0,.arr 1 o.length (p.map (.int .i64)))]
abbrev hpN (o : List Int) : Heap:=[(4,.tok 3 0),(3,.box (xN o (.sl 3 [] (.own 4)))),(2,.dU IE []),(1,.dU IE []),(0,.arr 1 o.length ((nV o o.length).map (.int .i64)))]

theorem ZQ {o : List Int} {n : Nat} (h : uJ o n) (hn : n <= 60) :
  aA Tryz.prog 50 [iL o] [] (.ptr 3 [] 0) (hpN0 o (nV o o.length)):=by
 have hl:=h.len
 refine aA.intro lay mixed Tryz.func50 (by kernel_rfl) rfl (by kernel_rfl) rfl fun hok=>?_
 (try dsimp only[aZ,aN]);(try dsimp only[aj]);conv=>whnf
 refine aS.mk ⟨[true,true,true,true,false,false,false,true,false,true],by kernel_rfl,?_⟩
 conv=>whnf
 refine .pure (by simp [maxL]; omega) (by simp; omega) ?_
 refine ⟨rfl,?_⟩
 conv=>whnf
 rw [List.length_map]
 refine ⟨⟨by omega,Int.le_refl _,by show (o.length : Int) * ((8 : Nat) : Int) <= 281474976710656; omega,by omega⟩,.wr ?_⟩
 rw [Int.toNat_natCast]
 conv=>whnf
 refine aK.of <| (aC.inv (.refl _ _) (fun k : Nat=>k <= o.length) (fun k=>[(17,.int .i64 k)]) (fun k=>hpN0 o (nV o k)) (fun k=>o.length - k) 0 (Nat.zero_le _) ?_ ?_ ?_)
 ·exact fun _=>rfl
 ·refine ⟨?_,.mk ?_ (by simp [ay])⟩
  ·all_goals exact wk
  ·repeat' first|exact rfl|exact trivial|exact wR|exact lR _|apply aI
   all_goals first | (show dK (List.replicate o.length _) (List.map _ (List.replicate o.length 0)); rw [List.map_replicate]; exact aB _) | skip
 intro k hk _
 have hpl:=jK o k
 (try dsimp only[aj]);conv=>whnf
 refine And.intro (fun g=>?_) (fun g=>?_)
 ·have hlt : k < o.length:=by simpa using g
  have rk:=h.rng _ (List.getElem_mem hlt)
  have ek : o.getD k 0 = o[k]:=by rw [List.getD_eq_getElem?_getD,List.getElem?_eq_getElem hlt]; rfl
  have es : nV o (k + 1) = (nV o k).set (o[k]).toNat k:=by show (nV o k).set (o.getD k 0).toNat k = _; rw [ek]
  (try dsimp only[aj]);conv=>whnf
  refine jq hlt ?_
  (try dsimp only[aj]);conv=>whnf
  refine ⟨⟨rk.1,by omega⟩,?_⟩
  (try dsimp only[aj]);conv=>whnf
  refine ⟨by rw [List.length_map]; omega,rfl,?_⟩
  (try dsimp only[aj]);conv=>whnf
  refine zA ?_;conv=>whnf
  refine ⟨k + 1,?_,?_,?_⟩
  ·exact hlt
  ·rw [es]
   refine ⟨?_,.mk ?_ (by simp [ay])⟩
   ·all_goals exact wk
   ·repeat' first|exact rfl|exact trivial|exact wR|exact lR _|apply aI
    all_goals first | (rw [Nat.zero_add,List.map_set]; exact aB _) | skip
  ·omega
 ·have hk : k = o.length:=by (have : ¬ k < o.length:=by simpa using g); omega
  subst hk
  (try dsimp only[aj]);conv=>whnf
  refine ⟨⟨_,_,.refl _ _,?_⟩⟩
  conv=>whnf
  refine ⟨?_,rfl,by simp [nextId],.mk ?_ (by simp [ay])⟩
  ·all_goals exact wk
  ·all_goals exact wk

theorem XI {o : List Int} {n : Nat} (h : uJ o n) (hn : n <= 60) : aA Tryz.prog 50 [iL o] [] (.ptr 3 [] 0) (hpN o) :=
 aA.cv (ZQ h hn) (.I9 3 [2] 3 [] (xN o .aG) .aG _ rfl rfl (.inl ⟨rfl,rfl⟩) rfl (.refl _ _)) rfl

def qB (d : List Bool) (args : List Int) : List Bool:=args.foldl (fun d a=>d.set a.toNat true) d

theorem wK : ∀ (args : List Int) (d : List Bool),(qB d args).length = d.length
 | [],_=>rfl
 | a :: l,d=>by show (qB (d.set a.toNat true) l).length = _; rw [wK l]; simp

theorem oI {d : List Bool} {i j : Nat} : (d.set i true).getD j false = true ↔ d.getD j false = true \/ (j < d.length /\ i = j):=by
 rw [List.getD_eq_getElem?_getD,List.getD_eq_getElem?_getD,List.getElem?_set]
 by_cases h : i = j
 ·subst h
  rw [if_pos rfl]
  by_cases hl : i < d.length
  ·rw [if_pos hl]; simp [hl]
  ·rw [if_neg hl]; simp [hl]
 ·rw [if_neg h]; simp [h]

theorem ru : ∀ (args : List Int) (d : List Bool) (j : Nat),(qB d args).getD j false = true ↔ d.getD j false = true \/ (j < d.length /\ ∃ a ∈ args,a.toNat = j)
 | [],d,j=>by simp [qB]
 | a :: l,d,j=>by
   show (qB (d.set a.toNat true) l).getD j false = true ↔ _
   rw [ru l,oI]
   simp only [List.length_set,List.mem_cons]
   constructor
   ·rintro ((h | ⟨h1,h2⟩) | ⟨h1,b,h2,h3⟩)
    ·exact .inl h
    ·exact .inr ⟨h1,a,.inl rfl,h2⟩
    ·exact .inr ⟨h1,b,.inr h2,h3⟩
   ·rintro (h | ⟨h1,b,rfl | h2,h3⟩)
    ·exact .inl (.inl h)
    ·exact .inl (.inr ⟨h1,h3⟩)
    ·exact .inr ⟨h1,b,h2,h3⟩

theorem EP {d : List Bool} {args : List Int} {j : Nat} (h : j < args.length) : qB d (args.take (j + 1)) = (qB d (args.take j)).set args[j].toNat true:=by
 unfold qB
 rw [List.take_add_one,List.getElem?_eq_getElem h,List.foldl_append]; rfl

def argsAt (l : List Nd) (i : Nat) : List Int:=(l.getD i default).args

def rO (v : Nat) (l : List Nd) (top : Nat) : Nat -> List Bool
 | 0=>(List.replicate (v + l.length) false).set top true
 | k + 1=>if (rO v l top k).getD (v + (l.length - 1 - k)) false = true then qB (rO v l top k) (argsAt l (l.length - 1 - k)) else rO v l top k

def belF (v : Nat) (l : List Nd) (top : Nat) : List Bool:=rO v l top l.length

theorem ng (v : Nat) (l : List Nd) (top : Nat) : ∀ k,(rO v l top k).length = v + l.length
 | 0=>by simp [rO]
 | k + 1=>by
   unfold rO
   split
   ·rw [wK,ng]
   ·exact ng v l top k

inductive Bel (v : Nat) (l : List Nd) (top : Nat) : Nat -> Prop
 | root : Bel v l top top
 | step {i : Nat} {a : Int} (h : Bel v l top (v + i)) (hi : i < l.length) (ha : a ∈ argsAt l i) : Bel v l top a.toNat

theorem Oi {v : Nat} {l : List Nd} {top : Nat} (ht : top < v + l.length) (hw : ∀ i < l.length,∀ a ∈ argsAt l i,0 <= a /\ a < (v : Int) + i) : ∀ k,k <= l.length ->
  (∀ j,(rO v l top k).getD j false = true -> Bel v l top j) /\ (rO v l top k).getD top false = true /\
  ∀ i,l.length <= i + k -> i < l.length -> (rO v l top k).getD (v + i) false = true -> ∀ a ∈ argsAt l i,(rO v l top k).getD a.toNat false = true
 | 0,_=>by
   refine ⟨fun j h=>?_,?_,fun i h1 h2=>by omega⟩
   ·unfold rO at h
    rw [oI] at h
    rcases h with h | ⟨_,rfl⟩
    ·rw [List.getD_eq_getElem?_getD,List.getElem?_replicate] at h
     split at h <;> cases h
    ·exact .root
   ·unfold rO
    rw [oI]
    exact .inr ⟨by simpa using ht,rfl⟩
 | k + 1,hk=>by
   obtain ⟨h1,h2,h3⟩:=Oi ht hw k (by omega)
   have hl:=ng v l top k
   unfold rO
   split
   ·rename_i hm
    refine ⟨fun j h=>?_,?_,fun i g1 g2 g3 a ha=>?_⟩
    ·rw [ru] at h
     rcases h with h | ⟨_,a,ha,rfl⟩
     ·exact h1 j h
     ·exact .step (h1 _ hm) (by omega) ha
    ·rw [ru]; exact .inl h2
    ·rw [ru] at g3 ⊢
     by_cases e : i = l.length - 1 - k
     ·subst e
      have:=hw _ g2 a ha
      exact .inr ⟨by rw [hl]; omega,a,ha,rfl⟩
     ·rcases g3 with g3 | ⟨_,b,hb,g4⟩
      ·exact .inl (h3 i (by omega) g2 g3 a ha)
      ·have:=hw _ (by omega) b hb
       omega
   ·rename_i hm
    refine ⟨h1,h2,fun i g1 g2 g3 a ha=>?_⟩
    by_cases e : i = l.length - 1 - k
    ·subst e; exact absurd g3 hm
    ·exact h3 i (by omega) g2 g3 a ha

theorem Gt {v : Nat} {l : List Nd} {top : Nat} (ht : top < v + l.length) (hw : ∀ i < l.length,∀ a ∈ argsAt l i,0 <= a /\ a < (v : Int) + i) (j : Nat) : (belF v l top).getD j false = true ↔ Bel v l top j:=by
 obtain ⟨h1,h2,h3⟩:=Oi ht hw l.length (Nat.le_refl _)
 refine ⟨h1 j,fun h=>?_⟩
 unfold belF
 induction h with
 | root=>exact h2
 | step _ hi ha ih=>exact h3 _ (by omega) hi ih _ ha

theorem xY.args {f : Fo} (h : xY f) : ∀ i < f.nodes.length,∀ a ∈ argsAt f.nodes i,0 <= a /\ a < (f.vars.toNat : Int) + i:=by
 intro i hi a ha
 have hv:=h.vars
 unfold argsAt at ha
 rw [List.getD_eq_getElem?_getD,List.getElem?_eq_getElem hi] at ha
 have:=(h.nodes i hi).args a ha
 omega

theorem rD {A : AV} (h : rZ A (.bool true)) : ∀ (d : List Bool) (i : Nat),dK ((d.map AV.bool).set i A) ((d.set i true).map AV.bool)
 | [],_=>trivial
 | _ :: _,0=>⟨h,aB _⟩
 | _ :: d,i + 1=>⟨EX _,rD h d i⟩
theorem IY {A : AV} (h : rZ A (.bool true)) : ∀ (n i : Nat),dK ((List.replicate n AV.ff).set i A) (((List.replicate n false).set i true).map AV.bool)
 | 0,_=>trivial
 | n + 1,0=>⟨h,by
     show dK (List.replicate n AV.ff) ((List.replicate n false).map AV.bool)
     induction n with
     | zero=>trivial
     | succ n ih=>exact ⟨rfl,ih⟩⟩
 | n + 1,i + 1=>⟨rfl,IY h n i⟩

theorem Oh (f : Fo) (h : xY f) : aA Tryz.prog 225 [f.av] [] (.sl 1 ((belF f.vars.toNat f.nodes f.top.toNat).map .bool) .no) []:=by
 have hw:=h.args
 obtain ⟨h1,h2,h3,h4⟩:=h
 have htn : f.top.toNat < f.vars.toNat + f.nodes.length:=by omega
 refine aA.intro lay mixed Tryz.func225 (by kernel_rfl) rfl (by kernel_rfl) rfl fun hok=>?_
 (try dsimp only[aZ,aN]);(try dsimp only[aj]);conv=>whnf
 refine ⟨bC (by simp; omega) (by simp; omega),?_⟩
 (try dsimp only[aj]);conv=>whnf
 refine ⟨by refine ⟨by omega,by omega,by simp; omega,by simp; omega⟩,?_⟩
 refine .wr ?_
 (try dsimp only[aj]);conv=>whnf
 refine ⟨⟨by omega,by simp; omega⟩,?_⟩
 (try dsimp only[aj]);conv=>whnf
 refine ⟨by simp; omega,rfl,?_⟩
 (try dsimp only[aj]);conv=>whnf
 refine ⟨bC (by simp; omega) (by simp; omega),?_⟩
 (try dsimp only[aj]);conv=>whnf
 refine aK.of <| aC.inv (.refl _ _) (fun k : Nat=>k <= f.nodes.length) (fun k=>[(4,.int .i64 ((f.nodes.length : Int) - 1 - k))]) (fun k=>[(1,.arr 1 (f.vars + ((f.nodes.map Nd.av).length : Int)).toNat ((rO f.vars.toNat f.nodes f.top.toNat k).map .bool)),(0,.box f.av)]) (fun k=>f.nodes.length - k) 0 ?_ (fun _=>rfl) ?_ ?_
 ·exact Nat.zero_le _
 ·refine ⟨?_,.mk ?_ ?_⟩
  ·repeat' first|exact rfl|exact trivial|exact wR|exact lR _|apply aI
   all_goals (simp; done)
  ·repeat' first|exact rfl|exact trivial|exact wR|exact lR _|apply aI
   all_goals (rw [Nat.zero_add,show (f.vars + ((f.nodes.map Nd.av).length : Int)).toNat = f.vars.toNat + f.nodes.length by simp; omega]; refine IY ?_ _ _; first | exact rfl | (show _ ↔ _; simp))
  ·exact ⟨by simp,by simp,trivial⟩
 intro k hk _
 have hbl:=ng f.vars.toNat f.nodes f.top.toNat k
 (try dsimp only[aj]);conv=>whnf
 refine And.intro (fun g1=>?_) (fun g1=>?_)
 ·have hlt : k < f.nodes.length:=by omega
  have hb1 : rO f.vars.toNat f.nodes f.top.toNat (k + 1) = if (rO f.vars.toNat f.nodes f.top.toNat k).getD (f.vars.toNat + (f.nodes.length - 1 - k)) false = true then qB (rO f.vars.toNat f.nodes f.top.toNat k) (argsAt f.nodes (f.nodes.length - 1 - k)) else rO f.vars.toNat f.nodes f.top.toNat k:=rfl
  have hai:=hw (f.nodes.length - 1 - k) (by omega)
  have hia : f.nodes.length - 1 - k < f.nodes.length:=by omega
  have hae : argsAt f.nodes (f.nodes.length - 1 - k) = (f.nodes[f.nodes.length - 1 - k]).args:=by unfold argsAt; rw [List.getD_eq_getElem?_getD,List.getElem?_eq_getElem hia]; rfl
  rw [hae] at hb1 hai
  have hnl : (f.nodes[f.nodes.length - 1 - k]).args.length <= 16:=by
   have hal:=(h3 _ hia).num
   split at hal
   ·omega
   ·split at hal <;> omega
  generalize rO f.vars.toNat f.nodes f.top.toNat k = d at *
  rw [show (f.nodes.length : Int) - 1 - k = ((f.nodes.length - 1 - k : Nat) : Int) by omega]
  (try dsimp only[aj]);conv=>whnf
  refine ⟨bC (by omega) (by omega),?_⟩
  (try dsimp only[aj]);conv=>whnf
  refine ⟨⟨by omega,by simp; omega⟩,?_⟩
  (try dsimp only[aj]);conv=>whnf
  rw [show 0 + (f.vars + ((f.nodes.length - 1 - k : Nat) : Int)).toNat = f.vars.toNat + (f.nodes.length - 1 - k) by omega]
  refine dQ false (by simp; omega) ?_
  (try dsimp only[aj]);conv=>whnf
  refine ⟨rfl,?_⟩
  (try dsimp only[aj]);conv=>whnf
  refine And.intro (fun g2=>?_) (fun g2=>?_)
  ·rw [Int.toNat_natCast] at g2
   rw [if_pos g2] at hb1
   (try dsimp only[aj]);conv=>whnf
   refine jq hia ?_
   generalize f.nodes[f.nodes.length - 1 - k] = x at *
   (try dsimp only[aj]);conv=>whnf
   refine aK.of <| aC.inv (.refl _ _) (fun j : Nat=>j <= x.args.length) (fun j=>[(40,.int .i64 j)]) (fun j=>[(1,.arr 1 (f.vars + ((f.nodes.map Nd.av).length : Int)).toNat ((qB d (x.args.take j)).map .bool)),(0,.box f.av)]) (fun j=>x.args.length - j) 0 ?_ (fun _=>rfl) ?_ ?_
   ·exact Nat.zero_le _
   ·refine ⟨?_,.mk ?_ ?_⟩
    ·all_goals exact wk
    ·all_goals exact wk
    ·exact ⟨by simp,by simp,trivial⟩
   intro j hj _
   have hml:=wK (x.args.take j) d
   (try dsimp only[aj]);conv=>whnf
   refine And.intro (fun g3=>?_) (fun g3=>?_)
   ·have hjl : j < x.args.length:=by simpa using g3
    have hmt:=EP (d:=d) hjl
    have ha:=hai _ (List.getElem_mem hjl)
    (try dsimp only[aj]);conv=>whnf
    refine jq hjl ?_
    generalize x.args[j] = a at *
    (try dsimp only[aj]);conv=>whnf
    refine ⟨⟨by omega,by simp; omega⟩,?_⟩
    (try dsimp only[aj]);conv=>whnf
    refine ⟨by simp; omega,rfl,?_⟩
    (try dsimp only[aj]);conv=>whnf
    refine zA ?_;conv=>whnf
    refine ⟨j + 1,?_,?_,?_⟩
    ·exact hjl
    ·rw [hmt]
     refine ⟨?_,.mk ?_ ?_⟩
     ·all_goals exact wk
     ·repeat' first|exact rfl|exact trivial|exact wR|exact lR _|apply aI
      all_goals (rw [Nat.zero_add]; refine rD ?_ _ _; first | exact rfl | (show _ ↔ _; simp))
     ·exact ⟨by simp,by simp,trivial⟩
    ·omega
   have hjl : j = x.args.length:=by (have : ¬ j < x.args.length:=by simpa using g3); omega
   subst hjl
   clear g3
   rw [List.take_length,<- hb1]
   (try dsimp only[aj]);conv=>whnf
   refine ⟨bC (by omega) (by omega),?_⟩
   (try dsimp only[aj]);conv=>whnf
   refine ⟨k + 1,?_,?_,?_⟩
   ·exact hlt
   ·refine ⟨?_,.mk ?_ ?_⟩
    ·repeat' first|exact rfl|exact trivial|exact wR|exact lR _|apply aI
     all_goals (push_cast; omega)
    ·all_goals exact wk
    ·exact ⟨by simp,by simp,trivial⟩
   ·omega
  ·rw [Int.toNat_natCast] at g2
   rw [if_neg (by rw [g2]; simp)] at hb1
   rw [<- hb1]
   (try dsimp only[aj]);conv=>whnf
   refine ⟨bC (by omega) (by omega),?_⟩
   (try dsimp only[aj]);conv=>whnf
   refine ⟨k + 1,?_,?_,?_⟩
   ·exact hlt
   ·refine ⟨?_,.mk ?_ ?_⟩
    ·repeat' first|exact rfl|exact trivial|exact wR|exact lR _|apply aI
     all_goals (push_cast; omega)
    ·all_goals exact wk
    ·exact ⟨by simp,by simp,trivial⟩
   ·omega
 have hkl : k = f.nodes.length:=by omega
 subst hkl
 (try dsimp only[aj]);conv=>whnf
 refine ⟨⟨_,_,.keep 2 1 _ _ _ _ rfl rfl ?_ (.refl _ _),?_⟩⟩
 ·have:=ng f.vars.toNat f.nodes f.top.toNat f.nodes.length
  simp [this]; omega
 conv=>whnf
 refine ⟨?_,rfl,by simp [nextId],.mk ?_ (by simp [ay])⟩
 ·repeat' first|exact rfl|exact trivial|exact wR|exact lR _|apply aI
  all_goals (refine aY ?_; rw [List.take_of_length_le (by rw [List.length_map,ng]; simp; omega)]; rfl)
 ·all_goals exact wk

def lQ (v : Nat) (l : List Nd) (d : List Bool) (n : Nat) : Nat × Nat:=(List.range n).foldl (fun p i=>if d.getD (v + i) false = true then (p.1 + 1,p.2 + (argsAt l i).length) else p) (0,0)

theorem Ep (v : Nat) (l : List Nd) (d : List Bool) (n : Nat) : lQ v l d (n + 1) = if d.getD (v + n) false = true then ((lQ v l d n).1 + 1,(lQ v l d n).2 + (argsAt l n).length) else lQ v l d n:=by
 unfold lQ
 rw [List.range_succ,List.foldl_append]; rfl

theorem Z8 (f : Fo) (h : xY f) : aA Tryz.prog 126 [f.av] [] (.eG [.int .i64 (lQ f.vars.toNat f.nodes (belF f.vars.toNat f.nodes f.top.toNat) f.nodes.length).1,.int .i64 (lQ f.vars.toNat f.nodes (belF f.vars.toNat f.nodes f.top.toNat) f.nodes.length).2,.eP]) []:=by
 have cc:=vM f h
 have cb:=Oh f h
 have hbl : (belF f.vars.toNat f.nodes f.top.toNat).length = f.vars.toNat + f.nodes.length:=ng _ _ _ _
 obtain ⟨h1,h2,h3,h4⟩:=h
 generalize belF f.vars.toNat f.nodes f.top.toNat = d at *
 refine aA.intro lay mixed Tryz.func126 (by kernel_rfl) rfl (by kernel_rfl) rfl fun hok=>?_
 (try dsimp only[aZ,aN]);(try dsimp only[aj]);conv=>whnf
 refine .pure _ _ ?_ ⟨rfl,rfl⟩ cc fun _=>?_
 ·exact ak _
 (try dsimp only[aj]);conv=>whnf
 refine aS.auto (by kernel_rfl) ?_;conv=>whnf
 refine fO.pure _ _ ?_ ⟨rfl,rfl⟩ cb ?_
 ·exact ak _
 (try dsimp only[aj]);conv=>whnf
 have hle : ((d.map AV.bool).drop f.vars.toNat).take (((d.map AV.bool).length : Int).toNat - f.vars.toNat) = (d.drop f.vars.toNat).map AV.bool:=by
  rw [<- List.map_drop,<- List.map_take,List.take_of_length_le (by simp)]
 refine OJ.mk ⟨by simp; omega,?_⟩
 rw [hle]
 (try dsimp only[aj]);conv=>whnf
 have hdl : (d.drop f.vars.toNat).length = f.nodes.length:=by rw [List.length_drop]; omega
 refine aK.of <| aC.inv (.refl _ _) (fun (i : Nat)=>i <= f.nodes.length /\ (lQ f.vars.toNat f.nodes d i).1 <= i /\ (lQ f.vars.toNat f.nodes d i).2 <= 16 * i) (fun (i : Nat)=>[(19,.int .i64 i),(2,.int .i64 (lQ f.vars.toNat f.nodes d i).1),(3,.int .i64 (lQ f.vars.toNat f.nodes d i).2)]) (fun _=>_) (fun (i : Nat)=>f.nodes.length - i) 0 ?_ (fun _=>rfl) ?_ ?_
 ·exact ⟨Nat.zero_le _,Nat.le_refl _,Nat.le_refl _⟩
 ·all_goals exact wk
 rintro i ⟨hi,hs1,hs2⟩ _
 (try dsimp only[aj]);conv=>whnf
 refine And.intro (fun g1=>?_) (fun g1=>?_)
 ·have hil : i < f.nodes.length:=by simp at g1; omega
  have hsn:=Ep f.vars.toNat f.nodes d i
  have hae : argsAt f.nodes i = (f.nodes[i]).args:=by unfold argsAt; rw [List.getD_eq_getElem?_getD,List.getElem?_eq_getElem hil]; rfl
  rw [hae] at hsn
  have hnl : (f.nodes[i]).args.length <= 16:=by
   have hal:=(h3 _ hil).num
   split at hal
   ·omega
   ·split at hal <;> omega
  (try dsimp only[aj]);conv=>whnf
  refine dQ false (by omega) ?_
  rw [show (d.drop f.vars.toNat).getD ((i : Nat) : Int).toNat false = d.getD (f.vars.toNat + i) false by rw [Int.toNat_natCast,List.getD_eq_getElem?_getD,List.getD_eq_getElem?_getD,List.getElem?_drop]]
  generalize lQ f.vars.toNat f.nodes d i = p at *
  (try dsimp only[aj]);conv=>whnf
  refine And.intro (fun g2=>?_) (fun g2=>?_)
  ·rw [if_pos g2] at hsn
   (try dsimp only[aj]);conv=>whnf
   refine zA ?_;conv=>whnf
   (try dsimp only[aj]);conv=>whnf
   refine jq hil ?_
   generalize f.nodes[i] = x at *
   (try dsimp only[aj]);conv=>whnf
   refine ⟨bC (by simp; omega) (by simp; omega),?_⟩
   (try dsimp only[aj]);conv=>whnf
   refine zA ?_;conv=>whnf
   refine ⟨i + 1,?_,?_,?_⟩
   ·rw [hsn]; exact ⟨hil,by dsimp only; omega,by dsimp only; omega⟩
   ·rw [hsn]
    refine ⟨?_,.mk ?_ (by simp [ay])⟩
    ·repeat' first|exact rfl|exact trivial|exact wR|exact lR _|apply aI
     all_goals (simp; done)
    ·all_goals exact wk
   ·omega
  ·rw [if_neg (by rw [g2]; simp)] at hsn
   (try dsimp only[aj]);conv=>whnf
   refine zA ?_;conv=>whnf
   refine ⟨i + 1,?_,?_,?_⟩
   ·rw [hsn]; exact ⟨hil,by omega,by omega⟩
   ·rw [hsn]
    refine ⟨?_,.mk ?_ (by simp [ay])⟩
    ·all_goals exact wk
    ·all_goals exact wk
   ·omega
 have hil : i = f.nodes.length:=by simp at g1; omega
 subst hil
 (try dsimp only[aj]);conv=>whnf
 refine fM ?_;(conv=>whnf);refine ⟨?_,rfl⟩;conv=>whnf
 all_goals exact wk

theorem J7 : ∀ (n : Nat),dK (List.replicate n AV.ff) ((List.replicate n false).map AV.bool)
 | 0=>trivial
 | n + 1=>⟨rfl,J7 n⟩

theorem XZ {o : List Int} {n : Nat} (h : uJ o n) (hn : n <= 24) : aA Tryz.prog 127 [iL o,.int .i64 n] [] .eP []:=by
 have hl:=h.len
 refine aA.intro lay mixed Tryz.func127 (by kernel_rfl) rfl (by kernel_rfl) rfl fun hok=>?_
 (try dsimp only[aZ,aN]);(try dsimp only[aj]);conv=>whnf
 refine And.intro (fun g=>by exfalso; omega) (fun g=>?_)
 (try dsimp only[aj]);conv=>whnf
 refine And.intro (fun g=>by exfalso; omega) (fun g=>?_)
 (try dsimp only[aj]);conv=>whnf
 refine And.intro (fun g=>by exfalso; simp at g; omega) (fun g=>?_)
 (try dsimp only[aj]);conv=>whnf
 refine ⟨⟨by omega,Int.le_refl _,by show (n : Int) * ((1 : Nat) : Int) <= 281474976710656; omega,by omega⟩,.wr ?_⟩
 rw [Int.toNat_natCast]
 (try dsimp only[aj]);conv=>whnf
 refine aK.of <| (aC.inv (.refl _ _) (fun k : Nat=>k <= o.length) (fun k=>[(26,.int .i64 k)]) (fun k=>[(0,.arr 1 n ((qB (List.replicate n false) (o.take k)).map .bool))]) (fun k=>o.length - k) 0 (Nat.zero_le _) ?_ ?_ ?_)
 ·exact fun _=>rfl
 ·refine ⟨?_,.mk ?_ (by simp [ay])⟩
  ·all_goals exact wk
  ·repeat' first|exact rfl|exact trivial|exact wR|exact lR _|apply aI
   all_goals first | (show dK (List.replicate n _) (List.map _ (List.replicate n false)); exact J7 n) | skip
 intro k hk _
 have hml:=wK (o.take k) (List.replicate n false)
 rw [List.length_replicate] at hml
 (try dsimp only[aj]);conv=>whnf
 refine And.intro (fun g=>?_) (fun g=>?_)
 ·have hlt : k < o.length:=by simpa using g
  have rk:=h.rng _ (List.getElem_mem hlt)
  have hmt:=EP (d:=List.replicate n false) hlt
  have hno : ¬ (qB (List.replicate n false) (o.take k)).getD (o[k]).toNat false = true:=by
   rw [ru]
   rintro (h1 | ⟨_,b,hb,e⟩)
   ·rw [List.getD_eq_getElem?_getD,List.getElem?_replicate] at h1
    split at h1 <;> cases h1
   ·obtain ⟨j,hj,ej⟩:=List.mem_iff_getElem.1 hb
    have hj' : j < k:=by rw [List.length_take] at hj; omega
    rw [List.getElem_take] at ej
    have rb:=h.rng b (List.mem_of_mem_take hb)
    have : o[j] = o[k]:=by rw [ej]; omega
    exact absurd this (List.pairwise_iff_getElem.1 h.nd j k (by omega) hlt hj')
  generalize qB (List.replicate n false) (o.take k) = d at *
  (try dsimp only[aj]);conv=>whnf
  refine jq hlt ?_
  generalize o[k] = x at *
  (try dsimp only[aj]);conv=>whnf
  refine And.intro (fun g=>by exfalso; omega) (fun g=>?_)
  (try dsimp only[aj]);conv=>whnf
  refine And.intro (fun g=>by exfalso; omega) (fun g=>?_)
  (try dsimp only[aj]);conv=>whnf
  refine ⟨⟨rk.1,rk.2⟩,?_⟩
  (try dsimp only[aj]);conv=>whnf
  rw [Nat.zero_add]
  refine dQ false ⟨by omega,by omega⟩ ?_
  (try dsimp only[aj]);conv=>whnf
  refine ⟨rfl,?_⟩
  (try dsimp only[aj]);conv=>whnf
  refine And.intro (fun g=>absurd g (by rw [Int.toNat_natCast]; exact hno)) (fun g=>?_)
  (try dsimp only[aj]);conv=>whnf
  refine ⟨⟨rk.1,rk.2⟩,?_⟩
  (try dsimp only[aj]);conv=>whnf
  refine ⟨by rw [List.length_map]; omega,rfl,?_⟩
  (try dsimp only[aj]);conv=>whnf
  refine zA ?_;conv=>whnf
  refine ⟨k + 1,?_,?_,?_⟩
  ·exact hlt
  ·rw [hmt]
   refine ⟨?_,.mk ?_ (by simp [ay])⟩
   ·all_goals exact wk
   ·repeat' first|exact rfl|exact trivial|exact wR|exact lR _|apply aI
    all_goals (rw [Nat.zero_add]; refine rD ?_ _ _; first | exact rfl | (show _ ↔ _; simp))
  ·omega
 (try dsimp only[aj]);conv=>whnf
 refine ⟨⟨_,_,.refl _ _,?_⟩⟩
 conv=>whnf
 refine ⟨?_,rfl,by simp [nextId],.mk ?_ (by simp [ay])⟩
 ·all_goals exact wk
 ·all_goals exact wk

def Di (v : Nat) (l : List Nd) : Nat -> Int -> List Bool × List Int -> List Bool × List Int
 | 0,_,s=>s
 | n + 1,a,s=>if s.1.getD a.toNat false = true then s
     else if a < (v : Int) then (s.1.set a.toNat true,s.2 ++ [a])
     else (argsAt l (a.toNat - v)).foldl (fun s b=>Di v l n b s) (s.1.set a.toNat true,s.2)

structure Yn (v m : Nat) (s : List Bool × List Int) : Prop where
 len : s.1.length = v + m
 ev : ∀ e ∈ s.2,0 <= e /\ e < (v : Int) /\ s.1.getD e.toNat false = true
 nd : s.2.Nodup
 all : ∀ i : Nat,i < v -> s.1.getD i false = true -> (i : Int) ∈ s.2

theorem Yn.short {v m : Nat} {s : List Bool × List Int} (h : Yn v m s) : s.2.length <= v:=by
 have:=qZ (l:=s.2) (u:=(List.range v).map (fun k : Nat=>(k : Int))) h.nd (fun x hx=>by
  have:=h.ev x hx
  exact List.mem_map.2 ⟨x.toNat,List.mem_range.2 (by omega),by omega⟩)
 simpa using this

theorem Yn.mark {v m : Nat} {s : List Bool × List Int} (h : Yn v m s) {a : Int} (h0 : 0 <= a) (h1 : a < ((v + m : Nat) : Int)) (hm : ¬ s.1.getD a.toNat false = true) :
  Yn v m (s.1.set a.toNat true,if a < (v : Int) then s.2 ++ [a] else s.2):=by
 have hl:=h.len
 refine ⟨by simp [hl],fun e he=>?_,?_,fun i hi hs=>?_⟩
 ·have old : e ∈ s.2 -> 0 <= e /\ e < (v : Int) /\ (s.1.set a.toNat true).getD e.toNat false = true:=fun he=>by
   obtain ⟨q1,q2,q3⟩:=h.ev e he
   exact ⟨q1,q2,oI.2 (.inl q3)⟩
  dsimp only at he
  split at he
  ·rename_i hv
   rcases List.mem_append.1 he with he | he
   ·exact old he
   ·obtain rfl:=List.mem_singleton.1 he
    exact ⟨h0,hv,oI.2 (.inr ⟨by omega,rfl⟩)⟩
  ·exact old he
 ·dsimp only
  split
  ·refine List.nodup_append.2 ⟨h.nd,by simp,fun x hx y hy e=>?_⟩
   obtain rfl:=List.mem_singleton.1 hy
   exact hm (e ▸ (h.ev x hx).2.2)
  ·exact h.nd
 ·dsimp only at hs ⊢
  rcases oI.1 hs with hs | ⟨_,hs⟩
  ·have:=h.all i hi hs
   split
   ·exact List.mem_append.2 (.inl this)
   ·exact this
  ·rw [if_pos (by omega)]
   exact List.mem_append.2 (.inr (by rw [List.mem_singleton]; omega))

theorem Eb {v : Nat} {l : List Nd} (hw : ∀ i < l.length,∀ a ∈ argsAt l i,0 <= a /\ a < (v : Int) + i) : ∀ (n : Nat) (a : Int) (s : List Bool × List Int),Yn v l.length s -> 0 <= a -> a < ((v + l.length : Nat) : Int) -> Yn v l.length (Di v l n a s)
 | 0,_,_,h,_,_=>h
 | n + 1,a,s,h,h0,h1=>by
   unfold Di
   split
   ·exact h
   rename_i hm
   have hk:=h.mark h0 h1 hm
   split
   ·rename_i hv
    rw [if_pos hv] at hk
    exact hk
   ·rename_i hv
    rw [if_neg hv] at hk
    have hwa:=hw (a.toNat - v) (by omega)
    generalize argsAt l (a.toNat - v) = args at *
    generalize (s.1.set a.toNat true,s.2) = s' at *
    induction args generalizing s' with
    | nil=>exact hk
    | cons b args ih =>
      have hb:=hwa b (by simp)
      exact ih (fun x hx=>hwa x (by simp [hx])) _ (Eb hw n b s' hk hb.1 (by omega))

theorem Jc {α β : Type} (f : β -> α -> β) (s : β) {l : List α} {j : Nat} (h : j < l.length) : (l.take (j + 1)).foldl f s = f ((l.take j).foldl f s) l[j]:=by
 rw [List.take_add_one,List.getElem?_eq_getElem h,List.foldl_append]; rfl

abbrev hpV (f : Fo) (s : List Bool × List Int) : Heap :=
 [(2,.tok 1 s.2.length),(1,.arr 1 (f.vars.toNat + f.nodes.length) (s.1.map .bool)),(0,.box (.ag [f.av,.sl 1 (s.2.map (.int .i64)) (.own 2),.ms 1 0 (f.vars.toNat + f.nodes.length) (f.vars.toNat + f.nodes.length) 1]))]

theorem ZN (f : Fo) (h : xY f) : ∀ (n : Nat) (a : Int) (s : List Bool × List Int),Yn f.vars.toNat f.nodes.length s -> 0 <= a -> a < ((f.vars.toNat + f.nodes.length : Nat) : Int) -> a < (n : Int) ->
  aA Tryz.prog 224 [.ptr 0 [] 0,.int .i64 a] (hpV f s) (.eG []) (hpV f (Di f.vars.toNat f.nodes n a s)):=by
 intro n
 induction n with
 | zero=>intro a s _ h0 _ h1; omega
 | succ n ih =>
   intro a s hs h0 h1 han
   have hlen:=hs.len
   have hsh:=hs.short
   have hw:=h.args
   have hal : ∀ i,i < f.nodes.length -> (argsAt f.nodes i).length <= 16:=fun i hi=>by
    have hal:=(h.nodes i hi).num
    have e : argsAt f.nodes i = f.nodes[i].args:=by unfold argsAt; rw [List.getD_eq_getElem?_getD,List.getElem?_eq_getElem hi]; rfl
    rw [e]
    split at hal
    ·omega
    ·split at hal <;> omega
   obtain ⟨g1,g2,g3,g4⟩:=h
   refine aA.intro lay mixed Tryz.func224 (by kernel_rfl) rfl (by kernel_rfl) rfl fun hok=>?_
   (try dsimp only[aZ,aN]);(try dsimp only[aj]);conv=>whnf
   refine ⟨⟨h0,h1⟩,?_⟩
   (try dsimp only[aj]);conv=>whnf
   rw [Nat.zero_add]
   refine dQ false ⟨by omega,by omega⟩ ?_
   (try dsimp only[aj]);conv=>whnf
   refine ⟨rfl,?_⟩
   (try dsimp only[aj]);conv=>whnf
   rw [Int.toNat_natCast]
   refine And.intro (fun g=>?_) (fun g=>?_)
   ·rw [show Di f.vars.toNat f.nodes (n + 1) a s = s from if_pos g]
    (try dsimp only[aj]);conv=>whnf
    refine ⟨⟨_,_,.refl _ _,?_⟩⟩
    conv=>whnf
    refine ⟨?_,rfl,by simp [nextId],.mk ?_ (by simp [ay])⟩
    ·all_goals exact wk
    ·all_goals exact wk
   have hm : ¬ s.1.getD a.toNat false = true:=by rw [g]; simp
   have hmk:=hs.mark h0 h1 hm
   (try dsimp only[aj]);conv=>whnf
   refine ⟨⟨h0,h1⟩,?_⟩
   (try dsimp only[aj]);conv=>whnf
   refine ⟨by rw [List.length_map]; omega,rfl,?_⟩
   (try dsimp only[aj]);conv=>whnf
   refine And.intro (fun g5=>?_) (fun g5=>?_)
   ·have g5' : a < (f.vars.toNat : Int):=by omega
    rw [show Di f.vars.toNat f.nodes (n + 1) a s = (s.1.set a.toNat true,s.2 ++ [a]) from (if_neg hm).trans (if_pos g5')]
    (try dsimp only[aj]);conv=>whnf
    refine ⟨by rw [List.length_map],.mk (by simp [maxL]; omega) (by simp; omega) ?_⟩
    (try dsimp only[aj]);conv=>whnf
    refine ⟨⟨_,_,.refl _ _,?_⟩⟩
    conv=>whnf
    refine ⟨?_,rfl,by simp [nextId],.mk ?_ (by simp [ay])⟩
    ·all_goals exact wk
    ·repeat' first|exact rfl|exact trivial|exact wR|exact lR _|apply aI
     all_goals first | (simp; done) | (rw [Nat.zero_add]; refine rD ?_ _ _; first | exact rfl | (show _ ↔ _; simp)) | (show dK _ (List.map _ (_ ++ [_])); rw [List.map_append]; exact aB _)
   have g5' : ¬ a < (f.vars.toNat : Int):=by omega
   rw [if_neg g5'] at hmk
   have hwa:=hw (a.toNat - f.vars.toNat) (by omega)
   have han':=hal (a.toNat - f.vars.toNat) (by omega)
   rw [show Di f.vars.toNat f.nodes (n + 1) a s = (argsAt f.nodes (a.toNat - f.vars.toNat)).foldl (fun s b=>Di f.vars.toNat f.nodes n b s) (s.1.set a.toNat true,s.2) from (if_neg hm).trans (if_neg g5')]
   have hinv : ∀ j,j <= (argsAt f.nodes (a.toNat - f.vars.toNat)).length -> Yn f.vars.toNat f.nodes.length (((argsAt f.nodes (a.toNat - f.vars.toNat)).take j).foldl (fun s b=>Di f.vars.toNat f.nodes n b s) (s.1.set a.toNat true,s.2)):=by
    intro j
    induction j with
    | zero=>intro _; exact hmk
    | succ j ihj =>
      intro hj
      rw [Jc _ _ (show j < (argsAt f.nodes (a.toNat - f.vars.toNat)).length by omega)]
      have:=hwa _ (List.getElem_mem (show j < (argsAt f.nodes (a.toNat - f.vars.toNat)).length by omega))
      exact Eb hw n _ _ (ihj (by omega)) this.1 (by omega)
   (try dsimp only[aj]);conv=>whnf
   refine aS.auto (by kernel_rfl) ?_;conv=>whnf
   refine ⟨bC (by omega) (by omega),?_⟩
   conv=>whnf
   refine dQ default ⟨by omega,by omega⟩ ?_
   rw [show (a - f.vars).toNat = a.toNat - f.vars.toNat by omega]
   conv=>whnf
   rw [show (f.nodes.getD (a.toNat - f.vars.toNat) default).args = argsAt f.nodes (a.toNat - f.vars.toNat) from rfl]
   generalize argsAt f.nodes (a.toNat - f.vars.toNat) = args at *
   refine aK.of <| (aC.inv (.refl _ _) (fun k : Nat=>k <= args.length) (fun k=>[(52,.int .i64 k)]) (fun k=>hpV f ((args.take k).foldl (fun s b=>Di f.vars.toNat f.nodes n b s) (s.1.set a.toNat true,s.2))) (fun k=>args.length - k) 0 (Nat.zero_le _) ?_ ?_ ?_)
   ·exact fun _=>rfl
   ·refine ⟨?_,.mk ?_ (by simp [ay])⟩
    ·all_goals exact wk
    ·repeat' first|exact rfl|exact trivial|exact wR|exact lR _|apply aI
     all_goals first | (rw [Nat.zero_add]; refine rD ?_ _ _; first | exact rfl | (show _ ↔ _; simp)) | skip
   intro k hk _
   have hik:=hinv k hk
   (try dsimp only[aj]);conv=>whnf
   refine And.intro (fun g6=>?_) (fun g6=>?_)
   ·have hlt : k < args.length:=by simpa using g6
    have hb:=hwa _ (List.getElem_mem hlt)
    have q:=ih (args[k]) _ hik hb.1 (by omega) (by omega)
    rw [<- Jc (fun s b=>Di f.vars.toNat f.nodes n b s) _ hlt] at q
    (try dsimp only[aj]);conv=>whnf
    refine jq hlt ?_
    (try dsimp only[aj]);conv=>whnf
    refine .gen _ _ q fun _=>?_
    (try dsimp only[aj]);conv=>whnf
    refine zA ?_;conv=>whnf
    refine ⟨k + 1,?_,?_,?_⟩
    ·exact hlt
    ·refine ⟨?_,.mk ?_ (by simp [ay])⟩
     ·all_goals exact wk
     ·all_goals exact wk
    ·omega
   ·have hk : k = args.length:=by (have : ¬ k < args.length:=by simpa using g6); omega
    subst hk
    rw [List.take_length]
    (try dsimp only[aj]);conv=>whnf
    refine ⟨⟨_,_,.refl _ _,?_⟩⟩
    conv=>whnf
    refine ⟨?_,rfl,by simp [nextId],.mk ?_ (by simp [ay])⟩
    ·all_goals exact wk
    ·all_goals exact wk

def rJ (_ : Nat) (s : List Bool × List Int) (k : Nat) : List Int:=s.2 ++ ((List.range k).filter fun i=>!s.1.getD i false).map fun i : Nat=>(i : Int)

theorem Uy (v : Nat) (s : List Bool × List Int) (k : Nat) : rJ v s (k + 1) = if s.1.getD k false = true then rJ v s k else rJ v s k ++ [(k : Int)]:=by
 unfold rJ
 rw [List.range_succ,List.filter_append]
 cases h : s.1.getD k false with
 | true =>
   have h' : s.1[k]?.getD false = true:=by simpa using h
   simp [h']
 | false =>
   have h' : s.1[k]?.getD false = false:=by simpa using h
   simp [h']

theorem Uz {v m : Nat} {s : List Bool × List Int} (h : Yn v m s) : uJ (rJ v s v) v:=by
 have hmem : ∀ i : Nat,i < v -> (i : Int) ∈ rJ v s v:=fun i hi=>by
  unfold rJ
  by_cases hs : s.1.getD i false = true
  ·exact List.mem_append.2 (.inl (h.all i hi hs))
  ·refine List.mem_append.2 (.inr (List.mem_map.2 ⟨i,List.mem_filter.2 ⟨List.mem_range.2 hi,?_⟩,rfl⟩))
   simpa using hs
 have hr : ∀ x ∈ rJ v s v,0 <= x /\ x < (v : Int):=fun x hx=>by
  unfold rJ at hx
  rcases List.mem_append.1 hx with hx | hx
  ·exact ⟨(h.ev x hx).1,(h.ev x hx).2.1⟩
  ·obtain ⟨i,hi,rfl⟩:=List.mem_map.1 hx
   have:=List.mem_range.1 (List.mem_filter.1 hi).1
   omega
 have hn : (rJ v s v).Nodup:=by
  unfold rJ
  refine List.nodup_append.2 ⟨h.nd,?_,fun x hx y hy e=>?_⟩
  ·refine List.Pairwise.map _ (R:=(· ≠ ·)) (fun a b hab e=>hab (by omega)) ?_
   exact List.Pairwise.filter _ List.nodup_range
  ·obtain ⟨i,hi,rfl⟩:=List.mem_map.1 hy
   have h1:=(List.mem_filter.1 hi).2
   subst e
   have:=(h.ev _ hx).2.2
   rw [Int.toNat_natCast] at this
   rw [this] at h1
   cases h1
 refine ⟨Nat.le_antisymm ?_ ?_,hr,hn⟩
 ·have:=qZ (l:=rJ v s v) (u:=(List.range v).map (fun k : Nat=>(k : Int))) hn (fun x hx=>by
   have:=hr x hx
   exact List.mem_map.2 ⟨x.toNat,List.mem_range.2 (by omega),by omega⟩)
  simpa using this
 ·have:=qZ (l:=(List.range v).map (fun k : Nat=>(k : Int))) (u:=rJ v s v) (by
   refine List.Pairwise.map _ (R:=(· ≠ ·)) (fun a b hab e=>hab (by omega)) List.nodup_range) (fun x hx=>by
   obtain ⟨i,hi,rfl⟩:=List.mem_map.1 hx
   exact hmem i (List.mem_range.1 hi))
  simpa using this

def XB (f : Fo) : List Bool × List Int:=Di f.vars.toNat f.nodes (f.top.toNat + 1) f.top (List.replicate (f.vars.toNat + f.nodes.length) false,[])
def Ux (f : Fo) : List Int:=rJ f.vars.toNat (XB f) f.vars.toNat

theorem NQ (f : Fo) (h : xY f) : Yn f.vars.toNat f.nodes.length (XB f):=by
 have h4:=h.top
 have h1:=h.vars
 refine Eb h.args _ _ _ ⟨by simp,fun e he=>(by cases he),List.nodup_nil,fun i hi hs=>?_⟩ h4.1 (by omega)
 rw [List.getD_eq_getElem?_getD,List.getElem?_replicate] at hs
 split at hs <;> cases hs

theorem XY (f : Fo) (h : xY f) : aA Tryz.prog 125 [f.av] [] (.eG [iL (Ux f),.sl 1 ((XB f).1.map .bool) .no]) []:=by
 have hs:=NQ f h
 have h1:=h.vars
 have h4:=h.top
 have c : aA Tryz.prog 224 [.ptr 0 [] 0,.int .i64 f.top] (hpV f (List.replicate (f.vars.toNat + f.nodes.length) false,[])) (.eG []) (hpV f (XB f)):=ZN f h (f.top.toNat + 1) f.top (List.replicate (f.vars.toNat + f.nodes.length) false,[]) ⟨by simp,fun e he=>(by cases he),List.nodup_nil,fun i hi hs=>by
  rw [List.getD_eq_getElem?_getD,List.getElem?_replicate] at hs
  split at hs <;> cases hs⟩ h4.1 (by omega) (by omega)
 unfold Ux
 generalize XB f = s at *
 obtain ⟨g1,g2,g3,g4⟩:=h
 refine aA.intro lay mixed Tryz.func125 (by kernel_rfl) rfl (by kernel_rfl) rfl fun hok=>?_
 (try dsimp only[aZ,aN]);(try dsimp only[aj]);conv=>whnf
 refine aS.PU [0] ?_
 conv=>whnf
 refine And.intro ⟨rfl,rfl⟩ ?_
 conv=>whnf
 refine ⟨[true,true,true,true,true,true,true,false,true,false,true],by kernel_rfl,?_⟩
 conv=>whnf
 rw [List.length_map]
 refine ⟨bC (by omega) (by omega),?_⟩
 conv=>whnf
 rw [show f.vars + (f.nodes.length : Int) = ((f.vars.toNat + f.nodes.length : Nat) : Int) by omega]
 refine ⟨⟨by omega,Int.le_refl _,by show ((f.vars.toNat + f.nodes.length : Nat) : Int) * ((1 : Nat) : Int) <= 281474976710656; omega,by omega⟩,.wr ?_⟩
 rw [Int.toNat_natCast]
 conv=>whnf
 refine .gen _ _ (aA.pre (.I9 2 [1] 1 [] (.ag [f.av,.aG,.ms 1 0 (f.vars.toNat + f.nodes.length) (f.vars.toNat + f.nodes.length) 1]) .aG _ rfl rfl (.inl ⟨rfl,rfl⟩) rfl (.refl _ _)) (aA.frame [2,1,3] c ⟨rfl,rfl,rfl,rfl⟩ ?_ ?_)) fun _=>?_
 ·repeat' first|exact rfl|exact trivial|exact wR|exact lR _|apply aI
  all_goals first | (show dK (List.replicate _ AV.ff) (List.map _ (List.replicate _ false)); exact J7 _) | skip
 ·all_goals exact wk
 have hsl:=hs.len
 have hss:=hs.short
 have hdl : ∀ k,k <= f.vars.toNat -> (rJ f.vars.toNat s k).length <= 48:=fun k hk=>by
  unfold rJ
  rw [List.length_append,List.length_map]
  have:=List.length_filter_le (fun i=>!s.1.getD i false) (List.range k)
  rw [List.length_range] at this
  omega
 (try dsimp only[aj]);conv=>whnf
 refine aK.of <| (aC.inv (.refl _ _) (fun k : Nat=>k <= f.vars.toNat) (fun k=>[(22,.int .i64 k)]) (fun k=>[(3,.tok 1 (rJ f.vars.toNat s k).length),(2,.box (.ag [f.av,.sl 1 ((rJ f.vars.toNat s k).map (.int .i64)) (.own 3),.ms 1 0 (f.vars.toNat + f.nodes.length) (f.vars.toNat + f.nodes.length) 1])),(1,.arr 1 (f.vars.toNat + f.nodes.length) (s.1.map .bool)),(0,.gone)]) (fun k=>f.vars.toNat - k) 0 (Nat.zero_le _) ?_ ?_ ?_)
 ·exact fun _=>rfl
 ·refine ⟨?_,.mk ?_ (by simp [ay])⟩
  ·all_goals exact wk
  ·repeat' first|exact rfl|exact trivial|exact wR|exact lR _|apply aI
   all_goals first | (show dK _ (List.map _ (s.2 ++ [])); rw [List.append_nil]; exact aB _) | (unfold rJ; simp; done) | skip
 intro k hk _
 have hdk:=hdl k hk
 have hds:=Uy f.vars.toNat s k
 (try dsimp only[aj]);conv=>whnf
 refine And.intro (fun g=>?_) (fun g=>?_)
 ·have hlt : k < f.vars.toNat:=by omega
  generalize rJ f.vars.toNat s k = d at *
  (try dsimp only[aj]);conv=>whnf
  refine ⟨⟨by omega,by omega⟩,?_⟩
  (try dsimp only[aj]);conv=>whnf
  rw [Nat.zero_add]
  refine dQ false ⟨by omega,by omega⟩ ?_
  rw [Int.toNat_natCast]
  (try dsimp only[aj]);conv=>whnf
  refine ⟨rfl,?_⟩
  (try dsimp only[aj]);conv=>whnf
  refine And.intro (fun g2=>?_) (fun g2=>?_)
  ·have g2' : s.1.getD k false = false:=by
    cases h : s.1.getD k false with
    | false=>rfl
    | true=>rw [Int.toNat_natCast,h] at g2; cases g2
   rw [if_neg (by rw [g2']; simp)] at hds
   (try dsimp only[aj]);conv=>whnf
   refine ⟨by rw [List.length_map],.mk (by simp [maxL]; omega) (by simp; omega) ?_⟩
   (try dsimp only[aj]);conv=>whnf
   refine zA ?_;conv=>whnf
   refine ⟨k + 1,?_,?_,?_⟩
   ·exact hlt
   ·rw [hds]
    refine ⟨?_,.mk ?_ (by simp [ay])⟩
    ·all_goals exact wk
    ·repeat' first|exact rfl|exact trivial|exact wR|exact lR _|apply aI
     all_goals first | (simp; done) | (show dK _ (List.map _ (_ ++ [_])); rw [List.map_append]; exact aB _)
   ·omega
  ·have g2' : s.1.getD k false = true:=by
    cases h : s.1.getD k false with
    | true=>rfl
    | false=>rw [Int.toNat_natCast,h] at g2; cases g2
   rw [if_pos g2'] at hds
   (try dsimp only[aj]);conv=>whnf
   refine zA ?_;conv=>whnf
   refine ⟨k + 1,?_,?_,?_⟩
   ·exact hlt
   ·rw [hds]
    refine ⟨?_,.mk ?_ (by simp [ay])⟩
    ·all_goals exact wk
    ·all_goals exact wk
   ·omega
 ·have hk : k = f.vars.toNat:=by omega
  subst hk
  (try dsimp only[aj]);conv=>whnf
  refine aS.auto (by kernel_rfl) ?_;conv=>whnf
  refine ⟨⟨_,_,.freeze 3 1 _ _ _ _ _ _ rfl rfl ?_ (.refl _ _),?_⟩⟩
  ·rw [List.length_map]; omega
  conv=>whnf
  refine ⟨?_,rfl,by simp [nextId],.mk ?_ (by simp [ay])⟩
  ·repeat' first|exact rfl|exact trivial|exact wR|exact lR _|apply aI
   all_goals first | (refine aY ?_; rw [List.drop_zero,List.take_of_length_le (by rw [List.length_map]; omega)]) | skip
  ·all_goals exact wk

theorem Og (f : Fo) (h : xY f) : aA Tryz.prog 49 [f.av] [] (.eG [iL (Ux f),.eP]) []:=by
 have cc:=vM f h
 have cd:=XY f h
 refine aA.intro lay mixed Tryz.func49 (by kernel_rfl) rfl (by kernel_rfl) rfl fun hok=>?_
 (try dsimp only[aZ,aN]);(try dsimp only[aj]);conv=>whnf
 refine .pure _ _ ?_ ⟨rfl,rfl⟩ cc fun _=>?_
 ·exact ak _
 (try dsimp only[aj]);conv=>whnf
 refine .pure _ _ ?_ ⟨rfl,rfl⟩ cd fun _=>?_
 ·exact ak _
 (try dsimp only[aj]);conv=>whnf
 refine fM ?_;(conv=>whnf);refine ⟨?_,rfl⟩;conv=>whnf
 all_goals exact wk

theorem Ji (f : Fo) (h : xY f) : uJ (Ux f) f.vars.toNat:=Uz (NQ f h)
end S
