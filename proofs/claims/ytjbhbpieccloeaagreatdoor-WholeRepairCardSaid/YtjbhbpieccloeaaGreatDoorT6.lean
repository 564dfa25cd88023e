/-
  Contracts of functions of the program, over the logic of the texts before. Nothing is assumed.
-/
import Derived.Test.YtjbhbpieccloeaaGreatDoorT5

open Go Go.AL Go.Proofs
namespace S
set_option maxRecDepth 100000

theorem Ol {v : Nat} {l : List Nd} {d : List Bool} : ∀ {k i : Nat},k <= l.length -> ∀ h : i < l.length,i < k -> d.getD (v + i) false = true -> ∃ y,y ∈ (I7 v l d k).2 /\ y.kind = l[i].kind
 | 0,_,_,_,h,_=>absurd h (Nat.not_lt_zero _)
 | k + 1,i,hk,h,hik,hd=>by
   unfold I7
   by_cases e : i = k
   ·subst e
    rw [if_pos hd]
    refine ⟨Jl (I7 v l d i).1 (l.getD i default),by simp,?_⟩
    show (l.getD i default).kind = _
    rw [List.getD_eq_getElem?_getD,List.getElem?_eq_getElem h]; rfl
   ·obtain ⟨y,hy,hyk⟩:=Ol (v:=v) (d:=d) (k:=k) (by omega) h (by omega) hd
    split
    ·exact ⟨y,by simp [hy],hyk⟩
    ·exact ⟨y,hy,hyk⟩

theorem Us {f : Fo} (h : su f) (hc : qY f = true) {i : Nat} (hi : i < f.nodes.length) (hb : Y9 f.vars.toNat f.nodes f.top.toNat (f.vars.toNat + i)) :
  f.nodes[i].kind = 0 \/ f.nodes[i].kind = 2 \/ f.nodes[i].kind = 3 \/ f.nodes[i].kind = 4:=by
 have h1:=h.vars
 have h4:=h.top
 have hd:=(Eb (v:=f.vars.toNat) (l:=f.nodes) (top:=f.top.toNat) (by omega) h.args (f.vars.toNat + i)).2 hb
 obtain ⟨y,hy,hyk⟩:=Ol (v:=f.vars.toNat) (d:=Ba f) (Nat.le_refl f.nodes.length) hi hi hd
 unfold qY at hc
 rw [Bool.not_eq_true',List.any_eq_false] at hc
 have hy2:=hc y hy
 have nk:=(h.nodes i hi).kind
 unfold kZ at hy2
 simp at hy2
 omega

theorem gI {x i j : Nat} (h : x < 2 ^ i) (hij : i <= j) : x.testBit j = false :=
 Nat.testBit_lt_two_pow (Nat.lt_of_lt_of_le h (Nat.pow_le_pow_right (by decide) hij))

def yw (tv : Nat -> Bool) (args : List Int) : Nat:=args.countP fun a=>tv a.toNat

structure TV (f : Fo) (tv : Nat -> Bool) : Prop where
 nd : ∀ (i : Nat) (h : i < f.nodes.length),tv (f.vars.toNat + i) = lU f.nodes[i] (yw tv f.nodes[i].args)

theorem y5 {a b : Nat} (ha : a < 2 ^ 63) (h : aJ a b = 0) {i : Nat} (hi : a.testBit i = true) : b.testBit i = true:=by
 have h1 : (aJ a b).testBit i = false:=by rw [h]; exact Nat.zero_testBit i
 rw [jg (by omega),hi] at h1
 simpa using h1




theorem Ns (V : List Bool) (args : List Int) : qo V args = yw (fun i=>V.getD i false) args:=by
 have key : ∀ (args : List Int) (n : Nat),args.foldl (fun n a=>if V.getD a.toNat false = true then n + 1 else n) n = n + args.countP fun a=>V.getD a.toNat false:=by
  intro args
  induction args with
  | nil=>intro n; simp
  | cons a l ih =>
    intro n
    rw [List.foldl_cons,ih,List.countP_cons]
    split <;> omega
 unfold qo yw
 rw [key]; simp

theorem WT (l0 : List Bool) (nodes : List Nd) {k : Nat} (hk : k < nodes.length) {args : List Int} (ha : ∀ a,a ∈ args -> 0 <= a /\ a < (l0.length : Int) + k) : qo (dS l0 (nodes.take k)) args = qo (dS l0 nodes) args:=by
 have:=DL (u:=dS l0 (nodes.take k)) (w:=dS l0 nodes) (f:=fun a=>a) (args:=args) fun a h=>BO l0 nodes (by have:=ha a h; omega) (by omega)
 rwa [List.map_id'] at this

theorem G8 {f : Fo} (h : su f) {l0 : List Bool} (hl : l0.length = f.vars.toNat) : TV f (fun i=>(dS l0 f.nodes).getD i false):=by
 refine ⟨fun i hi=>?_⟩
 have hv:=h.vars
 have nk:=h.nodes i hi
 have h1:=BP l0 f.nodes hi
 rw [hl] at h1
 rw [h1,WT l0 f.nodes hi fun a ha=>by have:=nk.args a ha; omega,Ns]

theorem Og {l0 : List Bool} {nodes : List Nd} {j : Nat} (hj : j < l0.length) : (dS l0 nodes).getD j false = l0.getD j false:=by
 have:=kL l0 [] nodes (j:=j) (by simp; omega)
 rw [List.nil_append] at this
 exact this

def jU (l : List Int) (w : Nat) : Prop:=∃ x,x ∈ l /\ lq x (w : Int) = true

theorem VP {x y : Int} {w : Nat} (hx : 0 <= x /\ x <= 16777215) (hy : 0 <= y /\ y <= 16777215) (h : lq y x = true) (g : lq x (w : Int) = true) : lq y (w : Int) = true:=by
 obtain ⟨a,rfl⟩ : ∃ n : Nat,x = n:=⟨x.toNat,by omega⟩
 obtain ⟨b,rfl⟩ : ∃ n : Nat,y = n:=⟨y.toNat,by omega⟩
 rw [jy (by omega)] at h g ⊢
 exact fun i hi hb=>g i hi (h i hi hb)

theorem Bo {l m : List Int} {w : Nat} (h : Bd l m) (hl : ∀ x,x ∈ l -> 0 <= x /\ x <= 16777215) : jU m w ↔ jU l w:=by
 constructor
 ·rintro ⟨x,hx,hs⟩; exact ⟨x,h.sub x hx,hs⟩
 ·rintro ⟨x,hx,hs⟩
  obtain ⟨y,hy,hyx⟩:=h.cov x hx
  exact ⟨y,hy,VP (hl x hx) (hl y (h.sub y hy)) hyx hs⟩

theorem Sj {x y : Int} {w : Nat} (hx : 0 <= x /\ x <= 16777215) (hy : 0 <= y /\ y <= 16777215) : lq (I8 x y) (w : Int) = true ↔ lq x (w : Int) = true /\ lq y (w : Int) = true:=by
 obtain ⟨a,rfl⟩ : ∃ n : Nat,x = n:=⟨x.toNat,by omega⟩
 obtain ⟨b,rfl⟩ : ∃ n : Nat,y = n:=⟨y.toNat,by omega⟩
 have hor : a ||| b < 2 ^ 24:=Nat.or_lt_two_pow (by omega) (by omega)
 rw [Hu (by omega) (by omega),jy (by omega),jy (by omega),jy (by omega)]
 constructor
 ·intro h
  refine ⟨fun i hi hb=>h i hi ?_,fun i hi hb=>h i hi ?_⟩
  ·rw [Nat.testBit_or,hb]; rfl
  ·rw [Nat.testBit_or,hb,Bool.or_true]
 ·rintro ⟨h1,h2⟩ i hi hb
  rw [Nat.testBit_or,Bool.or_eq_true] at hb
  rcases hb with hb | hb
  ·exact h1 i hi hb
  ·exact h2 i hi hb

theorem KC {a b m : List Int} {w : Nat} (h : yK a b m) (ha : bQ a) (hb : bQ b) : jU m w ↔ jU a w \/ jU b w:=by
 rw [Bo h.min fun x hx=>(List.mem_append.1 hx).elim (ha.val x) (hb.val x)]
 unfold jU
 simp only [List.mem_append,or_and_right,exists_or]

theorem KA {a b m : List Int} {w : Nat} (h : qC a b m) (ha : bQ a) (hb : bQ b) : jU m w ↔ jU a w /\ jU b w:=by
 obtain ⟨a',b',h1,h2,h3⟩:=h.ex
 have ra : ∀ x,x ∈ a' -> 0 <= x /\ x <= 16777215:=fun x hx=>ha.val x (h1.sub x hx)
 have rb : ∀ x,x ∈ b' -> 0 <= x /\ x <= 16777215:=fun x hx=>hb.val x (h2.sub x hx)
 rw [Bo h3 fun u hu=>by obtain ⟨x,hx,y,hy,rfl⟩:=lS.1 hu; exact OD (ra x hx) (rb y hy),<- Bo h1 ha.val,<- Bo h2 hb.val]
 constructor
 ·rintro ⟨u,hu,hs⟩
  obtain ⟨x,hx,y,hy,rfl⟩:=lS.1 hu
  have:=(Sj (ra x hx) (rb y hy)).1 hs
  exact ⟨⟨x,hx,this.1⟩,⟨y,hy,this.2⟩⟩
 ·rintro ⟨⟨x,hx,h1⟩,⟨y,hy,h2⟩⟩
  exact ⟨I8 x y,lS.2 ⟨x,hx,y,hy,rfl⟩,(Sj (ra x hx) (rb y hy)).2 ⟨h1,h2⟩⟩

theorem yu {w : Nat} : jU [0] w:=⟨0,by simp,(jy (a:=0) (by omega)).2 fun i _ h=>by rw [Nat.zero_testBit] at h; cases h⟩
theorem Iq {w : Nat} : ¬ jU [] w:=by rintro ⟨_,h,_⟩; cases h

theorem DN {w : Nat} : ∀ {args : List (List Int)} {o m : List Int},kD qC o args m -> bQ o -> (∀ a,a ∈ args -> bQ a) -> (jU m w ↔ jU o w /\ ∀ a,a ∈ args -> jU a w)
 | [],o,m,h,_,_=>by obtain rfl:=h; simp
 | a :: l,o,m,⟨o',h1,h2⟩,ho,ha=>by
   have hao:=ha a (by simp)
   rw [DN h2 (uD h1 ho hao) fun b hb=>ha b (by simp [hb]),KA h1 ho hao]
   simp [and_assoc]

theorem Gs {w : Nat} : ∀ {args : List (List Int)} {o m : List Int},kD yK o args m -> bQ o -> (∀ a,a ∈ args -> bQ a) -> (jU m w ↔ jU o w \/ ∃ a,a ∈ args /\ jU a w)
 | [],o,m,h,_,_=>by obtain rfl:=h; simp
 | a :: l,o,m,⟨o',h1,h2⟩,ho,ha=>by
   have hao:=ha a (by simp)
   rw [Gs h2 (Bg h1 ho hao) fun b hb=>ha b (by simp [hb]),KC h1 ho hao]
   simp [or_assoc]

open Classical in
theorem RQ {w m : Nat} {V X : List (List Int)} {args : List (List Int)} (h : Eo V args X) (hV : V = pW m) (ha : ∀ a,a ∈ args -> bQ a) :
  X.length = m + 1 /\ ∀ k,k <= m -> bQ (X.getD k []) /\ (jU (X.getD k []) w ↔ k <= args.countP fun a=>decide (jU a w)):=by
 induction h with
 | nil =>
   subst hV
   refine ⟨by simp [pW],fun k hk=>?_⟩
   cases k with
   | zero=>exact ⟨o8 (by omega),by simp [pW,yu]⟩
   | succ k =>
     have : (pW m).getD (k + 1) [] = []:=by
      unfold pW
      rw [List.getD_eq_getElem?_getD,List.getElem?_cons_succ,List.getElem?_replicate]
      split <;> rfl
     rw [this]
     exact ⟨xW,by simp [Iq]⟩
 | snoc h g ih =>
   rename_i W X l a
   obtain ⟨i1,i2⟩:=ih fun b hb=>ha b (by simp [hb])
   have hao:=ha a (by simp)
   refine ⟨by rw [g.len,i1],fun k hk=>?_⟩
   rw [List.countP_append]
   have hc : [a].countP (fun a=>decide (jU a w)) = if jU a w then 1 else 0:=by
    rw [List.countP_cons]; simp
   rw [hc]
   cases k with
   | zero=>rw [g.old 0 (Nat.le_refl _)]; exact ⟨(i2 0 (by omega)).1,by have:=(i2 0 (by omega)).2; simp at this ⊢; exact this⟩
   | succ k =>
     obtain ⟨p,h1,h2⟩:=g.new (k + 1) (by omega) (by omega)
     rw [Nat.add_sub_cancel] at h1
     obtain ⟨f1,c1⟩:=i2 k (by omega)
     obtain ⟨f2,c2⟩:=i2 (k + 1) hk
     have fp:=uD h1 f1 hao
     refine ⟨Bg h2 f2 fp,?_⟩
     rw [KC h2 f2 fp,KA h1 f1 hao,c1,c2]
     by_cases hw : jU a w
     ·simp only [hw,if_true,and_true]; omega
     ·simp only [hw,if_false,and_false,or_false]; omega

def Yc (v s : Nat) : Nat:=2 ^ v - 1 - s

theorem LW {v s i : Nat} (hs : s < 2 ^ v) (hi : i < v) : (Yc v s).testBit i = !s.testBit i:=by
 unfold Yc
 have:=Nat.testBit_two_pow_sub_succ hs i
 rw [show 2 ^ v - 1 - s = 2 ^ v - (s + 1) by omega,this]
 simp [hi]

theorem WR {w i : Nat} (hi : i < 24) : jU [((2 ^ i : Nat) : Int)] w ↔ w.testBit i = true:=by
 have h2 : 2 ^ i < 2 ^ 24:=Nat.pow_lt_pow_right (by decide) hi
 unfold jU
 simp only [List.mem_singleton,exists_eq_left]
 rw [jy (by omega)]
 constructor
 ·intro h; exact h i hi (Nat.testBit_two_pow_self)
 ·intro h j _ hb
  rw [Nat.testBit_two_pow,decide_eq_true_eq] at hb
  rw [<- hb]; exact h

theorem y8 {l : List (List Int)} {args : List Int} {P : List Int -> Prop} : (∀ a,a ∈ (args.map fun a=>l.getD a.toNat []) -> P a) ↔ ∀ a,a ∈ args -> P (l.getD a.toNat []):=by
 constructor
 ·intro h a ha; exact h _ (List.mem_map.2 ⟨a,ha,rfl⟩)
 ·intro h a ha
  obtain ⟨b,hb,rfl⟩:=List.mem_map.1 ha
  exact h b hb

open Classical in
theorem SK {t : Fo} (h : su t) (hk : ∀ (i : Nat) (hi : i < t.nodes.length),kZ t.nodes[i] = false) {l : List (List Int)} (hl : rG t t.nodes.length l) {s : Nat} (hs : s < 2 ^ t.vars.toNat) :
  ∀ j,j < t.vars.toNat + t.nodes.length -> (jU (l.getD j []) (Yc t.vars.toNat s) ↔ (dS (evs t.vars.toNat s) t.nodes).getD j false = false):=by
 have hv:=h.vars
 have he : (evs t.vars.toNat s).length = t.vars.toNat:=by simp [evs]
 have htv:=G8 h he
 have hfam : ∀ j,j < t.vars.toNat + t.nodes.length -> bQ (l.getD j []):=fun j hj=>by
  have:=hl.len
  rw [List.getD_eq_getElem?_getD,List.getElem?_eq_getElem (by omega)]
  exact hl.ok _ (List.getElem_mem (by omega))
 generalize hw : Yc t.vars.toNat s = w
 intro j
 induction j using Nat.strongRecOn with
 | _ j ih =>
 intro hj
 rcases Nat.lt_or_ge j t.vars.toNat with Na | Na
 ·rw [hl.ev j Na,Og (by rw [he]; exact Na),Kr Na,WR (by omega),<- hw,LW hs Na]
  cases s.testBit j <;> simp
 ·obtain ⟨i,rfl⟩ : ∃ i,j = t.vars.toNat + i:=⟨j - t.vars.toNat,by omega⟩
  have hi : i < t.nodes.length:=by omega
  have nk:=h.nodes i hi
  have nd:=hl.nd i hi hi
  have hkd:=hk i hi
  have hv1 : (dS (evs t.vars.toNat s) t.nodes).getD (t.vars.toNat + i) false = lU t.nodes[i] (yw (fun i=>(dS (evs t.vars.toNat s) t.nodes).getD i false) t.nodes[i].args):=htv.nd i hi
  rw [hv1]
  generalize t.nodes[i] = x at *
  have iha : ∀ a,a ∈ x.args -> (jU (l.getD a.toNat []) w ↔ (dS (evs t.vars.toNat s) t.nodes).getD a.toNat false = false):=fun a ha=>by
   have:=nk.args a ha
   exact ih a.toNat (by omega) (by omega)
  have fa : ∀ a,a ∈ (x.args.map fun a=>l.getD a.toNat []) -> bQ a:=y8.2 fun a ha=>by
   have:=nk.args a ha
   exact hfam _ (by omega)
  generalize l.getD (t.vars.toNat + i) [] = r at *
  generalize dS (evs t.vars.toNat s) t.nodes = V at *
  have hcl : yw (fun i=>V.getD i false) x.args <= x.args.length:=List.countP_le_length
  have hkind : x.kind = 0 \/ x.kind = 2 \/ x.kind = 3 \/ x.kind = 4:=by
   have:=nk.kind
   unfold kZ at hkd
   simp at hkd
   omega
  have nkk:=nk.k
  unfold lU
  rcases hkind with e | e | e | e
  ·rw [nd.c e,e,if_pos rfl]
   rw [if_pos e] at nkk
   rcases nkk with e1 | e1 <;> rw [e1]
   ·simp [yu]
   ·simp [Iq]
  ·rw [e,if_neg (by decide),if_neg (by decide),if_pos rfl,Gs (nd.a e).chain xW fa]
   simp only [Iq,false_or,decide_eq_false_iff_not]
   unfold yw
   rw [List.countP_eq_length]
   constructor
   ·rintro ⟨a,ha,hc⟩ hall
    obtain ⟨b,hb,rfl⟩:=List.mem_map.1 ha
    have:=(iha b hb).1 hc
    have h2 : V.getD b.toNat false = true:=hall b hb
    rw [h2] at this; cases this
   ·intro hn
    refine Classical.byContradiction fun hno=>hn fun b hb=>?_
    cases hvb : V.getD b.toNat false
    ·exact absurd ⟨_,List.mem_map.2 ⟨b,hb,rfl⟩,(iha b hb).2 hvb⟩ hno
    ·exact hvb
  ·rw [e,if_neg (by decide),if_neg (by decide),if_neg (by decide),if_pos rfl,DN (nd.o e).chain (o8 (by omega)) fa]
   simp only [yu,true_and,decide_eq_false_iff_not]
   rw [y8]
   unfold yw
   rw [List.countP_pos_iff]
   constructor
   ·rintro hall ⟨a,ha,hc⟩
    have:=(iha a ha).1 (hall a ha)
    have hc : V.getD a.toNat false = true:=hc
    rw [this] at hc; cases hc
   ·intro hn a ha
    refine (iha a ha).2 ?_
    cases hvb : V.getD a.toNat false
    ·rfl
    ·exact absurd ⟨a,ha,hvb⟩ hn
  ·rw [e,if_neg (by decide),if_neg (by decide),if_neg (by decide),if_neg (by decide),if_pos rfl]
   rw [if_neg (by omega),if_pos e] at nkk
   obtain ⟨X,hX,rfl⟩:=(nd.v e).ex
   obtain ⟨_,hc⟩:=RQ (w:=w) hX rfl fa
   rw [(hc _ (Nat.le_refl _)).2,List.countP_map]
   have hcnt : x.args.countP ((fun a=>decide (jU a w)) ∘ fun a=>l.getD a.toNat []) = x.args.countP fun a=>!V.getD a.toNat false:=by
    refine List.countP_congr fun a ha=>?_
    have:=iha a ha
    simp only [Function.comp,decide_eq_true_eq,Bool.not_eq_true']
    exact this
   rw [hcnt]
   rw [List.length_map]
   have hsum : x.args.countP (fun a=>!V.getD a.toNat false) + yw (fun i=>V.getD i false) x.args = x.args.length:=by
    have e0 : yw (fun i=>V.getD i false) x.args = x.args.countP fun a=>V.getD a.toNat false:=rfl
    rw [e0]
    have:=@List.length_eq_countP_add_countP Int (fun a=>V.getD a.toNat false) x.args
    have h2 : x.args.countP (fun a=>decide ¬(V.getD a.toNat false = true)) = x.args.countP fun a=>!V.getD a.toNat false:=List.countP_congr fun a _=>by simp
    omega
   simp only [decide_eq_false_iff_not]
   omega

theorem Qh {f : Fo} (h : su f) (hc : qY f = true) {m : List Int} (hm : wQ f m) {s : Nat} (hs : s < 2 ^ f.vars.toNat) : jU m (Yc f.vars.toNat s) ↔ (valsF f.vars.toNat s f.nodes).getD f.top.toNat false = false:=by
 obtain ⟨l,hl,rfl⟩:=hm.ex
 obtain ⟨h1,h2⟩:=Bf f h
 have ht:=h1.top
 have hv:=h.vars
 have hbad : ∀ (i : Nat) (hi : i < (trimF f).nodes.length),kZ (trimF f).nodes[i] = false:=fun i hi=>by
  unfold qY at hc
  rw [Bool.not_eq_true',List.any_eq_false] at hc
  have:=hc _ (List.getElem_mem hi)
  simpa using this
 have hv2 : (trimF f).vars = f.vars:=rfl
 have:=SK h1 hbad hl (s:=s) (by rw [hv2]; exact hs) (trimF f).top.toNat (by omega)
 rw [hv2,h2 _ (by simp [evs])] at this
 exact this

theorem KD {p q : Int -> Bool} {l : List Int} (h : ∀ a,a ∈ l -> p a = true -> q a = true) : l.countP p <= l.countP q:=List.countP_mono_left h

theorem Tj {f : Fo} (h : su f) (hc : qY f = true) {s s' : Nat} (hss : ∀ i,i < f.vars.toNat -> s.testBit i = true -> s'.testBit i = true)
  (ht : (valsF f.vars.toNat s f.nodes).getD f.top.toNat false = true) : (valsF f.vars.toNat s' f.nodes).getD f.top.toNat false = true:=by
 have hv:=h.vars
 have htop:=h.top
 have e1 : (evs f.vars.toNat s).length = f.vars.toNat:=by simp [evs]
 have e2 : (evs f.vars.toNat s').length = f.vars.toNat:=by simp [evs]
 have t1:=G8 h e1
 have t2:=G8 h e2
 have ht : (dS (evs f.vars.toNat s) f.nodes).getD f.top.toNat false = true:=ht
 show (dS (evs f.vars.toNat s') f.nodes).getD f.top.toNat false = true
 have key : ∀ j,j < f.vars.toNat + f.nodes.length -> Y9 f.vars.toNat f.nodes f.top.toNat j -> (dS (evs f.vars.toNat s) f.nodes).getD j false = true -> (dS (evs f.vars.toNat s') f.nodes).getD j false = true:=by
  intro j
  induction j using Nat.strongRecOn with
  | _ j ih =>
  intro hj hb hval
  rcases Nat.lt_or_ge j f.vars.toNat with Na | Na
  ·rw [Og (by omega),Kr Na] at hval ⊢
   exact hss j Na hval
  ·obtain ⟨i,rfl⟩ : ∃ i,j = f.vars.toNat + i:=⟨j - f.vars.toNat,by omega⟩
   have hi : i < f.nodes.length:=by omega
   have nk:=h.nodes i hi
   have hkind:=Us h hc hi hb
   have n1 : (dS (evs f.vars.toNat s) f.nodes).getD (f.vars.toNat + i) false = _:=t1.nd i hi
   have n2 : (dS (evs f.vars.toNat s') f.nodes).getD (f.vars.toNat + i) false = _:=t2.nd i hi
   rw [n1] at hval
   rw [n2]
   have hle : yw (fun i=>(dS (evs f.vars.toNat s) f.nodes).getD i false) f.nodes[i].args <= yw (fun i=>(dS (evs f.vars.toNat s') f.nodes).getD i false) f.nodes[i].args:=by
    refine KD fun a ha hp=>?_
    have hab:=nk.args a ha
    refine ih a.toNat (by omega) (by omega) (.step hb hi ?_) hp
    unfold argsAt
    rw [List.getD_eq_getElem?_getD,List.getElem?_eq_getElem hi]; exact ha
   have hcl : yw (fun i=>(dS (evs f.vars.toNat s') f.nodes).getD i false) f.nodes[i].args <= f.nodes[i].args.length:=List.countP_le_length
   generalize f.nodes[i] = x at *
   generalize yw (fun i=>(dS (evs f.vars.toNat s) f.nodes).getD i false) x.args = c1 at *
   generalize yw (fun i=>(dS (evs f.vars.toNat s') f.nodes).getD i false) x.args = c2 at *
   unfold lU at hval ⊢
   rcases hkind with e | e | e | e
   ·rw [if_pos e] at hval ⊢; exact hval
   ·rw [if_neg (by omega),if_neg (by omega),if_pos e,decide_eq_true_eq] at hval ⊢; omega
   ·rw [if_neg (by omega),if_neg (by omega),if_neg (by omega),if_pos e,decide_eq_true_eq] at hval ⊢; omega
   ·rw [if_neg (by omega),if_neg (by omega),if_neg (by omega),if_neg (by omega),if_pos e,decide_eq_true_eq] at hval ⊢; omega
 exact key _ (by omega) .root ht

def vN : Nd:=⟨4,2,[0,1,2]⟩
def vF : Fo:=⟨3,[vN],3⟩

theorem RS : su vF:=by
 refine ⟨by decide,by decide,fun i hi=>?_,by decide⟩
 have hi : i = 0:=by simp [vF] at hi; omega
 subst hi
 show IX 3 0 vN
 exact ⟨by decide,by decide,by decide,by decide⟩


theorem KL : aQ Tryz.prog 16 [] [] vF.av []:=by
 refine aQ.intro lay mixed Tryz.func16 (by kernel_rfl) rfl (by kernel_rfl) rfl fun hok=>?_
 (try dsimp only[aP,aC]);(try dsimp only[aj]);conv=>whnf
 refine ⟨⟨_,_,.refl _ _,?_⟩⟩
 conv=>whnf
 refine ⟨?_,rfl,by simp [nextId],.mk ?_ (by simp [ak])⟩
 ·all_goals exact wk
 ·all_goals exact wk

theorem DX : aQ Tryz.prog 12 [eL] [] .tt []:=by
 have ci : aQ Tryz.prog 10 [eL,.int .i64 4] [] .tt []:=by
  have:=(c_Is 4 4).weak (R':=.tt) (by show decide _ = true; decide)
  rwa [fV (by decide)] at this
 refine aQ.intro lay mixed Tryz.func12 (by kernel_rfl) rfl (by kernel_rfl) rfl fun hok=>?_
 (try dsimp only[aP,aC]);(try dsimp only[aj]);conv=>whnf
 refine .pure _ _ ?_ ⟨rfl,rfl⟩ ci fun _=>?_
 ·exact au _
 (try dsimp only[aj]);conv=>whnf
 refine ⟨⟨_,_,.refl _ _,?_⟩⟩
 conv=>whnf
 refine ⟨?_,rfl,by simp [nextId],.mk ?_ (by simp [ak])⟩
 ·all_goals exact wk
 ·all_goals exact wk

end S

namespace Go.AL

section
variable {P : Program}

theorem aQ.Z7 {f : Nat} {args : List AV} {R : AV} {H G : Heap} {l : List AV} {A : AV} (i sz : Nat) (h1 : args[i]? = some A) (hA : (A = .aV /\ l = []) \/ A = .sl sz l .full)
  (h : aQ P f (args.set i (.sl sz l (.own (nextId H)))) ((nextId H,.tok sz l.length) :: H) R G) : aQ P f args H R G:=by
 refine ⟨h.1,fun c vs hr hv=>?_⟩
 obtain ⟨v,hvi,hAv⟩:=LQ hv h1
 have ha : nN 1 c [(0,A)] { tmps:=#[v],defers:=[] }:=by
  refine ⟨fun t A hA'=>?_,rfl,rfl⟩
  simp only [dL] at hA'
  cases hb : Nat.beq 0 t with
  | true =>
    rw [hb] at hA'
    obtain rfl:=Nat.eq_of_beq_eq_true hb
    obtain rfl:=Option.some.inj hA'
    exact hAv
  | false=>rw [hb] at hA'; cases hA'
 obtain ⟨d,g1,g2,g3⟩:=qF (.grow 0 sz l A rfl hA (.refl _ _)) hr ha
 have hd : EV d (.sl sz l (.own (nextId H))) v:=g3.env 0 _ rfl
 have:=h.2 d vs g2.hr (PV g2.le hv hvi hd)
 rw [g1] at this
 refine this.mono ?_
 rintro e w' ⟨v',d',k1,k2,k3,k4⟩
 exact ⟨v',d',k1,k2,g2.trans k3,k4⟩

end
end Go.AL

open Go Go.AL Go.Proofs
namespace S
set_option maxRecDepth 100000

def c3 (V : List Int) (k : Int) (l : List Int) : Nat:=l.countP fun a=>decide (V.getD a.toNat 0 = k)
def V3 (V : List Int) : Prop:=∀ x ∈ V,0 <= x /\ x <= 2

def N2 (V : List Int) : Prop:=∀ x ∈ V,x ≠ 2


inductive Sp where
 | mk (v : Int) (ks : List Sp) (r : Int)
 deriving Inhabited

mutual
def Sp.av : Sp -> AV
 | .mk v ks r=>.ag [.int .i64 v,.sl 3 (Sp.avL ks) .no,.int .i64 r]
def Sp.avL : List Sp -> List AV
 | []=>[]
 | t :: l=>t.av :: Sp.avL l
end

theorem Sp.Pn : ∀ (l : List Sp),Sp.avL l = l.map Sp.av
 | []=>by simp only [Sp.avL,List.map_nil]
 | t :: l=>by simp only [Sp.avL,List.map_cons]; rw [Sp.Pn l]

theorem Sp.eu (v : Int) (ks : List Sp) (r : Int) : (Sp.mk v ks r).av = .ag [.int .i64 v,.sl 3 (ks.map Sp.av) .no,.int .i64 r]:=by
 simp only [Sp.av]; rw [Sp.Pn]

mutual
def Yj : Sp -> Nat -> Nat
 | .mk _ ks _,n=>VG ks (n + 1)
def VG : List Sp -> Nat -> Nat
 | [],n=>n
 | t :: l,n=>if n <= 600 then VG l (Yj t n) else n
end

theorem Yi (v : Int) (ks : List Sp) (r : Int) (n : Nat) : Yj (.mk v ks r) n = VG ks (n + 1):=by simp only [Yj]
theorem RY (t : Sp) (l : List Sp) (n : Nat) : VG (t :: l) n = if n <= 600 then VG l (Yj t n) else n:=by simp only [VG]
theorem VO (n : Nat) : VG [] n = n:=by simp only [VG]

mutual
theorem VN : ∀ (t : Sp) (n : Nat),n <= 600 -> n < Yj t n /\ Yj t n <= 601
 | .mk _ ks _,n,h=>by
   rw [Yi]
   have:=Oo ks (n + 1) (by omega)
   omega
theorem Oo : ∀ (l : List Sp) (n : Nat),n <= 601 -> n <= VG l n /\ VG l n <= 601
 | [],n,h=>by rw [VO]; omega
 | t :: l,n,h=>by
   rw [RY]
   split
   ·rename_i h6
    have:=VN t n h6
    have:=Oo l (Yj t n) (by omega)
    omega
   ·omega
end

mutual
def fG (vars : Nat) : Sp -> Nat -> Nat -> Nat × Int
 | .mk v ks r,path,n =>
   if 4096 < n + 1 then (n + 1,4)
   else if ks.length ≠ 0 /\ ks.length ≠ 2 then (n + 1,11)
   else if ks.length = 0 then (n + 1,if v ≠ 0 then 2 else 0)
   else if v < 0 \/ (vars : Int) <= v then (n + 1,3)
   else if path.testBit v.toNat = true then (n + 1,6)
   else if r ≠ 0 then (n + 1,2)
   else rU vars ks (path ||| 2 ^ v.toNat) (n + 1)
def rU (vars : Nat) : List Sp -> Nat -> Nat -> Nat × Int
 | [],_,n=>(n,0)
 | t :: l,path,n=>if (fG vars t path n).2 ≠ 0 then fG vars t path n else rU vars l path (fG vars t path n).1
end

theorem lQ (vars : Nat) (v : Int) (ks : List Sp) (r : Int) (path n : Nat) : fG vars (.mk v ks r) path n =
  if 4096 < n + 1 then (n + 1,4)
  else if ks.length ≠ 0 /\ ks.length ≠ 2 then (n + 1,11)
  else if ks.length = 0 then (n + 1,if v ≠ 0 then 2 else 0)
  else if v < 0 \/ (vars : Int) <= v then (n + 1,3)
  else if path.testBit v.toNat = true then (n + 1,6)
  else if r ≠ 0 then (n + 1,2)
  else rU vars ks (path ||| 2 ^ v.toNat) (n + 1):=by simp only [fG]
theorem jv (vars : Nat) (t : Sp) (l : List Sp) (path n : Nat) : rU vars (t :: l) path n = if (fG vars t path n).2 ≠ 0 then fG vars t path n else rU vars l path (fG vars t path n).1:=by simp only [rU]
theorem uo (vars path n : Nat) : rU vars [] path n = (n,0):=by simp only [rU]

def oN (vars : Int) (t : Sp) : Int:=if vars < 0 \/ 24 < vars then 3 else (fG vars.toNat t 0 0).2

inductive yJ (vars : Nat) : Nat -> Sp -> Prop where
 | leaf (path : Nat) (r : Int) : yJ vars path (.mk 0 [] r)
 | node (path v : Nat) (a b : Sp) (hv : v < vars) (hp : path.testBit v = false) (ha : yJ vars (path ||| 2 ^ v) a) (hb : yJ vars (path ||| 2 ^ v) b) : yJ vars path (.mk v [a,b] 0)

mutual
theorem wV (vars : Nat) : ∀ (t : Sp) (path n : Nat),(fG vars t path n).2 = 0 -> yJ vars path t
 | .mk v ks r,path,n,h=>by
   rw [lQ] at h
   split at h
   ·cases h
   split at h
   ·cases h
   rename_i h1 h2
   split at h
   ·rename_i h3
    obtain rfl:=List.length_eq_zero_iff.1 h3
    dsimp only at h
    split at h
    ·cases h
    ·rename_i h4
     obtain rfl : v = 0:=by simpa using h4
     exact .leaf path r
   rename_i h3
   have h2 : ks.length = 2:=by omega
   split at h
   ·cases h
   split at h
   ·cases h
   split at h
   ·cases h
   rename_i h4 h5 h6
   obtain rfl : r = 0:=by simpa using h6
   have hl:=Jg vars ks (path ||| 2 ^ v.toNat) (n + 1) h
   match ks,h2,hl with
   | [a,b],_,hl =>
     have:=yJ.node (vars:=vars) path v.toNat a b (by omega) (by simpa using h5) (hl a (by simp)) (hl b (by simp))
     rw [show ((v.toNat : Nat) : Int) = v by omega] at this
     exact this
theorem Jg (vars : Nat) : ∀ (l : List Sp) (path n : Nat),(rU vars l path n).2 = 0 -> ∀ t ∈ l,yJ vars path t
 | [],_,_,_,t,ht=>by cases ht
 | x :: l,path,n,h,t,ht=>by
   rw [jv] at h
   split at h
   ·contradiction
   ·rename_i h1
    rcases List.mem_cons.1 ht with e | ht
    ·rw [e]; exact wV vars x path n (by simpa using h1)
    ·exact Jg vars l path _ h t ht
end

def oW : Sp -> Nat -> Nat -> List (Nat × Nat × Int)
 | .mk _ [] r,y,n=>[(y,n,r)]
 | .mk v [a,b] _,y,n=>oW a y (n ||| 2 ^ v.toNat) ++ oW b (y ||| 2 ^ v.toNat) n
 | .mk _ _ _,_,_=>[]

structure PX (vars path y n : Nat) : Prop where
 yl : y < 2 ^ vars
 nl : n < 2 ^ vars
 dis : ∀ i,¬ (y.testBit i = true /\ n.testBit i = true)
 Zv : ∀ i,path.testBit i = true ↔ (y.testBit i = true \/ n.testBit i = true)

theorem or_bit (a v i : Nat) : (a ||| 2 ^ v).testBit i = true ↔ a.testBit i = true \/ v = i:=by
 rw [Nat.testBit_or,Nat.testBit_two_pow]
 simp

theorem PX.no {vars path y n : Nat} (h : PX vars path y n) {v : Nat} (hv : v < vars) (hp : path.testBit v = false) : PX vars (path ||| 2 ^ v) y (n ||| 2 ^ v):=by
 refine ⟨h.yl,Nat.or_lt_two_pow h.nl (Nat.pow_lt_pow_right (by decide) hv),fun i hi=>?_,fun i=>?_⟩
 ·rw [or_bit] at hi
  rcases hi with ⟨h1,h2 | rfl⟩
  ·exact h.dis i ⟨h1,h2⟩
  ·have:=(h.Zv v).2 (.inl h1)
   rw [hp] at this; cases this
 ·rw [or_bit,or_bit,h.Zv i,or_assoc]

theorem PX.yes {vars path y n : Nat} (h : PX vars path y n) {v : Nat} (hv : v < vars) (hp : path.testBit v = false) : PX vars (path ||| 2 ^ v) (y ||| 2 ^ v) n:=by
 refine ⟨Nat.or_lt_two_pow h.yl (Nat.pow_lt_pow_right (by decide) hv),h.nl,fun i hi=>?_,fun i=>?_⟩
 ·rw [or_bit] at hi
  rcases hi with ⟨h1 | rfl,h2⟩
  ·exact h.dis i ⟨h1,h2⟩
  ·have:=(h.Zv v).2 (.inr h2)
   rw [hp] at this; cases this
 ·rw [or_bit,or_bit,h.Zv i]
  constructor
  ·rintro ((h | h) | h)
   ·exact .inl (.inl h)
   ·exact .inr h
   ·exact .inl (.inr h)
  ·rintro ((h | h) | h)
   ·exact .inl (.inl h)
   ·exact .inr h
   ·exact .inl (.inr h)

theorem PX.zero (vars : Nat) : PX vars 0 0 0:=⟨Nat.pow_pos (by decide),Nat.pow_pos (by decide),fun i h=>by simp at h,fun i=>by simp⟩

theorem Yw {vars path : Nat} {t : Sp} (h : yJ vars path t) : ∀ {y n : Nat},PX vars path y n -> ∀ x ∈ oW t y n,∃ p,PX vars p x.1 x.2.1:=by
 induction h with
 | leaf path r =>
   intro y n hc x hx
   obtain rfl : x = (y,n,r):=by simpa [oW] using hx
   exact ⟨path,hc⟩
 | node path v a b hv hp _ _ iha ihb =>
   intro y n hc x hx
   rw [oW,Int.toNat_natCast] at hx
   rcases List.mem_append.1 hx with hx | hx
   ·exact iha (hc.no hv hp) x hx
   ·exact ihb (hc.yes hv hp) x hx


mutual
theorem Sp.ind {p : Sp -> Prop} (h : ∀ v ks r,(∀ u ∈ ks,p u) -> p (.mk v ks r)) : ∀ t,p t
 | .mk v ks r=>h v ks r (Sp.ZC h ks)
theorem Sp.ZC {p : Sp -> Prop} (h : ∀ v ks r,(∀ u ∈ ks,p u) -> p (.mk v ks r)) : ∀ (l : List Sp),∀ u ∈ l,p u
 | [],u,hu=>by cases hu
 | t :: l,u,hu=>by
   rcases List.mem_cons.1 hu with e | hu
   ·rw [e]; exact Sp.ind h t
   ·exact Sp.ZC h l u hu
end

mutual
theorem wW (vars : Nat) : ∀ (t : Sp) (path n : Nat),n <= 4096 -> (fG vars t path n).1 <= 4097 /\ ((fG vars t path n).2 = 0 -> (fG vars t path n).1 <= 4096)
 | .mk v ks r,path,n,h=>by
   rw [lQ]
   repeat' split
   all_goals first | exact Jh vars ks _ _ (by omega) | (dsimp only; omega) | (dsimp only; exact ⟨by omega,fun h=>absurd h (by decide)⟩)
theorem Jh (vars : Nat) : ∀ (l : List Sp) (path n : Nat),n <= 4096 -> (rU vars l path n).1 <= 4097 /\ ((rU vars l path n).2 = 0 -> (rU vars l path n).1 <= 4096)
 | [],path,n,h=>by rw [uo]; dsimp only; omega
 | t :: l,path,n,h=>by
   rw [jv]
   have:=wW vars t path n h
   split
   ·exact this
   ·rename_i h1
    exact Jh vars l path _ (this.2 (by simpa using h1))
end

abbrev ckH (n vars : Nat) : Heap:=[(0,.box (.ag [.int .i64 n,.int .i64 vars]))]

theorem Uu (vars : Nat) (hv : vars <= 24) (t : Sp) : ∀ (path n : Nat),path < 2 ^ 24 -> n <= 4096 ->
  aQ Tryz.prog 74 [.ptr 0 [] 0,t.av,.int .i64 path] (ckH n vars) (rW (fG vars t path n).2) (ckH (fG vars t path n).1 vars):=by
 induction t using Sp.ind with
 | h v ks r ih =>
 intro path n hp hn
 have hW:=lQ vars v ks r path n
 rw [Sp.eu]
 refine aQ.intro lay mixed Tryz.func74 (by kernel_rfl) rfl (by kernel_rfl) rfl fun hok=>?_
 (try dsimp only[aP,aC]);(try dsimp only[aj]);conv=>whnf
 refine zA ?_;conv=>whnf
 refine And.intro (fun g=>?_) (fun g=>?_)
 ·rw [if_pos (by omega)] at hW
  rw [show fG vars (.mk v ks r) path n = (n + 1,4) from hW]
  (try dsimp only[aj]);conv=>whnf
  refine ⟨⟨_,_,.refl _ _,?_⟩⟩
  conv=>whnf
  refine ⟨?_,rfl,by simp [nextId],.mk ?_ (by simp [ak])⟩
  ·all_goals exact wk
  ·all_goals exact wk
 rw [if_neg (by omega)] at hW
 have hcont : ks.length ≠ 0 /\ ks.length ≠ 2 \/ ks.length = 0 \/ ks.length = 2:=by omega
 rcases hcont with hc | hc | hc
 ·rw [if_pos hc] at hW
  (try dsimp only[aj]);conv=>whnf
  refine And.intro (fun g1=>?_) (fun g1=>by exfalso; rw [List.length_map] at g1; omega)
  (try dsimp only[aj]);conv=>whnf
  refine And.intro (fun g1=>?_) (fun g1=>by exfalso; rw [List.length_map] at g1; omega)
  rw [show fG vars (.mk v ks r) path n = (n + 1,11) from hW]
  (try dsimp only[aj]);conv=>whnf
  refine ⟨⟨_,_,.refl _ _,?_⟩⟩
  conv=>whnf
  refine ⟨?_,rfl,by simp [nextId],.mk ?_ (by simp [ak])⟩
  ·all_goals exact wk
  ·all_goals exact wk
 ·rw [if_neg (by omega),if_pos hc] at hW
  (try dsimp only[aj]);conv=>whnf
  refine And.intro (fun g1=>by exfalso; rw [List.length_map] at g1; omega) (fun g1=>?_)
  (try dsimp only[aj]);conv=>whnf
  refine And.intro (fun g1=>?_) (fun g1=>by exfalso; rw [List.length_map] at g1; omega)
  (try dsimp only[aj]);conv=>whnf
  refine And.intro (fun g1=>?_) (fun g1=>?_)
  ·rw [if_pos g1] at hW
   rw [show fG vars (.mk v ks r) path n = (n + 1,2) from hW]
   (try dsimp only[aj]);conv=>whnf
   refine ⟨⟨_,_,.refl _ _,?_⟩⟩
   conv=>whnf
   refine ⟨?_,rfl,by simp [nextId],.mk ?_ (by simp [ak])⟩
   ·all_goals exact wk
   ·all_goals exact wk
  ·rw [if_neg g1] at hW
   rw [show fG vars (.mk v ks r) path n = (n + 1,0) from hW]
   (try dsimp only[aj]);conv=>whnf
   refine ⟨⟨_,_,.refl _ _,?_⟩⟩
   conv=>whnf
   refine ⟨?_,rfl,by simp [nextId],.mk ?_ (by simp [ak])⟩
   ·all_goals exact wk
   ·all_goals exact wk
 rw [if_neg (by omega),if_neg (by omega)] at hW
 obtain ⟨a,b,rfl⟩ : ∃ a b,ks = [a,b]:=by
  match ks,hc with
  | [a,b],_=>exact ⟨a,b,rfl⟩
 have iha:=ih a (by simp)
 have ihb:=ih b (by simp)
 clear ih
 (try dsimp only[aj]);conv=>whnf
 refine And.intro (fun g1=>?_) (fun g1=>by exfalso; simp at g1)
 (try dsimp only[aj]);conv=>whnf
 refine And.intro (fun g1=>by exfalso; simp at g1) (fun g1=>?_)
 (try dsimp only[aj]);conv=>whnf
 refine And.intro (fun g1=>by exfalso; simp at g1) (fun g1=>?_)
 (try dsimp only[aj]);conv=>whnf
 refine aY.auto (by kernel_rfl) ?_;conv=>whnf
 refine And.intro (fun g2=>?_) (fun g2=>?_)
 ·rw [if_pos (.inl g2)] at hW
  rw [show fG vars (.mk v [a,b] r) path n = (n + 1,3) from hW]
  (try dsimp only[aj]);conv=>whnf
  refine ⟨⟨_,_,.refl _ _,?_⟩⟩
  conv=>whnf
  refine ⟨?_,rfl,by simp [nextId],.mk ?_ (by simp [ak])⟩
  ·all_goals exact wk
  ·all_goals exact wk
 conv=>whnf
 refine And.intro (fun g3=>?_) (fun g3=>?_)
 ·rw [if_pos (.inr g3)] at hW
  rw [show fG vars (.mk v [a,b] r) path n = (n + 1,3) from hW]
  (try dsimp only[aj]);conv=>whnf
  refine ⟨⟨_,_,.refl _ _,?_⟩⟩
  conv=>whnf
  refine ⟨?_,rfl,by simp [nextId],.mk ?_ (by simp [ak])⟩
  ·all_goals exact wk
  ·all_goals exact wk
 rw [if_neg (by omega)] at hW
 obtain ⟨w,rfl⟩ : ∃ w : Nat,v = w:=⟨v.toNat,by omega⟩
 rw [Int.toNat_natCast] at hW
 have hb:=ou (a:=path) (i:=w) (by omega) (by omega)
 (try dsimp only[aj]);conv=>whnf
 refine ⟨by omega,?_⟩
 (try dsimp only[aj]);conv=>whnf
 rw [hb]
 by_cases hpb : path.testBit w = true
 ·rw [if_pos hpb] at hW
  rw [if_pos hpb]
  refine And.intro (fun _=>?_) (fun h=>absurd rfl h)
  rw [show fG vars (.mk w [a,b] r) path n = (n + 1,6) from hW]
  (try dsimp only[aj]);conv=>whnf
  refine ⟨⟨_,_,.refl _ _,?_⟩⟩
  conv=>whnf
  refine ⟨?_,rfl,by simp [nextId],.mk ?_ (by simp [ak])⟩
  ·all_goals exact wk
  ·all_goals exact wk
 rw [if_neg hpb] at hW
 rw [if_neg hpb]
 refine And.intro (fun h=>absurd h (by decide)) (fun _=>?_)
 (try dsimp only[aj]);conv=>whnf
 refine And.intro (fun g4=>?_) (fun g4=>?_)
 ·rw [if_pos g4] at hW
  rw [show fG vars (.mk w [a,b] r) path n = (n + 1,2) from hW]
  (try dsimp only[aj]);conv=>whnf
  refine ⟨⟨_,_,.refl _ _,?_⟩⟩
  conv=>whnf
  refine ⟨?_,rfl,by simp [nextId],.mk ?_ (by simp [ak])⟩
  ·all_goals exact wk
  ·all_goals exact wk
 rw [if_neg g4] at hW
 have hP : path ||| 2 ^ w < 2 ^ 24:=Nat.or_lt_two_pow hp (Nat.pow_lt_pow_right (by decide) (by omega))
 have hpw : 2 ^ w < 2 ^ 24:=Nat.pow_lt_pow_right (by decide) (by omega)
 have hsh:=jH (i:=w) (by omega)
 have hor:=mM (a:=path) (b:=2 ^ w) (by omega) (by omega)
 have ca:=iha (path ||| 2 ^ w) (n + 1) hP (by omega)
 have hla:=wW vars a (path ||| 2 ^ w) (n + 1) (by omega)
 rw [jv] at hW
 obtain ⟨va,ka,ra⟩:=a
 obtain ⟨vb,kb,rb⟩:=b
 rw [Sp.eu] at ca
 generalize hA : fG vars (.mk va ka ra) (path ||| 2 ^ w) (n + 1) = A at *
 obtain ⟨n1,e1⟩:=A
 dsimp only at hla hW ca
 (try dsimp only[aj]);conv=>whnf
 refine aN.step 3 ?_
 (try dsimp only[aj]);conv=>whnf
 refine bY (by simp) ?_
 (try dsimp only[aj]);conv=>whnf
 refine kE.mk ⟨_,⟨by decide,rfl⟩,?_⟩
 rw [Sp.eu]
 (try dsimp only[aj]);conv=>whnf
 refine aY.mk ⟨[true,false,true,true,false,true,true,false,true],by kernel_rfl,?_⟩
 conv=>whnf
 refine ⟨by omega,?_⟩
 rw [hsh]
 conv=>whnf
 rw [hor]
 refine .gen _ _ (aQ.frame [0] ca ⟨rfl,rfl,rfl,rfl⟩ ?_ ?_) fun _=>?_
 ·all_goals exact wk
 ·all_goals exact wk
 by_cases he : e1 ≠ 0
 ·rw [if_pos he] at hW
  rw [hW]
  rw [fV he]
  (try dsimp only[aj]);conv=>whnf
  refine ⟨⟨_,_,.refl _ _,?_⟩⟩
  conv=>whnf
  refine ⟨?_,rfl,by simp [nextId],.mk ?_ (by simp [ak])⟩
  ·all_goals exact wk
  ·all_goals exact wk
 obtain rfl : e1 = 0:=by simpa using he
 rw [if_neg (by simp),jv] at hW
 have hn1:=hla.2 rfl
 have cb:=ihb (path ||| 2 ^ w) n1 hP (by omega)
 have hlb:=wW vars (.mk vb kb rb) (path ||| 2 ^ w) n1 (by omega)
 rw [Sp.eu] at cb
 generalize hB : fG vars (.mk vb kb rb) (path ||| 2 ^ w) n1 = B at *
 obtain ⟨n2,e2⟩:=B
 dsimp only at hlb hW cb
 (try dsimp only[aj]);conv=>whnf
 refine zA ?_;conv=>whnf
 refine bY (by simp) ?_
 (try dsimp only[aj]);conv=>whnf
 refine kE.mk ⟨_,⟨by decide,rfl⟩,?_⟩
 rw [Sp.eu]
 (try dsimp only[aj]);conv=>whnf
 refine aY.mk ⟨[true,false,true,true,false,true,true,false,true],by kernel_rfl,?_⟩
 conv=>whnf
 refine ⟨by omega,?_⟩
 rw [hsh]
 conv=>whnf
 rw [hor]
 refine .gen _ _ (aQ.frame [0] cb ⟨rfl,rfl,rfl,rfl⟩ ?_ ?_) fun _=>?_
 ·all_goals exact wk
 ·all_goals exact wk
 by_cases he2 : e2 ≠ 0
 ·rw [if_pos he2] at hW
  rw [hW]
  rw [fV he2]
  (try dsimp only[aj]);conv=>whnf
  refine ⟨⟨_,_,.refl _ _,?_⟩⟩
  conv=>whnf
  refine ⟨?_,rfl,by simp [nextId],.mk ?_ (by simp [ak])⟩
  ·all_goals exact wk
  ·all_goals exact wk
 obtain rfl : e2 = 0:=by simpa using he2
 rw [if_neg (by simp),uo] at hW
 rw [hW]
 (try dsimp only[aj]);conv=>whnf
 refine zA ?_;conv=>whnf
 refine bN (by simp) ?_
 (try dsimp only[aj]);conv=>whnf
 refine ⟨⟨_,_,.refl _ _,?_⟩⟩
 conv=>whnf
 refine ⟨?_,rfl,by simp [nextId],.mk ?_ (by simp [ak])⟩
 ·all_goals exact wk
 ·all_goals exact wk

theorem Gu (vars : Int) (t : Sp) (R : AV) (hR : R = rW (oN vars t)) : aQ Tryz.prog 56 [t.av,.int .i64 vars] [] R []:=by
 by_cases hv : vars < 0 \/ 24 < vars
 ·rw [show oN vars t = 3 from if_pos hv] at hR
  obtain ⟨v,ks,r⟩:=t
  rw [Sp.eu]
  subst hR
  refine aQ.intro lay mixed Tryz.func56 (by kernel_rfl) rfl (by kernel_rfl) rfl fun hok=>?_
  (try dsimp only[aP,aC]);(try dsimp only[aj]);conv=>whnf
  refine And.intro (fun g=>?_) (fun g=>?_)
  ·(try dsimp only[aj]);conv=>whnf
   refine fM ?_;(conv=>whnf);refine ⟨?_,rfl⟩;conv=>whnf
   all_goals exact wk
  (try dsimp only[aj]);conv=>whnf
  refine And.intro (fun g=>?_) (fun g=>by exfalso; omega)
  (try dsimp only[aj]);conv=>whnf
  refine fM ?_;(conv=>whnf);refine ⟨?_,rfl⟩;conv=>whnf
  all_goals exact wk
 rw [show oN vars t = (fG vars.toNat t 0 0).2 from if_neg hv] at hR
 have cn:=Uu vars.toNat (by omega) t 0 0 (by decide) (by decide)
 unfold ckH at cn
 rw [show ((vars.toNat : Nat) : Int) = vars by omega] at cn
 obtain ⟨v,ks,r⟩:=t
 rw [Sp.eu] at cn ⊢
 generalize fG vars.toNat (.mk v ks r) 0 0 = W at *
 obtain ⟨n1,e1⟩:=W
 dsimp only at hR cn
 subst hR
 refine aQ.intro lay mixed Tryz.func56 (by kernel_rfl) rfl (by kernel_rfl) rfl fun hok=>?_
 (try dsimp only[aP,aC]);(try dsimp only[aj]);conv=>whnf
 refine And.intro (fun g=>by exfalso; omega) (fun g=>?_)
 (try dsimp only[aj]);conv=>whnf
 refine And.intro (fun g=>by exfalso; omega) (fun g=>?_)
 (try dsimp only[aj]);conv=>whnf
 refine .gen _ _ (aQ.frame [1] cn ⟨rfl,rfl,rfl,rfl⟩ ?_ ?_) fun _=>?_
 ·all_goals exact wk
 ·all_goals exact wk
 by_cases he : e1 ≠ 0
 ·rw [fV he]
  (try dsimp only[aj]);conv=>whnf
  refine ⟨⟨_,_,.refl _ _,?_⟩⟩
  conv=>whnf
  refine ⟨?_,rfl,by simp [nextId],.mk ?_ (by simp [ak])⟩
  ·all_goals exact wk
  ·all_goals exact wk
 ·obtain rfl : e1 = 0:=by simpa using he
  (try dsimp only[aj]);conv=>whnf
  refine ⟨⟨_,_,.refl _ _,?_⟩⟩
  conv=>whnf
  refine ⟨?_,rfl,by simp [nextId],.mk ?_ (by simp [ak])⟩
  ·all_goals exact wk
  ·all_goals exact wk


abbrev Ur (y n : Nat) : AV:=.ag [.int .i64 y,.int .i64 n]
abbrev lfA (x : Nat × Nat × Int) : AV:=.ag [Ur x.1 x.2.1,.int .i64 x.2.2]

theorem OC {v : Nat} (h : v < 24) : 2 ^ v < 2 ^ 24:=Nat.pow_lt_pow_right (by decide) h

theorem UJ {vars : Nat} (hv : vars <= 24) {path : Nat} {t : Sp} (h : yJ vars path t) : ∀ {y n : Nat},PX vars path y n -> ∀ (l : List (Nat × Nat × Int)),l.length + (oW t y n).length <= 1000000 ->
  aQ Tryz.prog 57 [.sl 3 (l.map lfA) (.own 0),t.av,Ur y n] [(0,.tok 3 l.length)] (.sl 3 ((l ++ oW t y n).map lfA) (.own 0)) [(0,.tok 3 (l ++ oW t y n).length)]:=by
 have hp24 : 2 ^ vars <= 2 ^ 24:=Nat.pow_le_pow_right (by decide) hv
 induction h with
 | leaf path r =>
   intro y n hc l hl
   rw [show oW (.mk 0 [] r) y n = [(y,n,r)] from rfl] at hl ⊢
   simp only [List.length_singleton] at hl
   rw [Sp.eu]
   refine aQ.intro lay mixed Tryz.func57 (by kernel_rfl) rfl (by kernel_rfl) rfl fun hok=>?_
   (try dsimp only[aP,aC]);(try dsimp only[aj]);conv=>whnf
   refine bY (by simp) ?_
   (try dsimp only[aj]);conv=>whnf
   refine ⟨by rw [List.length_map],.mk (by simp [maxL]; omega) (by simp; omega) ?_⟩
   (try dsimp only[aj]);conv=>whnf
   refine ⟨⟨_,_,.refl _ _,?_⟩⟩
   conv=>whnf
   refine ⟨?_,rfl,by simp [nextId],.mk ?_ (by simp [ak])⟩
   ·repeat' first|exact rfl|exact trivial|exact wR|exact lR _|apply aI
    all_goals (show gq _ (List.map _ (_ ++ [_])); rw [List.map_append]; exact bK _)
   ·repeat' first|exact rfl|exact trivial|exact wR|exact lR _|apply aI
    all_goals (simp; done)
 | node path v a b hvv hpv _ _ iha ihb =>
   intro y n hc l hl
   rw [show oW (.mk v [a,b] 0) y n = oW a y (n ||| 2 ^ v) ++ oW b (y ||| 2 ^ v) n by rw [oW,Int.toNat_natCast]] at hl ⊢
   rw [List.length_append] at hl
   have ca:=iha (hc.no hvv hpv) l (by omega)
   have cb:=ihb (hc.yes hvv hpv) (l ++ oW a y (n ||| 2 ^ v)) (by rw [List.length_append]; omega)
   rw [List.append_assoc] at cb
   have hsh:=jH (i:=v) (by omega)
   have h2v:=OC (show v < 24 by omega)
   have hyl:=hc.yl
   have hnl:=hc.nl
   have hor1:=mM (a:=n) (b:=2 ^ v) (by omega) (by omega)
   have hor2:=mM (a:=y) (b:=2 ^ v) (by omega) (by omega)
   generalize oW a y (n ||| 2 ^ v) = la at *
   generalize oW b (y ||| 2 ^ v) n = lb at *
   obtain ⟨va,ka,ra⟩:=a
   obtain ⟨vb,kb,rb⟩:=b
   rw [Sp.eu] at ca cb ⊢
   refine aQ.intro lay mixed Tryz.func57 (by kernel_rfl) rfl (by kernel_rfl) rfl fun hok=>?_
   (try dsimp only[aP,aC]);(try dsimp only[aj]);conv=>whnf
   refine bN (by simp) ?_
   (try dsimp only[aj]);conv=>whnf
   refine aY.mk ⟨[true,true,false,true,false,true,false,true,false,true,false,true,true,true,false,true],by kernel_rfl,?_⟩
   conv=>whnf
   refine kE.mk ⟨_,⟨by decide,rfl⟩,?_⟩
   rw [Sp.eu]
   conv=>whnf
   refine ⟨by omega,?_⟩
   rw [hsh]
   conv=>whnf
   rw [hor1]
   refine .gen _ _ (aQ.frame [0] ca ⟨rfl,rfl,rfl,rfl⟩ ?_ ?_) fun _=>?_
   ·all_goals exact wk
   ·all_goals exact wk
   (try dsimp only[aj]);conv=>whnf
   refine aY.mk ⟨[true,true,false,true,false,true,false,true,false,true,true,true,false,true,false,true],by kernel_rfl,?_⟩
   conv=>whnf
   refine kE.mk ⟨_,⟨by decide,rfl⟩,?_⟩
   rw [Sp.eu]
   conv=>whnf
   refine ⟨by omega,?_⟩
   rw [hsh]
   conv=>whnf
   rw [hor2]
   refine .gen _ _ (aQ.frame [0] cb ⟨rfl,rfl,rfl,rfl⟩ ?_ ?_) fun _=>?_
   ·all_goals exact wk
   ·all_goals exact wk
   (try dsimp only[aj]);conv=>whnf
   refine ⟨⟨_,_,.refl _ _,?_⟩⟩
   conv=>whnf
   refine ⟨?_,rfl,by simp [nextId],.mk ?_ (by simp [ak])⟩
   ·all_goals exact wk
   ·all_goals exact wk

theorem UZ (vars : Nat) (hv : vars <= 24) (t : Sp) (h : oN vars t = 0) (hl : (oW t 0 0).length <= 1000000) : aQ Tryz.prog 33 [t.av,.int .i64 vars] [] (.dA [.sl 3 ((oW t 0 0).map lfA) .no,.bH]) []:=by
 have cc:=Gu vars t _ rfl
 rw [h,Dn] at cc
 have hok : yJ vars 0 t:=by
  unfold oN at h
  rw [if_neg (by omega),Int.toNat_natCast] at h
  exact wV vars t 0 0 h
 have cl:=UJ hv hok (PX.zero vars) [] (by simpa using hl)
 rw [List.nil_append] at cl
 generalize oW t 0 0 = l at *
 obtain ⟨v,ks,r⟩:=t
 rw [Sp.eu] at cc cl ⊢
 refine aQ.intro lay mixed Tryz.func33 (by kernel_rfl) rfl (by kernel_rfl) rfl fun hok=>?_
 (try dsimp only[aP,aC]);(try dsimp only[aj]);conv=>whnf
 refine .pure _ _ ?_ ⟨rfl,rfl⟩ cc fun _=>?_
 ·all_goals exact wk
 (try dsimp only[aj]);conv=>whnf
 refine .gen _ _ (aQ.Z7 0 3 rfl (.inl ⟨rfl,rfl⟩) (aQ.frame [1] cl ⟨rfl,rfl,rfl,rfl⟩ ?_ ?_)) fun _=>?_
 ·all_goals exact wk
 ·all_goals exact wk
 (try dsimp only[aj]);conv=>whnf
 refine ⟨⟨_,_,.refl _ _,?_⟩⟩
 conv=>whnf
 refine ⟨?_,rfl,by simp [nextId],.mk ?_ (by simp [ak])⟩
 ·all_goals exact wk
 ·all_goals exact wk


structure RC where
 st : Nat
 cost : List Int

abbrev RC.av (x : RC) : AV:=.ag [.int .i64 (x.st : Int),iA x.cost]

structure nI (f : Fo) (x : RC) : Prop where
 ok : su f
 vars : f.vars <= 7
 nlen : f.nodes.length <= 16
 syn : zZ f
 st : x.st < 2 ^ f.vars.toNat
 len : x.cost.length = f.vars.toNat
 rng : ∀ c,c ∈ x.cost -> 0 <= c /\ c <= 1048576

def dR (f : Fo) (s : Nat) : Bool:=(valsF f.vars.toNat s f.nodes).getD f.top.toNat false

def mJ (cost : List Int) (set k : Nat) : Int:=(List.range k).foldl (fun s i=>if set.testBit i then s + cost.getD i 0 else s) 0
def iF (cost : List Int) (set : Nat) : Int:=mJ cost set cost.length

theorem iI (cost : List Int) (set k : Nat) : mJ cost set (k + 1) = if set.testBit k then mJ cost set k + cost.getD k 0 else mJ cost set k:=by
 unfold mJ; rw [List.range_succ,List.foldl_append]; rfl

theorem tu {cost : List Int} (h : ∀ c,c ∈ cost -> 0 <= c /\ c <= 1048576) (i : Nat) : 0 <= cost.getD i 0 /\ cost.getD i 0 <= 1048576:=by
 by_cases hi : i < cost.length
 ·rw [List.getD_eq_getElem?_getD,List.getElem?_eq_getElem hi]; exact h _ (List.getElem_mem hi)
 ·rw [List.getD_eq_getElem?_getD,List.getElem?_eq_none (by omega)]; exact ⟨by decide,by decide⟩

theorem kN {cost : List Int} (h : ∀ c,c ∈ cost -> 0 <= c /\ c <= 1048576) (set : Nat) : ∀ k,0 <= mJ cost set k /\ mJ cost set k <= 1048576 * (k : Int)
 | 0=>by unfold mJ; simp
 | k + 1=>by
   have ih:=kN h set k
   have hc:=tu h k
   rw [iI]
   split <;> omega

theorem Ph (x : RC) (hl : x.cost.length <= 60) (h : ∀ c,c ∈ x.cost -> 0 <= c /\ c <= 1048576) (set : Nat) (hs : set < 2 ^ 63) : aQ Tryz.prog 34 [x.av,.int .i64 set] [] (.int .i64 (iF x.cost set)) []:=by
 have e : iF x.cost set = mJ x.cost set x.cost.length:=rfl
 rw [e]
 obtain ⟨st,cost⟩:=x
 dsimp only at hl h ⊢
 refine aQ.intro lay mixed Tryz.func34 (by kernel_rfl) rfl (by kernel_rfl) rfl fun hok=>?_
 (try dsimp only[aP,aC]);(try dsimp only[aj]);conv=>whnf
 refine aN.of <| (aA.inv (.refl _ _) (fun k : Nat=>k <= cost.length) (fun k=>[(11,.int .i64 (k : Int)),(5,.int .i64 (mJ cost set k))]) (fun _=>[(0,.box (RC.av ⟨st,cost⟩))]) (fun k=>cost.length - k) 0 (Nat.zero_le _) ?_ ?_ ?_)
 ·exact fun _=>rfl
 ·refine ⟨?_,.mk ?_ (by simp [ak])⟩
  ·all_goals exact wk
  ·all_goals exact wk
 intro k hk _
 (try dsimp only[aj]);conv=>whnf
 refine And.intro (fun g=>?_) (fun g=>?_)
 ·have hlt : k < cost.length:=by simp at g; omega
  have hst:=iI cost set k
  have hr:=kN h set k
  rw [show cost.getD k 0 = cost[k] by rw [List.getD_eq_getElem?_getD,List.getElem?_eq_getElem hlt]; rfl] at hst
  have hc:=h _ (List.getElem_mem hlt)
  (try dsimp only[aj]);conv=>whnf
  refine iq hlt ?_
  generalize cost[k] = c at *
  generalize mJ cost set k = p at *
  (try dsimp only[aj]);conv=>whnf
  refine ⟨by omega,?_⟩
  (try dsimp only[aj]);conv=>whnf
  rw [ou hs (by omega)]
  refine And.intro (fun hb=>?_) (fun hb=>?_)
  ·have hb : set.testBit k = true:=by cases ht : set.testBit k <;> simp_all
   rw [if_pos hb] at hst
   (try dsimp only[aj]);conv=>whnf
   refine zA ?_;conv=>whnf
   refine zA ?_;conv=>whnf
   refine ⟨k + 1,?_,?_,?_⟩
   ·exact hlt
   ·rw [hst]
    refine ⟨?_,.mk ?_ (by simp [ak])⟩
    ·all_goals exact wk
    ·all_goals exact wk
   ·omega
  ·have hb : ¬ set.testBit k = true:=by cases ht : set.testBit k <;> simp_all
   rw [if_neg hb] at hst
   (try dsimp only[aj]);conv=>whnf
   refine zA ?_;conv=>whnf
   refine ⟨k + 1,?_,?_,?_⟩
   ·exact hlt
   ·rw [hst]
    refine ⟨?_,.mk ?_ (by simp [ak])⟩
    ·all_goals exact wk
    ·all_goals exact wk
   ·omega
 ·have hk : k = cost.length:=by simp at g; omega
  subst hk
  (try dsimp only[aj]);conv=>whnf
  refine ⟨⟨_,_,.refl _ _,?_⟩⟩
  conv=>whnf
  refine ⟨?_,rfl,by simp [nextId],.mk ?_ (by simp [ak])⟩
  ·all_goals exact wk
  ·all_goals exact wk

theorem QZ (c : Int) (h : 0 <= c /\ c <= 1048576) : aQ Tryz.prog 43 [.int .i64 c] [] (.bool false) []:=by
 refine aQ.intro lay mixed Tryz.func43 (by kernel_rfl) rfl (by kernel_rfl) rfl fun hok=>?_
 (try dsimp only[aP,aC]);(try dsimp only[aj]);conv=>whnf
 refine bN (by omega) ?_
 (try dsimp only[aj]);conv=>whnf
 refine fM ?_;(conv=>whnf);refine ⟨?_,rfl⟩;conv=>whnf
 exact ⟨fun h=>absurd h (by omega),fun h=>by cases h⟩

theorem wH (f : Fo) (x : RC) (h : nI f x) : aQ Tryz.prog 24 [f.av,x.av] [] .bH []:=by
 have cs:=Gx f h.ok
 rw [wF f h.syn] at cs
 have hv:=h.ok.vars
 have h7:=h.vars
 have hst:=h.st
 have hlen:=h.len
 have cc:=jq x.cost 43 [] (fun _=>false) [] fun c hc=>QZ c (h.rng c hc)
 rw [show (x.cost.any fun _=>false) = false by simp] at cc
 have JO : yT .i64 1 f.vars = ((2 ^ f.vars.toNat : Nat) : Int):=by
  obtain ⟨v,hv⟩ : ∃ v : Nat,f.vars = v:=⟨f.vars.toNat,by omega⟩
  rw [hv,Int.toNat_natCast]; exact jH (by omega)
 obtain ⟨st,cost⟩:=x
 dsimp only at hst hlen cc ⊢
 refine aQ.intro lay mixed Tryz.func24 (by kernel_rfl) rfl (by kernel_rfl) rfl fun hok=>?_
 (try dsimp only[aP,aC]);(try dsimp only[aj]);conv=>whnf
 refine .pure _ _ ?_ ⟨rfl,rfl⟩ cs fun _=>?_
 ·exact au _
 (try dsimp only[aj]);conv=>whnf
 refine And.intro (fun e=>by cases e) (fun _=>?_)
 (try dsimp only[aj]);conv=>whnf
 refine aY.auto (by kernel_rfl) ?_;conv=>whnf
 refine And.intro (fun e=>by omega) (fun _=>?_)
 refine ⟨by omega,?_⟩
 rw [JO]
 conv=>whnf
 refine And.intro (fun e=>absurd e (by show ¬ (((2 ^ f.vars.toNat : Nat) : Int) <= (st : Int)); omega)) (fun _=>?_)
 (try dsimp only[aj]);conv=>whnf
 refine And.intro (fun e=>absurd hlen (by simp at e; omega)) (fun _=>?_)
 (try dsimp only[aj]);conv=>whnf
 refine .pure _ _ ?_ ⟨rfl,rfl⟩ cc fun _=>?_
 ·exact au _
 (try dsimp only[aj]);conv=>whnf
 refine And.intro (fun e=>by cases e) (fun _=>?_)
 (try dsimp only[aj]);conv=>whnf
 refine ⟨⟨_,_,.refl _ _,?_⟩⟩
 conv=>whnf
 refine ⟨?_,rfl,by simp [nextId],.mk ?_ (by simp [ak])⟩
 ·all_goals exact wk
 ·all_goals exact wk

theorem DU (f : Fo) (h : su f) (R : AV) (hR : (R = .jh 43 (.int .i64 17) /\ dR f 0 = true) \/ (R = .bH /\ dR f 0 = false)) : aQ Tryz.prog 25 [f.av] [] R []:=by
 have cv:=kT f h 0 (Nat.two_pow_pos _)
 rw [show (valsF f.vars.toNat 0 f.nodes).getD f.top.toNat false = dR f 0 from rfl] at cv
 refine aQ.intro lay mixed Tryz.func25 (by kernel_rfl) rfl (by kernel_rfl) rfl fun hok=>?_
 (try dsimp only[aP,aC]);(try dsimp only[aj]);conv=>whnf
 refine .pure _ _ ?_ ⟨rfl,rfl⟩ cv fun _=>?_
 ·exact au _
 rcases hR with ⟨rfl,hb⟩ | ⟨rfl,hb⟩
 ·rw [hb]
  (try dsimp only[aj]);conv=>whnf
  refine And.intro (fun _=>?_) (fun e=>by cases e)
  (try dsimp only[aj]);conv=>whnf
  refine ⟨⟨_,_,.refl _ _,?_⟩⟩
  conv=>whnf
  refine ⟨?_,rfl,by simp [nextId],.mk ?_ (by simp [ak])⟩
  ·all_goals exact wk
  ·all_goals exact wk
 ·rw [hb]
  (try dsimp only[aj]);conv=>whnf
  refine And.intro (fun e=>by cases e) (fun _=>?_)
  (try dsimp only[aj]);conv=>whnf
  refine ⟨⟨_,_,.refl _ _,?_⟩⟩
  conv=>whnf
  refine ⟨?_,rfl,by simp [nextId],.mk ?_ (by simp [ak])⟩
  ·all_goals exact wk
  ·all_goals exact wk

structure Sc where
 best : Nat
 total : Int
 found : Bool

abbrev Sc.av (f : Fo) (x : RC) (s : Sc) : AV:=.ag [f.av,x.av,.int .i64 (s.best : Int),.int .i64 s.total,.bool s.found,.bH]

def nO (s : Sc) (set : Nat) (total : Int) : Bool:=if !s.found || decide (total ≠ s.total) then s.found && decide (s.total < total) else decide (0 <= Nu set s.best)

def CG (s : Sc) (set : Nat) (total : Int) : Bool:=s.found && (decide (s.total < total) || (decide (total = s.total) && decide (qp s.best < qp set)))

def nP (st v : Nat) : Nat -> Nat
 | 0=>0
 | n + 1=>if st.testBit (v - (n + 1)) then n + 1 else nP st v n

theorem Jq (st v : Nat) : ∀ n,nP st v n <= n
 | 0=>Nat.le_refl _
 | n + 1=>by
   unfold nP
   split
   ·exact Nat.le_refl _
   ·exact Nat.le_succ_of_le (Jq st v n)

theorem Oq {st v : Nat} : ∀ (n i j : Nat),i + n = v -> i <= j -> j <= v -> (∀ k,i <= k -> k < j -> st.testBit k = false) -> nP st v n = nP st v (v - j)
 | 0,i,j,h,h1,h2,_=>by rw [show v - j = 0 by omega]
 | n + 1,i,j,h,h1,h2,hb=>by
   by_cases e : i = j
   ·rw [show v - j = n + 1 by omega]
   ·rw [<- Oq n (i + 1) j (by omega) (by omega) h2 fun k k1 k2=>hb k (by omega) k2,nP,if_neg]
    rw [show v - (n + 1) = i by omega,hb i (Nat.le_refl _) (by omega)]
    decide

theorem VT {st v j : Nat} (hj : j < v) (hb : st.testBit j = true) : nP st v (v - j) = (v - j - 1) + 1:=by
 obtain ⟨m,hm⟩ : ∃ m,v - j = m + 1:=⟨v - j - 1,by omega⟩
 rw [hm,nP,if_pos (by rw [show v - (m + 1) = j by omega]; exact hb)]
 omega

def jS (f : Fo) (x : RC) : Nat -> Nat -> Nat -> Int -> Sc -> Sc
 | 0,_,_,_,s=>s
 | fuel + 1,n,set,total,s =>
   if CG s set total then s
   else if dR f (aJ x.st (set ||| aJ x.st (2 ^ (f.vars.toNat - n) - 1))) then s
   else if dR f (aJ x.st set) = false then (if nO s set total then s else ⟨set,total,true⟩)
   else match nP x.st f.vars.toNat n with
    | 0=>s
    | m + 1=>jS f x fuel m set total (jS f x fuel m (set ||| 2 ^ (f.vars.toNat - (m + 1))) (total + x.cost.getD (f.vars.toNat - (m + 1)) 0) s)

theorem WV (f : Fo) (x : RC) (s : Sc) (set : Nat) (total : Int) : aQ Tryz.prog 45 [.ptr 0 [] 0,.int .i64 set,.int .i64 total] [(0,.box (s.av f x))] (.bool (nO s set total)) [(0,.box (s.av f x))]:=by
 obtain ⟨best,tot,found⟩:=s
 have cc:=NJ set best
 cases found with
 | false =>
   rw [show nO ⟨best,tot,false⟩ set total = false by simp [nO]]
   refine aQ.intro lay mixed Tryz.func45 (by kernel_rfl) rfl (by kernel_rfl) rfl fun hok=>?_
   (try dsimp only[aP,aC]);(try dsimp only[aj]);conv=>whnf
   refine And.intro (fun _=>?_) (fun e=>by cases e)
   (try dsimp only[aj]);conv=>whnf
   refine And.intro (fun e=>by cases e) (fun _=>?_)
   (try dsimp only[aj]);conv=>whnf
   refine ⟨⟨_,_,.refl _ _,?_⟩⟩
   conv=>whnf
   refine ⟨?_,rfl,by simp [nextId],.mk ?_ (by simp [ak])⟩
   ·all_goals exact wk
   ·all_goals exact wk
 | true =>
   have e : nO ⟨best,tot,true⟩ set total = if total ≠ tot then decide (tot < total) else decide (0 <= Nu set best):=by simp [nO]
   rw [e]
   generalize Nu set best = z at *
   refine aQ.intro lay mixed Tryz.func45 (by kernel_rfl) rfl (by kernel_rfl) rfl fun hok=>?_
   (try dsimp only[aP,aC]);(try dsimp only[aj]);conv=>whnf
   refine And.intro (fun e=>by cases e) (fun _=>?_)
   (try dsimp only[aj]);conv=>whnf
   refine And.intro (fun h1=>?_) (fun h1=>?_)
   ·rw [if_pos h1]
    (try dsimp only[aj]);conv=>whnf
    refine And.intro (fun _=>?_) (fun e=>by cases e)
    (try dsimp only[aj]);conv=>whnf
    refine ⟨⟨_,_,.refl _ _,?_⟩⟩
    conv=>whnf
    refine ⟨?_,rfl,by simp [nextId],.mk ?_ (by simp [ak])⟩
    ·repeat' first|exact rfl|exact trivial|exact wR|exact lR _|apply aI
     all_goals exact decide_eq_true_iff.symm
    ·all_goals exact wk
   ·rw [if_neg h1]
    (try dsimp only[aj]);conv=>whnf
    refine .pure _ _ ?_ ⟨rfl,rfl⟩ cc fun _=>?_
    ·exact au _
    (try dsimp only[aj]);conv=>whnf
    refine ⟨⟨_,_,.refl _ _,?_⟩⟩
    conv=>whnf
    refine ⟨?_,rfl,by simp [nextId],.mk ?_ (by simp [ak])⟩
    ·repeat' first|exact rfl|exact trivial|exact wR|exact lR _|apply aI
     all_goals exact decide_eq_true_iff.symm
    ·all_goals exact wk

theorem Bh {a b n : Nat} (ha : a < 2 ^ n) (hn : n <= 60) : aJ a b < 2 ^ n:=by
 have h2 : 2 ^ n <= 2 ^ 60:=Nat.pow_le_pow_right (by decide) hn
 have:=kP (a:=a) (b:=b) (by omega)
 omega

theorem wB (f : Fo) (x : RC) : ∀ (fuel n set : Nat) (total : Int) (s : Sc),n <= f.vars.toNat -> set < 2 ^ f.vars.toNat -> s.best < 2 ^ f.vars.toNat -> (jS f x fuel n set total s).best < 2 ^ f.vars.toNat
 | 0,_,_,_,_,_,_,h=>h
 | fuel + 1,n,set,total,s,hn,hs,h=>by
   unfold jS
   split
   ·exact h
   ·split
    ·exact h
    ·split
     ·split
      ·exact h
      ·exact hs
     ·have hle:=Jq x.st f.vars.toNat n
      split
      ·exact h
      ·rename_i m hm
       have hp : 2 ^ (f.vars.toNat - (m + 1)) < 2 ^ f.vars.toNat:=Nat.pow_lt_pow_right (by decide) (by omega)
       exact wB f x fuel m set total _ (by omega) hs (wB f x fuel m _ _ s (by omega) (Nat.or_lt_two_pow hs hp) h)

theorem UL (f : Fo) (x : RC) (h : nI f x) : ∀ (fuel n i set : Nat) (total : Int) (s : Sc),n < fuel -> i + n = f.vars.toNat -> set < 2 ^ f.vars.toNat -> 0 <= total /\ total <= 1048576 * (i : Int) -> s.best < 2 ^ f.vars.toNat ->
  aQ Tryz.prog 26 [.ptr 0 [] 0,.int .i64 (i : Int),.int .i64 set,.int .i64 total] [(0,.box (s.av f x))] (.dA []) [(0,.box ((jS f x fuel n set total s).av f x))]
 | 0,n,_,_,_,_,hn,_,_,_,_=>absurd hn (Nat.not_lt_zero n)
 | fuel + 1,n,i,set,total,s,hn,hin,hs,ht,hb=>by
   have ih:=UL f x h fuel
   have hv:=h.ok.vars
   have h7:=h.vars
   have JM:=h.st
   have XL : 2 ^ f.vars.toNat <= 2 ^ 7:=Nat.pow_le_pow_right (by decide) (by omega)
   have hpb : 1 <= 2 ^ i:=Nat.one_le_two_pow
   have hpv : 2 ^ i <= 2 ^ 7:=Nat.pow_le_pow_right (by decide) (by omega)
   have c1:=BA set
   have c2:=BA s.best
   have cw:=WV f x s set total
   obtain ⟨rest,hrd⟩ : ∃ rest,rest = aJ x.st (2 ^ i - 1):=⟨_,rfl⟩
   have hrest : rest < 2 ^ f.vars.toNat:=by rw [hrd]; exact Bh JM (by omega)
   have hor:=Nat.or_lt_two_pow hs hrest
   have v1:=kT f h.ok (aJ x.st (set ||| rest)) (Bh JM (by omega))
   have v2:=kT f h.ok (aJ x.st set) (Bh JM (by omega))
   rw [show (valsF f.vars.toNat (aJ x.st (set ||| rest)) f.nodes).getD f.top.toNat false = dR f (aJ x.st (set ||| rest)) from rfl] at v1
   rw [show (valsF f.vars.toNat (aJ x.st set) f.nodes).getD f.top.toNat false = dR f (aJ x.st set) from rfl] at v2
   have hvn : f.vars.toNat - n = i:=by omega
   have e : ∀ b : Bool,CG s set total = b -> jS f x (fuel + 1) n set total s = if b then s
    else if dR f (aJ x.st (set ||| rest)) then s
    else if dR f (aJ x.st set) = false then (if nO s set total then s else ⟨set,total,true⟩)
    else match nP x.st f.vars.toNat n with
     | 0=>s
     | m + 1=>jS f x fuel m set total (jS f x fuel m (set ||| 2 ^ (f.vars.toNat - (m + 1))) (total + x.cost.getD (f.vars.toNat - (m + 1)) 0) s):=fun b hb=>by rw [jS,hb,hvn,<- hrd]
   obtain ⟨t1,ht1⟩ : ∃ t1,t1 = dR f (aJ x.st (set ||| rest)):=⟨_,rfl⟩
   obtain ⟨t2,ht2⟩ : ∃ t2,t2 = dR f (aJ x.st set):=⟨_,rfl⟩
   rw [<- ht1] at v1
   rw [<- ht2] at v2
   simp only [<- ht1,<- ht2] at e
   obtain ⟨best,tot,found⟩:=s
   dsimp only at hb c2 ⊢
   refine dO.XF ?_
   refine dO.lD (.j .n .n) lay mixed Tryz.func26 (by kernel_rfl) rfl (by kernel_rfl) rfl fun hok=>?_
   (try dsimp only[aP,aC]);(try dsimp only[aj]);conv=>whnf
   refine ⟨⟨{u : Unit // CG ⟨best,tot,found⟩ set total = false},fun _=>[(0,.ptr 0 [] 0),(1,.int .i64 (i : Int)),(2,.int .i64 (set : Int)),(3,.int .i64 total)],fun _=>[(0,.box (Sc.av f x ⟨best,tot,found⟩))],?_,?_⟩⟩
   ·obtain ⟨z1,hz1⟩ : ∃ z,z = qp (set : Int):=⟨_,rfl⟩
    obtain ⟨z2,hz2⟩ : ∃ z,z = qp (best : Int):=⟨_,rfl⟩
    rw [<- hz1] at c1
    rw [<- hz2] at c2
    have TS : CG ⟨best,tot,found⟩ set total = (found && (decide (tot < total) || (decide (total = tot) && decide (z2 < z1)))):=by unfold CG; rw [hz1,hz2]
    (try dsimp only[aj]);conv=>whnf
    refine aY.auto (by kernel_rfl) ?_;conv=>whnf
    cases found with
    | false =>
      refine And.intro (fun e=>by cases e) (fun _=>?_)
      (try dsimp only[aj]);conv=>whnf
      refine ⟨⟨(),TS⟩,by simp [nextId],?_,.mk ?_ (by simp [ak])⟩
      ·repeat' first|exact rfl|exact trivial|exact wR|exact lR _|apply aI
       all_goals first | omega | skip
      ·all_goals exact wk
    | true =>
      refine And.intro (fun _=>?_) (fun e=>by cases e)
      (try dsimp only[aj]);conv=>whnf
      refine And.intro (fun h1=>?_) (fun h1=>?_)
      ·rw [e true (by rw [TS]; simp [h1])]
       (try dsimp only[aj]);conv=>whnf
       refine ⟨_,_,⟨rfl,rfl⟩,?_⟩
       refine ⟨⟨_,_,.refl _ _,?_⟩⟩
       conv=>whnf
       refine ⟨?_,rfl,by simp [nextId],.mk ?_ (by simp [ak])⟩
       ·all_goals exact wk
       ·all_goals exact wk
      ·(try dsimp only[aj]);conv=>whnf
       refine And.intro (fun h2=>?_) (fun h2=>?_)
       ·(try dsimp only[aj]);conv=>whnf
        refine dV.pure _ _ ?_ ⟨rfl,rfl⟩ c1 ?_
        ·exact au _
        (try dsimp only[aj]);conv=>whnf
        refine dV.pure _ _ ?_ ⟨rfl,rfl⟩ c2 ?_
        ·exact au _
        (try dsimp only[aj]);conv=>whnf
        refine And.intro (fun h3=>?_) (fun h3=>?_)
        ·rw [e true (by rw [TS]; simp [h2,h3])]
         (try dsimp only[aj]);conv=>whnf
         refine ⟨_,_,⟨rfl,rfl⟩,?_⟩
         refine ⟨⟨_,_,.refl _ _,?_⟩⟩
         conv=>whnf
         refine ⟨?_,rfl,by simp [nextId],.mk ?_ (by simp [ak])⟩
         ·all_goals exact wk
         ·all_goals exact wk
        ·(try dsimp only[aj]);conv=>whnf
         refine ⟨⟨(),by rw [TS]; simp [h2,h3]⟩,by simp [nextId],?_,.mk ?_ (by simp [ak])⟩
         ·repeat' first|exact rfl|exact trivial|exact wR|exact lR _|apply aI
          all_goals first | omega | skip
         ·all_goals exact wk
       ·(try dsimp only[aj]);conv=>whnf
        refine ⟨⟨(),by rw [TS]; simp [h1,h2]⟩,by simp [nextId],?_,.mk ?_ (by simp [ak])⟩
        ·repeat' first|exact rfl|exact trivial|exact wR|exact lR _|apply aI
         all_goals first | omega | skip
        ·all_goals exact wk
   rintro ⟨⟨⟩,hpr⟩ _
   rw [e false hpr]
   clear e
   (try dsimp only[aj]);conv=>whnf
   refine aY.auto (by kernel_rfl) ?_;conv=>whnf
   refine ⟨by omega,?_⟩
   rw [jH (i:=i) (by omega)]
   conv=>whnf
   refine ⟨eU (by omega) (by omega),?_⟩
   rw [show ((2 ^ i : Nat) : Int) - 1 = ((2 ^ i - 1 : Nat) : Int) by omega]
   conv=>whnf
   rw [aU (by omega),<- hrd]
   (try dsimp only[aj]);conv=>whnf
   refine aY.auto (by kernel_rfl) ?_;conv=>whnf
   rw [mM (by omega) (by omega)]
   conv=>whnf
   rw [aU (by omega)]
   refine dV.pure _ _ ?_ ⟨rfl,rfl⟩ v1 ?_
   ·exact au _
   (try dsimp only[aj]);conv=>whnf
   rw [if_neg (by decide)]
   refine And.intro (fun g1=>?_) (fun g1=>?_)
   ·have g1 : t1 = true:=by simpa using g1
    rw [if_pos g1]
    (try dsimp only[aj]);conv=>whnf
    refine ⟨_,_,⟨rfl,rfl⟩,?_⟩
    refine ⟨⟨_,_,.refl _ _,?_⟩⟩
    conv=>whnf
    refine ⟨?_,rfl,by simp [nextId],.mk ?_ (by simp [ak])⟩
    ·all_goals exact wk
    ·all_goals exact wk
   have g1 : ¬ t1 = true:=by simpa using g1
   rw [if_neg g1]
   (try dsimp only[aj]);conv=>whnf
   refine aY.auto (by kernel_rfl) ?_;conv=>whnf
   rw [aU (by omega)]
   refine dV.pure _ _ ?_ ⟨rfl,rfl⟩ v2 ?_
   ·exact au _
   (try dsimp only[aj]);conv=>whnf
   refine And.intro (fun g2=>?_) (fun g2=>?_)
   ·have g2 : t2 = false:=by simpa using g2
    rw [if_pos g2]
    (try dsimp only[aj]);conv=>whnf
    refine .gen _ _ cw fun _=>?_
    (try dsimp only[aj]);conv=>whnf
    refine And.intro (fun g3=>?_) (fun g3=>?_)
    ·rw [if_neg (by simpa using g3)]
     (try dsimp only[aj]);conv=>whnf
     refine ⟨_,_,⟨rfl,rfl⟩,?_⟩
     refine ⟨⟨_,_,.refl _ _,?_⟩⟩
     conv=>whnf
     refine ⟨?_,rfl,by simp [nextId],.mk ?_ (by simp [ak])⟩
     ·all_goals exact wk
     ·all_goals exact wk
    ·rw [if_pos (by simpa using g3)]
     (try dsimp only[aj]);conv=>whnf
     refine ⟨_,_,⟨rfl,rfl⟩,?_⟩
     refine ⟨⟨_,_,.refl _ _,?_⟩⟩
     conv=>whnf
     refine ⟨?_,rfl,by simp [nextId],.mk ?_ (by simp [ak])⟩
     ·all_goals exact wk
     ·all_goals exact wk
   have g2 : ¬ t2 = false:=by simpa using g2
   rw [if_neg g2]
   (try dsimp only[aj]);conv=>whnf
   refine aN.of <| (aA.inv (.refl _ _) (fun j : Nat=>(i <= j /\ j <= f.vars.toNat) /\ ∀ k,i <= k -> k < j -> x.st.testBit k = false) (fun j=>[(1,.int .i64 (j : Int))]) (fun _=>[(0,.box (Sc.av f x ⟨best,tot,found⟩))]) (fun j=>f.vars.toNat - j) i ⟨⟨Nat.le_refl _,by omega⟩,fun k h1 h2=>by omega⟩ ?_ ?_ ?_)
   ·exact fun _=>rfl
   ·refine ⟨?_,.mk ?_ (by simp [ak])⟩
    ·all_goals exact wk
    ·all_goals exact wk
   rintro j ⟨⟨hij,Na⟩,XR⟩ _
   have ZL:=Oq (st:=x.st) (v:=f.vars.toNat) n i j hin hij Na XR
   rw [ZL]
   (try dsimp only[aj]);conv=>whnf
   refine And.intro (fun g3=>?_) (fun g3=>?_)
   ·(try dsimp only[aj]);conv=>whnf
    refine ⟨by omega,?_⟩
    (try dsimp only[aj]);conv=>whnf
    rw [ou (a:=x.st) (i:=j) (by omega) (by omega)]
    refine And.intro (fun hbt=>?_) (fun hbt=>?_)
    ·have hbt : x.st.testBit j = false:=by cases hx : x.st.testBit j <;> simp_all
     (try dsimp only[aj]);conv=>whnf
     refine zA ?_;conv=>whnf
     refine ⟨j + 1,⟨⟨by omega,by omega⟩,fun k k1 k2=>?_⟩,?_,by omega⟩
     ·by_cases e : k = j
      ·rw [e]; exact hbt
      ·exact XR k k1 (by omega)
     refine ⟨?_,.mk ?_ (by simp [ak])⟩
     ·all_goals exact wk
     ·all_goals exact wk
    ·have hbt : x.st.testBit j = true:=by cases hx : x.st.testBit j <;> simp_all
     have hjl : j < f.vars.toNat:=by omega
     rw [VT hjl hbt]
     have hjx : j < x.cost.length:=by rw [h.len]; exact hjl
     have hcr:=h.rng _ (List.getElem_mem hjx)
     have hpj : 2 ^ j < 2 ^ f.vars.toNat:=Nat.pow_lt_pow_right (by decide) hjl
     have hsj:=Nat.or_lt_two_pow hs hpj
     dsimp only
     rw [show f.vars.toNat - (f.vars.toNat - j - 1 + 1) = j by omega,show x.cost.getD j 0 = x.cost[j] by rw [List.getD_eq_getElem?_getD,List.getElem?_eq_getElem hjx]; rfl]
     have r1:=ih (f.vars.toNat - j - 1) (j + 1) (set ||| 2 ^ j) (total + x.cost[j]) ⟨best,tot,found⟩ (by omega) (by omega) hsj (by omega) hb
     have hb1:=wB f x fuel (f.vars.toNat - j - 1) (set ||| 2 ^ j) (total + x.cost[j]) ⟨best,tot,found⟩ (by omega) hsj hb
     have r2:=ih (f.vars.toNat - j - 1) (j + 1) set total (jS f x fuel (f.vars.toNat - j - 1) (set ||| 2 ^ j) (total + x.cost[j]) ⟨best,tot,found⟩) (by omega) (by omega) hs (by omega) hb1
     generalize jS f x fuel (f.vars.toNat - j - 1) (set ||| 2 ^ j) (total + x.cost[j]) ⟨best,tot,found⟩ = s1 at *
     generalize jS f x fuel (f.vars.toNat - j - 1) set total s1 = s2 at *
     (try dsimp only[aj]);conv=>whnf
     refine bN (by omega) ?_
     (try dsimp only[aj]);conv=>whnf
     refine aY.mk ⟨[true,true,true,true,true,true,true,true,true,true,true,true,false,true,true,true,true,false],by kernel_rfl,?_⟩
     conv=>whnf
     refine ⟨eU (by omega) (by omega),?_⟩
     rw [show (j : Int) + 1 = ((j + 1 : Nat) : Int) by omega]
     conv=>whnf
     refine ⟨by omega,?_⟩
     rw [jH (i:=j) (by omega)]
     conv=>whnf
     rw [mM (by omega) (by omega)]
     conv=>whnf
     refine iq hjx ?_
     conv=>whnf
     refine ⟨eU (by omega) (by omega),?_⟩
     conv=>whnf
     refine .gen _ _ r1 fun _=>?_
     (try dsimp only[aj]);conv=>whnf
     refine ⟨eU (by omega) (by omega),?_⟩
     rw [show (j : Int) + 1 = ((j + 1 : Nat) : Int) by omega]
     (try dsimp only[aj]);conv=>whnf
     refine .gen _ _ r2 fun _=>?_
     (try dsimp only[aj]);conv=>whnf
     refine ⟨_,_,⟨rfl,rfl⟩,?_⟩
     refine ⟨⟨_,_,.refl _ _,?_⟩⟩
     conv=>whnf
     refine ⟨?_,rfl,by simp [nextId],.mk ?_ (by simp [ak])⟩
     ·all_goals exact wk
     ·all_goals exact wk
   ·have hj : j = f.vars.toNat:=by omega
    subst hj
    rw [show nP x.st f.vars.toNat (f.vars.toNat - f.vars.toNat) = 0 by rw [Nat.sub_self]; rfl]
    (try dsimp only[aj]);conv=>whnf
    refine bY (by omega) ?_
    (try dsimp only[aj]);conv=>whnf
    refine ⟨_,_,⟨rfl,rfl⟩,?_⟩
    refine ⟨⟨_,_,.refl _ _,?_⟩⟩
    conv=>whnf
    refine ⟨?_,rfl,by simp [nextId],.mk ?_ (by simp [ak])⟩
    ·all_goals exact wk
    ·all_goals exact wk

def oq (f : Fo) (x : RC) : Sc:=jS f x (f.vars.toNat + 1) f.vars.toNat 0 0 ⟨0,0,false⟩

abbrev YJ : AV:=.jh 43 (.int .i64 17)

theorem ru (f : Fo) (x : RC) (h : nI f x) (R : AV) (hR : (R = .dA [.int .i64 0,.int .i64 0,YJ] /\ dR f 0 = true) \/ (R = .dA [.int .i64 ((oq f x).best : Int),.int .i64 (oq f x).total,.bH] /\ dR f 0 = false)) : aQ Tryz.prog 9 [f.av,x.av] [] R []:=by
 have cc:=wH f x h
 have cp:=DU f h.ok
 have hv:=h.ok.vars
 have cf:=UL f x h (f.vars.toNat + 1) f.vars.toNat 0 0 0 ⟨0,0,false⟩ (Nat.lt_succ_self _) (by omega) (Nat.two_pow_pos _) (by omega) (Nat.two_pow_pos _)
 rw [show jS f x (f.vars.toNat + 1) f.vars.toNat 0 0 ⟨0,0,false⟩ = oq f x from rfl] at cf
 generalize oq f x = s at *
 refine aQ.intro lay mixed Tryz.func9 (by kernel_rfl) rfl (by kernel_rfl) rfl fun hok=>?_
 (try dsimp only[aP,aC]);(try dsimp only[aj]);conv=>whnf
 refine .pure _ _ ?_ ⟨rfl,rfl⟩ cc fun _=>?_
 ·exact au _
 rcases hR with ⟨rfl,hb⟩ | ⟨rfl,hb⟩
 ·(try dsimp only[aj]);conv=>whnf
  refine .pure _ _ ?_ ⟨rfl,rfl⟩ (cp YJ (.inl ⟨rfl,hb⟩)) fun _=>?_
  ·exact au _
  (try dsimp only[aj]);conv=>whnf
  refine ⟨⟨_,_,.refl _ _,?_⟩⟩
  conv=>whnf
  refine ⟨?_,rfl,by simp [nextId],.mk ?_ (by simp [ak])⟩
  ·all_goals exact wk
  ·all_goals exact wk
 ·(try dsimp only[aj]);conv=>whnf
  refine .pure _ _ ?_ ⟨rfl,rfl⟩ (cp .bH (.inr ⟨rfl,hb⟩)) fun _=>?_
  ·exact au _
  (try dsimp only[aj]);conv=>whnf
  refine .gen _ _ (aQ.frame [2] cf ⟨rfl,rfl,rfl,rfl⟩ ?_ ?_) fun _=>?_
  ·all_goals exact wk
  ·all_goals exact wk
  (try dsimp only[aj]);conv=>whnf
  refine aY.auto (by kernel_rfl) ?_;conv=>whnf
  refine ⟨⟨_,_,.refl _ _,?_⟩⟩
  conv=>whnf
  refine ⟨?_,rfl,by simp [nextId],.mk ?_ (by simp [ak])⟩
  ·all_goals exact wk
  ·all_goals exact wk

def iR (a b : Nat) : Prop:=∀ k,a.testBit k = true -> b.testBit k = true

theorem iR.refl (a : Nat) : iR a a:=fun _ h=>h
theorem iR.trans {a b c : Nat} (h : iR a b) (g : iR b c) : iR a c:=fun k hk=>g k (h k hk)

theorem lV {a b : Nat} (ha : a < 2 ^ 63) (i : Nat) : (aJ a b).testBit i = (a.testBit i && !b.testBit i):=jg (by omega) i

theorem Jm {a b c : Nat} (ha : a < 2 ^ 63) (h : iR b c) : iR (aJ a c) (aJ a b):=by
 intro k hk
 rw [lV ha,Bool.and_eq_true,Bool.not_eq_true'] at hk ⊢
 refine ⟨hk.1,?_⟩
 cases hb : b.testBit k
 ·rfl
 ·rw [h k hb] at hk; cases hk.2

theorem iR.lt {a b n : Nat} (h : iR a b) (hb : b < 2 ^ n) : a < 2 ^ n:=by
 refine Nat.lt_pow_two_of_testBit _ fun i hi=>?_
 cases ha : a.testBit i
 ·rfl
 ·have:=h i ha
  rw [gI hb hi] at this; cases this

theorem wZ {f : Fo} (h : su f) (hs : zZ f) {a b : Nat} (hab : iR a b) (ht : dR f a = true) : dR f b = true :=
 Tj h (wF f hs) (fun i _ hi=>hab i hi) ht

theorem FK {cost : List Int} (hc : ∀ c,c ∈ cost -> 0 <= c /\ c <= 1048576) {a b : Nat} (h : iR a b) : ∀ k,mJ cost a k <= mJ cost b k
 | 0=>Int.le_refl _
 | k + 1=>by
   have ih:=FK hc h k
   have h1:=tu hc k
   rw [iI,iI]
   by_cases ha : a.testBit k = true
   ·rw [if_pos ha,if_pos (h k ha)]; omega
   ·rw [if_neg ha]
    split <;> omega

theorem uF {cost : List Int} (hc : ∀ c,c ∈ cost -> 0 <= c /\ c <= 1048576) {a b : Nat} (h : iR a b) : iF cost a <= iF cost b:=FK hc h _

theorem OA {cost : List Int} {a j : Nat} (h : a.testBit j = false) : ∀ k,mJ cost (a ||| 2 ^ j) k = mJ cost a k + if j < k then cost.getD j 0 else 0
 | 0=>by simp [mJ]
 | k + 1=>by
   have ih:=OA (cost:=cost) h k
   rw [iI,iI,ih,Nat.testBit_or,Nat.testBit_two_pow]
   by_cases e : j = k
   ·subst e
    simp [h]
   ·simp only [e,decide_false,Bool.or_false]
    by_cases hk : j < k
    ·have hk1 : j < k + 1:=by omega
     simp only [hk,hk1,if_true]
     split <;> omega
    ·have hk1 : ¬ j < k + 1:=by omega
     simp only [hk,hk1,if_false]
     split <;> omega

theorem VY {cost : List Int} {a j : Nat} (h : a.testBit j = false) (hj : j < cost.length) : iF cost (a ||| 2 ^ j) = iF cost a + cost.getD j 0:=by
 unfold iF; rw [OA h,if_pos hj]

theorem Fv {st v : Nat} : ∀ (n i : Nat),i + n = v -> nP st v n = 0 -> ∀ k,i <= k -> k < v -> st.testBit k = false
 | 0,i,h,_,k,h1,h2=>by omega
 | n + 1,i,h,hz,k,h1,h2=>by
   unfold nP at hz
   split at hz
   ·omega
   ·rename_i hb
    by_cases e : k = i
    ·rw [show v - (n + 1) = k by omega] at hb; simpa using hb
    ·exact Fv n (i + 1) (by omega) hz k (by omega) h2

theorem yS {st v : Nat} : ∀ (n i m : Nat),i + n = v -> nP st v n = m + 1 -> i <= v - (m + 1) /\ v - (m + 1) < v /\ m + 1 <= n /\ st.testBit (v - (m + 1)) = true /\ ∀ k,i <= k -> k < v - (m + 1) -> st.testBit k = false
 | 0,i,m,h,hz=>by cases hz
 | n + 1,i,m,h,hz=>by
   unfold nP at hz
   split at hz
   ·rename_i hb
    obtain rfl : n = m:=by omega
    exact ⟨by omega,by omega,Nat.le_refl _,hb,fun k h1 h2=>by omega⟩
   ·rename_i hb
    obtain ⟨h1,h2,h3,h4,h5⟩:=yS n (i + 1) m (by omega) hz
    refine ⟨by omega,h2,by omega,h4,fun k k1 k2=>?_⟩
    by_cases e : k = i
    ·rw [show v - (n + 1) = k by omega] at hb; simpa using hb
    ·exact h5 k (by omega) k2

def Ls (f : Fo) (x : RC) (s : Sc) : Prop:=s.found = true -> iR s.best x.st /\ dR f (aJ x.st s.best) = false /\ s.total = iF x.cost s.best

structure yM (f : Fo) (x : RC) (i set : Nat) (total : Int) : Prop where
 sub : iR set x.st
 lt : set < 2 ^ i
 pri : total = iF x.cost set

theorem yM.or {f : Fo} {x : RC} (h : nI f x) {i j set : Nat} {total : Int} (g : yM f x i set total) (hij : i <= j) (hj : j < f.vars.toNat) (hb : x.st.testBit j = true) : yM f x (j + 1) (set ||| 2 ^ j) (total + x.cost.getD j 0):=by
 have h0:=gI g.lt hij
 refine ⟨fun k hk=>?_,?_,?_⟩
 ·rw [Nat.testBit_or,Nat.testBit_two_pow,Bool.or_eq_true,decide_eq_true_eq] at hk
  rcases hk with hk | hk
  ·exact g.sub k hk
  ·rw [<- hk]; exact hb
 ·exact Nat.or_lt_two_pow (Nat.lt_of_lt_of_le g.lt (Nat.pow_le_pow_right (by decide) (by omega))) (Nat.pow_lt_pow_right (by decide) (by omega))
 ·rw [VY h0 (by rw [h.len]; exact hj),g.pri]

theorem yM.up {f : Fo} {x : RC} {i j set : Nat} {total : Int} (g : yM f x i set total) (hij : i <= j) : yM f x j set total :=
 ⟨g.sub,Nat.lt_of_lt_of_le g.lt (Nat.pow_le_pow_right (by decide) hij),g.pri⟩

theorem RP {s : Sc} {set : Nat} {total : Int} (h : nO s set total = true) : s.found = true /\ s.total <= total:=by
 unfold nO at h
 split at h
 ·rw [Bool.and_eq_true,decide_eq_true_eq] at h
  exact ⟨h.1,by omega⟩
 ·rename_i hn
  simp at hn
  exact ⟨hn.1,by omega⟩

theorem VX {s : Sc} {set : Nat} {total : Int} (h : CG s set total = true) : s.found = true /\ s.total <= total:=by
 unfold CG at h
 simp at h
 exact ⟨h.1,by omega⟩

theorem JD {s : Sc} {set : Nat} {total : Int} (h : ¬ nO s set total = true) (hf : s.found = true) : total <= s.total:=by
 by_cases e : total = s.total
 ·omega
 ·unfold nO at h
  rw [hf] at h
  simp [e] at h
  omega

theorem sZ {f : Fo} {x : RC} (h : nI f x) : ∀ (fuel n i set : Nat) (total : Int) (s : Sc),i + n = f.vars.toNat -> yM f x i set total -> Ls f x s ->
  Ls f x (jS f x fuel n set total s) /\ (s.found = true -> (jS f x fuel n set total s).found = true /\ (jS f x fuel n set total s).total <= s.total)
 | 0,_,_,_,_,_,_,_,hs=>⟨hs,fun hf=>⟨hf,Int.le_refl _⟩⟩
 | fuel + 1,n,i,set,total,s,hin,g,hs=>by
   have same : Ls f x s /\ (s.found = true -> s.found = true /\ s.total <= s.total):=⟨hs,fun hf=>⟨hf,Int.le_refl _⟩⟩
   unfold jS
   split
   ·exact same
   ·split
    ·exact same
    ·split
     ·rename_i h2
      split
      ·exact same
      ·rename_i hw
       exact ⟨fun _=>⟨g.sub,h2,g.pri⟩,fun hf=>⟨rfl,JD hw hf⟩⟩
     ·split
      ·exact same
      ·rename_i m hm
       obtain ⟨k1,k2,k3,k4,k5⟩:=yS n i m hin hm
       obtain ⟨a1,a2⟩:=sZ h fuel m (f.vars.toNat - (m + 1) + 1) _ _ s (by omega) (g.or h k1 k2 k4) hs
       obtain ⟨b1,b2⟩:=sZ h fuel m (f.vars.toNat - (m + 1) + 1) set total _ (by omega) (g.up (by omega)) a1
       exact ⟨b1,fun hf=>⟨(b2 (a2 hf).1).1,Int.le_trans (b2 (a2 hf).1).2 (a2 hf).2⟩⟩

theorem Dl {f : Fo} {x : RC} (h : nI f x) {s' : Nat} (hsub : iR s' x.st) (hok : dR f (aJ x.st s') = false) : ∀ (fuel n i set : Nat) (total : Int) (s : Sc),n < fuel -> i + n = f.vars.toNat -> yM f x i set total -> Ls f x s ->
  (∀ k,k < i -> s'.testBit k = set.testBit k) -> (jS f x fuel n set total s).found = true /\ (jS f x fuel n set total s).total <= iF x.cost s'
 | 0,n,_,_,_,_,hn,_,_,_,_=>absurd hn (Nat.not_lt_zero n)
 | fuel + 1,n,i,set,total,s,hn,hin,g,hs,hag=>by
   have hst : x.st < 2 ^ 63:=Nat.lt_of_lt_of_le h.st (Nat.pow_le_pow_right (by decide) (by have:=h.vars; omega))
   have hss : iR set s':=fun k hk=>by
    by_cases hki : k < i
    ·rw [hag k hki]; exact hk
    ·rw [gI g.lt (by omega)] at hk; cases hk
   have hle : total <= iF x.cost s':=by rw [g.pri]; exact uF h.rng hss
   unfold jS
   split
   ·rename_i hp
    have:=VX hp
    exact ⟨this.1,by omega⟩
   ·split
    ·rename_i h1
     refine absurd (wZ h.ok h.syn (Jm hst ?_) h1) (by rw [hok]; decide)
     intro k hk
     rw [Nat.testBit_or,Bool.or_eq_true]
     by_cases hki : k < i
     ·left; rw [<- hag k hki]; exact hk
     ·right
      rw [lV hst,hsub k hk,show f.vars.toNat - n = i by omega,Nat.testBit_two_pow_sub_one]
      simp; omega
    ·split
     ·split
      ·rename_i hw
       have:=RP hw
       exact ⟨this.1,by omega⟩
      ·exact ⟨rfl,hle⟩
     ·rename_i h2
      split
      ·rename_i hz
       refine absurd ?_ h2
       have hz:=Fv n i hin hz
       cases ht : dR f (aJ x.st set)
       ·rfl
       ·refine absurd (wZ h.ok h.syn (Jm hst ?_) ht) (by rw [hok]; decide)
        intro k hk
        by_cases hki : k < i
        ·rw [<- hag k hki]; exact hk
        ·have h3:=hsub k hk
         by_cases hkv : k < f.vars.toNat
         ·rw [hz k (by omega) hkv] at h3; cases h3
         ·rw [gI h.st (by omega)] at h3; cases h3
      ·rename_i m hm
       obtain ⟨k1,k2,k3,k4,k5⟩:=yS n i m hin hm
       have g1:=g.or h k1 k2 k4
       obtain ⟨a1,a2⟩:=sZ h fuel m (f.vars.toNat - (m + 1) + 1) _ _ s (by omega) g1 hs
       have hrest : ∀ k,k < f.vars.toNat - (m + 1) -> s'.testBit k = set.testBit k:=fun k hk=>by
        by_cases hki : k < i
        ·exact hag k hki
        ·rw [gI g.lt (by omega)]
         cases hb : s'.testBit k
         ·rfl
         ·have:=hsub k hb
          rw [k5 k (by omega) hk] at this; cases this
       by_cases hb : s'.testBit (f.vars.toNat - (m + 1)) = true
       ·obtain ⟨c1,c2⟩:=Dl h hsub hok fuel m (f.vars.toNat - (m + 1) + 1) _ _ s (by omega) (by omega) g1 hs fun k hk=>by
         rw [Nat.testBit_or,Nat.testBit_two_pow]
         by_cases e : k = f.vars.toNat - (m + 1)
         ·subst e; rw [hb]; simp
         ·rw [hrest k (by omega)]
          have e2 : ¬ f.vars.toNat - (m + 1) = k:=fun h=>e h.symm
          simp [e2]
        obtain ⟨b1,b2⟩:=sZ h fuel m (f.vars.toNat - (m + 1) + 1) set total _ (by omega) (g.up (by omega)) a1
        exact ⟨(b2 c1).1,Int.le_trans (b2 c1).2 c2⟩
       ·refine Dl h hsub hok fuel m (f.vars.toNat - (m + 1) + 1) set total _ (by omega) (by omega) (g.up (by omega)) a1 fun k hk=>?_
        by_cases e : k = f.vars.toNat - (m + 1)
        ·subst e
         rw [gI g.lt k1]
         simpa using hb
        ·exact hrest k (by omega)

theorem MO {a : Nat} (h : a < 2 ^ 63) : aJ a a = 0:=MP h

structure G5 (f : Fo) (x : RC) (set : Nat) (total : Int) : Prop where
 sub : iR set x.st
 ok : dR f (aJ x.st set) = false
 pri : total = iF x.cost set
 min : ∀ s',iR s' x.st -> dR f (aJ x.st s') = false -> total <= iF x.cost s'

theorem Gq {f : Fo} {x : RC} (h : nI f x) (h0 : dR f 0 = false) : G5 f x (oq f x).best (oq f x).total:=by
 have hst : x.st < 2 ^ 63:=Nat.lt_of_lt_of_le h.st (Nat.pow_le_pow_right (by decide) (by have:=h.vars; omega))
 have hz : iR 0 x.st:=fun k hk=>by rw [Nat.zero_testBit] at hk; cases hk
 have g : yM f x 0 0 0:=⟨hz,by decide,by
  unfold iF
  generalize x.cost.length = n
  induction n with
  | zero=>rfl
  | succ n ih=>rw [iI,if_neg (by rw [Nat.zero_testBit]; decide)]; exact ih⟩
 have hs : Ls f x ⟨0,0,false⟩:=fun e=>by cases e
 have hmin:=fun s' h1 h2=>Dl h (s':=s') h1 h2 (f.vars.toNat + 1) f.vars.toNat 0 0 0 ⟨0,0,false⟩ (Nat.lt_succ_self _) (by omega) g hs fun k hk=>absurd hk (Nat.not_lt_zero k)
 have hf:=(hmin x.st (iR.refl _) (by rw [MO hst]; exact h0)).1
 obtain ⟨i1,_⟩:=sZ h (f.vars.toNat + 1) f.vars.toNat 0 0 0 ⟨0,0,false⟩ (by omega) g hs
 obtain ⟨j1,j2,j3⟩:=i1 hf
 exact ⟨j1,j2,j3,fun s' h1 h2=>(hmin s' h1 h2).2⟩

theorem Qo {f : Fo} {x : RC} (h : nI f x) (h0 : dR f 0 = true) (s' : Nat) : dR f (aJ x.st s') = true :=
 wZ h.ok h.syn (fun k hk=>absurd hk (by rw [Nat.zero_testBit]; decide)) h0

abbrev ent (i : Int) (a b : AV) : AV:=.ag [.int .i64 i,a,b]
abbrev Wj (s : Nat) (log : AV) : AV:=.ag [vF.av,.int .i64 (s : Int),log]
abbrev Zj (s : Nat) : Heap:=[(0,.box (Wj s .aV))]
abbrev X9 (s : Nat) : Heap:=[(1,.tok 3 1),(0,.box (Wj s (.sl 3 [ent 0 .tt .ff] (.own 1))))]
abbrev Zi (s : Nat) : Heap:=[(1,.tok 3 2),(0,.box (Wj s (.sl 3 [ent 0 .tt .ff,ent 2 .tt .tt] (.own 1))))]

theorem UG (s t : Nat) (ht : t < 8) (H : Heap) (hl : H = Zj s \/ H = X9 s \/ H = Zi s) : aQ Tryz.prog 78 [.ptr 0 [] 0,.int .i64 (t : Int)] H (.bool (dR vF t)) H:=by
 have cv:=kT vF RS t ht
 rw [show (valsF vF.vars.toNat t vF.nodes).getD vF.top.toNat false = dR vF t from rfl] at cv
 generalize dR vF t = b at *
 rcases hl with rfl | rfl | rfl
 all_goals
  refine aQ.intro lay mixed Tryz.func78 (by kernel_rfl) rfl (by kernel_rfl) rfl fun hok=>?_
  (try dsimp only[aP,aC]);(try dsimp only[aj]);conv=>whnf
  refine .pure _ _ ?_ ⟨rfl,rfl⟩ cv fun _=>?_
  ·exact au _
  (try dsimp only[aj]);conv=>whnf
  refine ⟨⟨_,_,.refl _ _,?_⟩⟩
  conv=>whnf
  refine ⟨?_,rfl,by simp [nextId],.mk ?_ (by simp [ak])⟩
  ·all_goals exact wk
  ·all_goals exact wk

theorem UH (s : Nat) (hs : s < 8) (H : Heap) (hl : H = Zj s \/ H = X9 s \/ H = Zi s) : aQ Tryz.prog 62 [.ptr 0 [] 0] H (.bool (dR vF s)) H:=by
 have cv:=UG s s hs H hl
 generalize dR vF s = b at *
 rcases hl with rfl | rfl | rfl
 all_goals
  refine aQ.intro lay mixed Tryz.func62 (by kernel_rfl) rfl (by kernel_rfl) rfl fun hok=>?_
  (try dsimp only[aP,aC]);(try dsimp only[aj]);conv=>whnf
  refine .gen _ _ cv fun _=>?_
  (try dsimp only[aj]);conv=>whnf
  refine ⟨⟨_,_,.refl _ _,?_⟩⟩
  conv=>whnf
  refine ⟨?_,rfl,by simp [nextId],.mk ?_ (by simp [ak])⟩
  ·all_goals exact wk
  ·all_goals exact wk

theorem Rf (s : Nat) (H : Heap) (hl : H = Zj s \/ H = X9 s \/ H = Zi s) : aQ Tryz.prog 18 [.ptr 0 [] 0] H (.int .i64 (s : Int)) H:=by
 rcases hl with rfl | rfl | rfl
 all_goals
  refine aQ.intro lay mixed Tryz.func18 (by kernel_rfl) rfl (by kernel_rfl) rfl fun hok=>?_
  (try dsimp only[aP,aC]);(try dsimp only[aj]);conv=>whnf
  refine ⟨⟨_,_,.refl _ _,?_⟩⟩
  conv=>whnf
  refine ⟨?_,rfl,by simp [nextId],.mk ?_ (by simp [ak])⟩
  ·all_goals exact wk
  ·all_goals exact wk

theorem WZ : aQ Tryz.prog 39 [.ptr 0 [] 0,.int .i64 0,.tt] (Zj 0) (.dA [.ff,.bH]) (X9 1):=by
 have ct:=UH 1 (by decide) (Zj 1) (.inl rfl)
 rw [show dR vF 1 = false by kernel_rfl] at ct
 have ct:=ct.weak (R':=.ff) rfl
 refine aQ.intro lay mixed Tryz.func39 (by kernel_rfl) rfl (by kernel_rfl) rfl fun hok=>?_
 (try dsimp only[aP,aC]);(try dsimp only[aj]);conv=>whnf
 refine bN (by decide) ?_
 (try dsimp only[aj]);conv=>whnf
 refine bN (by decide) ?_
 (try dsimp only[aj]);conv=>whnf
 refine ⟨by decide,?_⟩
 (try dsimp only[aj]);conv=>whnf
 refine bN (by decide +kernel) ?_
 (try dsimp only[aj]);conv=>whnf
 refine bN (by decide +kernel) ?_
 (try dsimp only[aj]);conv=>whnf
 refine aY.auto (by kernel_rfl) ?_;conv=>whnf
 refine ⟨by decide,?_⟩
 (try dsimp only[aj]);conv=>whnf
 rw [(show dI .xor .i64 ((0 : Nat) : Int) (yT .i64 1 0) = ((1 : Nat) : Int) by decide +kernel)]
 refine .gen _ _ ct fun _=>?_
 (try dsimp only[aj]);conv=>whnf
 refine .tok (by simp [maxL]) (by simp) ?_
 (try dsimp only[aj]);conv=>whnf
 refine ⟨⟨_,_,.refl _ _,?_⟩⟩
 conv=>whnf
 refine ⟨?_,rfl,by simp [nextId],.mk ?_ (by simp [ak])⟩
 ·all_goals exact wk
 ·all_goals exact wk

theorem WY : aQ Tryz.prog 39 [.ptr 0 [] 0,.int .i64 2,.tt] (X9 1) (.dA [.tt,.bH]) (Zi 5):=by
 have ct:=UH 5 (by decide) (X9 5) (.inr (.inl rfl))
 rw [show dR vF 5 = true by kernel_rfl] at ct
 have ct:=ct.weak (R':=.tt) rfl
 refine aQ.intro lay mixed Tryz.func39 (by kernel_rfl) rfl (by kernel_rfl) rfl fun hok=>?_
 (try dsimp only[aP,aC]);(try dsimp only[aj]);conv=>whnf
 refine bN (by decide) ?_
 (try dsimp only[aj]);conv=>whnf
 refine bN (by decide) ?_
 (try dsimp only[aj]);conv=>whnf
 refine ⟨by decide,?_⟩
 (try dsimp only[aj]);conv=>whnf
 refine bN (by decide +kernel) ?_
 (try dsimp only[aj]);conv=>whnf
 refine bN (by decide +kernel) ?_
 (try dsimp only[aj]);conv=>whnf
 refine aY.auto (by kernel_rfl) ?_;conv=>whnf
 refine ⟨by decide,?_⟩
 (try dsimp only[aj]);conv=>whnf
 rw [(show dI .xor .i64 ((1 : Nat) : Int) (yT .i64 1 2) = ((5 : Nat) : Int) by decide +kernel)]
 refine .gen _ _ ct fun _=>?_
 (try dsimp only[aj]);conv=>whnf
 refine ⟨rfl,.mk (by simp [maxL]) (by simp) ?_⟩
 (try dsimp only[aj]);conv=>whnf
 refine ⟨⟨_,_,.refl _ _,?_⟩⟩
 conv=>whnf
 refine ⟨?_,rfl,by simp [nextId],.mk ?_ (by simp [ak])⟩
 ·all_goals exact wk
 ·all_goals exact wk

theorem Xq : aQ Tryz.prog 17 [.ptr 0 [] 0,.int .i64 0] (Zj 0) (.dA [.ff,.bH]) (X9 1):=by
 refine aQ.intro lay mixed Tryz.func17 (by kernel_rfl) rfl (by kernel_rfl) rfl fun hok=>?_
 (try dsimp only[aP,aC]);(try dsimp only[aj]);conv=>whnf
 refine .gen _ _ WZ fun _=>?_
 (try dsimp only[aj]);conv=>whnf
 refine ⟨⟨_,_,.refl _ _,?_⟩⟩
 conv=>whnf
 refine ⟨?_,rfl,by simp [nextId],.mk ?_ (by simp [ak])⟩
 ·all_goals exact wk
 ·all_goals exact wk

theorem Xp : aQ Tryz.prog 17 [.ptr 0 [] 0,.int .i64 2] (X9 1) (.dA [.tt,.bH]) (Zi 5):=by
 refine aQ.intro lay mixed Tryz.func17 (by kernel_rfl) rfl (by kernel_rfl) rfl fun hok=>?_
 (try dsimp only[aP,aC]);(try dsimp only[aj]);conv=>whnf
 refine .gen _ _ WY fun _=>?_
 (try dsimp only[aj]);conv=>whnf
 refine ⟨⟨_,_,.refl _ _,?_⟩⟩
 conv=>whnf
 refine ⟨?_,rfl,by simp [nextId],.mk ?_ (by simp [ak])⟩
 ·all_goals exact wk
 ·all_goals exact wk

theorem UF : aQ Tryz.prog 38 [vF.av] [] vF.av []:=by
 have cc:=Gw [0,1,2] (by decide)
 refine aQ.intro lay mixed Tryz.func38 (by kernel_rfl) rfl (by kernel_rfl) rfl fun hok=>?_
 (try dsimp only[aP,aC]);(try dsimp only[aj]);conv=>whnf
 refine aN.step 2 ?_
 (try dsimp only[aj]);conv=>whnf
 refine bY (by decide) ?_
 (try dsimp only[aj]);conv=>whnf
 refine kE.mk ⟨_,⟨by decide,rfl⟩,?_⟩
 (try dsimp only[aj]);conv=>whnf
 refine aY.auto (by kernel_rfl) ?_;conv=>whnf
 refine dV.pure _ _ ?_ ⟨rfl,rfl⟩ cc ?_
 ·exact au _
 conv=>whnf
 refine .pure (by simp [maxL]) (by simp) ?_
 (try dsimp only[aj]);conv=>whnf
 refine zA ?_;conv=>whnf
 refine bN (by decide) ?_
 (try dsimp only[aj]);conv=>whnf
 refine ⟨⟨_,_,.refl _ _,?_⟩⟩
 conv=>whnf
 refine ⟨?_,rfl,by simp [nextId],.mk ?_ (by simp [ak])⟩
 ·all_goals exact wk
 ·all_goals exact wk

theorem YT : aQ Tryz.prog 15 [vF.av] [] (.dA [.ptr 1 [] 0,.bH]) [(1,.box (Wj 0 .aV))]:=by
 have c1:=DY vF RS
 have c2:=UF
 refine aQ.intro lay mixed Tryz.func15 (by kernel_rfl) rfl (by kernel_rfl) rfl fun hok=>?_
 (try dsimp only[aP,aC]);(try dsimp only[aj]);conv=>whnf
 refine .pure _ _ ?_ ⟨rfl,rfl⟩ c1 fun _=>?_
 ·exact au _
 (try dsimp only[aj]);conv=>whnf
 refine .pure _ _ ?_ ⟨rfl,rfl⟩ c2 fun _=>?_
 ·exact au _
 (try dsimp only[aj]);conv=>whnf
 refine ⟨⟨_,_,.refl _ _,?_⟩⟩
 conv=>whnf
 refine ⟨?_,rfl,by simp [nextId],.mk ?_ (by simp [ak])⟩
 ·all_goals exact wk
 ·all_goals exact wk

def xV : RC:=⟨5,[4,1,3]⟩

theorem Yk : zZ vF:=fun i hi _=>by
 have : i = 0:=by simp [vF] at hi; omega
 subst this; rfl

theorem Zk : nI vF xV:=⟨RS,by decide,by decide,Yk,by decide,by decide,by decide⟩

theorem kU : aQ Tryz.prog 4 [] [] .tt []:=by
 have cc:=ru vF xV Zk _ (.inr ⟨rfl,by kernel_rfl⟩)
 rw [show oq vF xV = ⟨4,3,true⟩ by kernel_rfl] at cc
 dsimp only at cc
 have cF:=Rf 5 (Zi 5) (.inr (.inr rfl))
 refine aQ.intro lay mixed Tryz.func4 (by kernel_rfl) rfl (by kernel_rfl) rfl fun hok=>?_
 (try dsimp only[aP,aC]);(try dsimp only[aj]);conv=>whnf
 refine .pure _ _ ?_ ⟨rfl,rfl⟩ KL fun _=>?_
 ·exact au _
 (try dsimp only[aj]);conv=>whnf
 refine .gen _ _ YT fun _=>?_
 (try dsimp only[aj]);conv=>whnf
 refine .gen _ _ (aQ.frame [1] Xq ⟨rfl,rfl,rfl,rfl⟩ ?_ ?_) fun _=>?_
 ·all_goals exact wk
 ·all_goals exact wk
 (try dsimp only[aj]);conv=>whnf
 refine .gen _ _ (aQ.frame [1,2] Xp ⟨rfl,rfl,rfl,rfl⟩ ?_ ?_) fun _=>?_
 ·all_goals exact wk
 ·all_goals exact wk
 (try dsimp only[aj]);conv=>whnf
 refine .pure _ _ ?_ ⟨rfl,rfl⟩ KL fun _=>?_
 ·exact au _
 (try dsimp only[aj]);conv=>whnf
 refine .pure _ _ ?_ ⟨rfl,rfl⟩ cc fun _=>?_
 ·all_goals exact wk
 (try dsimp only[aj]);conv=>whnf
 refine .gen _ _ (aQ.frame [1,2] cF ⟨rfl,rfl,rfl,rfl⟩ ?_ ?_) fun _=>?_
 ·all_goals exact wk
 ·all_goals exact wk
 (try dsimp only[aj]);conv=>whnf
 refine bY (by decide) ?_
 (try dsimp only[aj]);conv=>whnf
 refine bY (by decide) ?_
 (try dsimp only[aj]);conv=>whnf
 refine ⟨⟨_,_,.refl _ _,?_⟩⟩
 conv=>whnf
 refine ⟨?_,rfl,by simp [nextId],.mk ?_ (by simp [ak])⟩
 ·all_goals exact wk
 ·all_goals exact wk
end S

namespace Go.AL

end Go.AL

namespace Go.AL

theorem aN.invX {ws : List Nat} {body : (AX -> Env -> Heap -> Prop) -> Env -> Heap -> Prop} {Q : AX -> Env -> Heap -> Prop} {e : Env} {H : Heap} {e₁ : Env} {H₁ : Heap}
  (cv : Cv e H e₁ H₁) {ι : Type} (Inv : ι -> Prop) (E : ι -> Env) (HS : ι -> Heap) (μ : ι -> Nat) (i₀ : ι) (hI : Inv i₀) (hn : ∀ i,nextId (HS i) = nextId H₁) (h0 : Fe e₁ (nextId H₁) (E i₀) /\ HWk H₁ (HS i₀))
  (qQ : ∀ i,Inv i -> OkE (E i) -> Df ws e₁ fun kept=>Rn (E i) kept fun e'=>body (fun x e' H'=>match x with
    | .normal=>(∃ i',Inv i' /\ (∃ e₂ H₂,Cv e' H' e₂ H₂ /\ (Fe e₂ (nextId (HS i')) (E i') /\ HWk H₂ (HS i'))) /\ μ i' < μ i) \/ ∃ n,LoopN Ok ws body Q n e' H'
    | x=>Q x e' H') e' (HS i)) : aN Ok ws body Q e H:=by
 refine .esc ⟨e₁,H₁,{ i : ι // Inv i },fun i=>E i.1,keep ws e₁,fun i=>HS i.1,fun i=>μ i.1,⟨i₀,hI⟩,fun i e' H'=>∃ i',Inv i' /\ (∃ e₂ H₂,Cv e' H' e₂ H₂ /\ (Fe e₂ (nextId (HS i')) (E i') /\ HWk H₂ (HS i'))) /\ μ i' < μ i.1,fun i e' H' h=>?_,cv,fun t A hm=>?_,fun i=>hn i.1,h0,fun i hi=>?_⟩
 ·obtain ⟨i',h1,⟨e₂,H₂,h2,h3⟩,h4⟩:=h
  exact ⟨⟨i',h1⟩,e₂,H₂,h2,h3,h4⟩
 ·obtain ⟨h1,h2⟩:=xJ hm
  exact ⟨h1,by simpa using h2⟩
 ·exact Ee.1 (uK.1 (qQ i.1 i.2 (Oa hi)))
end Go.AL

open Go Go.AL Go.Proofs
namespace S
set_option maxRecDepth 100000

theorem GZ {c d : Cx} (h : c.Le d) : ∀ {As : List AV} {vs : List Value},uV c As vs -> uV d As vs
 | [],_,hv=>hv
 | _ :: _,_,⟨v,r,e,h1,h2⟩=>⟨v,r,e,iM h h1,GZ h h2⟩

theorem aQ.borrow {P : Program} {f sz : Nat} {As l : List AV} {b : Bool} (hl : l.length <= maxL) (hb : fH 0 As = true) (h : aQ P f (.sl sz l .no :: As) [] (.bool b) []) :
  aQ P f (.gs 0 l.length :: As) [(0,.dU sz l)] (.bool b) [(0,.dU sz l)]:=by
 refine ⟨h.1,fun c vs hr hv=>?_⟩
 obtain ⟨v,r,rfl,hv1,hv2⟩:=hv
 have ho : hget [(0,HO.dU sz l)] 0 = some (.dU sz l):=rfl
 obtain ⟨d,hw,htr,hVV⟩:=Tr.uO hr ho hl (kY hv1 rfl)
 have htr : Tr c [(0,.dU sz l)] d [(0,.gone)]:=htr
 have hbn : fH 0 (.sl sz l .no :: As) = true:=by simp only [fH,dD]; exact hb
 have hF:=aQ.frame (H:=[(0,HO.gone)]) (args:=.sl sz l .no :: As) [] h ⟨rfl,rfl,rfl,hbn⟩ trivial (by rw [Ci (m:=0) (fun k hk=>absurd hk (Nat.not_lt_zero k)) _ hbn]; exact au _)
 have hcall:=hF.2 d (v :: r) htr.hr ⟨v,r,rfl,aS hVV,GZ htr.le hv2⟩
 rw [hw] at hcall
 refine hcall.mono ?_
 rintro e w' ⟨v2,d2,rfl,rfl,wo,hR⟩
 have T:=htr.trans wo
 let d3 : Cx:={ c with w:=d2.w }
 have le : c.Le d3:=⟨fun b o hi=>⟨hi,(T.le.im b o hi).2⟩,Nat.le_refl _,fun _ _=>rfl,fun k n _ hn=>.inl ⟨hn,rfl⟩⟩
 have hblk : ∀ x,aB d3 x = aB c x:=fun x=>rfl
 have hsame : ∀ b',b' < c.w.heap.size -> d2.w.heap[b']? = c.w.heap[b']?:=by
  intro b' hb'
  rw [wo.fr b' (by rw [hw]; exact hb') (by intro x hx; simp at hx; subst hx; simp [aB]),hw]
 have hok : (HO.dU sz l).Ok d3 0:=by
  rcases hr.oK ho with h1 | ⟨b',cs,ty,g1,g2,g3,g4,g5,g6,g7⟩
  ·exact .inl h1
  ·refine .inr ⟨b',cs,ty,g1,?_,g3,g4,g5,kW le g6,g7⟩
   rw [show d3.w.heap[b']? = c.w.heap[b']? from hsame b' (Array.getElem?_eq_some_iff.1 g2).1]; exact g2
 have hRv : EV d3 (.bool b) v2:=by
  have:=fO (kY (A:=.bool b) hR rfl)
  rw [this]
  exact aS (dJ rfl rfl (by simp only [VR,Rd]))
 refine ⟨v2,d3,rfl,rfl,⟨⟨hr.nx,hr.tp,hr.ids,fun b o hi=>Nat.lt_of_lt_of_le (hr.im b o hi) T.size,fun x hx=>?_,hr.apart⟩,le,T.os,T.tape,T.output,T.size,T.fr,fun y hy b' hb'=>.inr ⟨y,hy,hb'⟩,fun b o hi=>.inl hi⟩,hRv⟩
 simp at hx
 subst hx
 exact hok

theorem NH (l : List Int) (hN : l.length <= 1000000000) : dO Tryz.prog 72 [.sl 1 (l.map (.int .i64)) .no] [] (fun R H'=>∃ m : List Int,R = .gs 0 (m.map (AV.int .i64)).length /\ H' = [(0,.dU 1 (m.map (.int .i64)))] /\ Bd l m):=by
 have cs:=KN l hN
 refine dO.lD (.r 2 (.s (.s .n (.b (.b (.r 2 (.s (.b (.r 1 (.f [1] .n))) .n))))) .n)) lay mixed Tryz.func72 (by kernel_rfl) rfl (by kernel_rfl) rfl fun hok=>?_
 (try dsimp only[aP,aC]);(try dsimp only[aj]);conv=>whnf
 refine .rel _ cs fun R H' hq _=>?_
 obtain ⟨rfl,-,k,rfl,hk1,hk2,hk3⟩:=hq
 have hM:=OJ hk1 hk2 hk3
 (try dsimp only[aj]);conv=>whnf
 refine aN.of <| (aA.inv (.XU 3 1 rfl (.refl _ _)) (fun i : Nat=>i <= k.length) (fun i=>[(9,.int .i64 (i : Int)),(3,.gs 0 (((k.take i).foldl dh []).map (AV.int .i64)).length)]) (fun i=>[(0,.dU 1 (((k.take i).foldl dh []).map (.int .i64)))]) (fun i=>k.length - i) 0 (Nat.zero_le _) ?_ ?_ ?_)
 ·exact fun _=>rfl
 ·refine ⟨?_,.mk ?_ (by simp [ak])⟩
  ·all_goals exact wk
  ·all_goals exact wk
 intro i hi _
 (try dsimp only[aj]);conv=>whnf
 refine And.intro (fun g=>?_) (fun g=>?_)
 ·have hlt : i < k.length:=by simpa using g
  have hst : (k.take (i + 1)).foldl dh [] = dh ((k.take i).foldl dh []) k[i]:=iY hlt
  have hlen:=(Wn (m:=[]) (k.take i) []).2.2.2
  rw [List.length_take] at hlen
  simp only [List.length_nil,Nat.zero_add] at hlen
  (try dsimp only[aj]);conv=>whnf
  refine iq hlt ?_
  generalize k[i] = x at *
  generalize (k.take i).foldl dh [] = o at *
  have hc:=jq o 89 [.cp (.int .i64 x)] (fun t=>lq t x) [] (fun t _=>UE x t)
  (try dsimp only[aj]);conv=>whnf
  refine ⟨⟨rfl,rfl⟩,?_⟩
  (try dsimp only[aj]);conv=>whnf
  have hcb:=aQ.borrow (b:=o.any fun t=>lq t x) (by rw [List.length_map]; simp [maxL]; omega) rfl hc
  refine .gen _ _ (aQ.frame [0] hcb ⟨rfl,rfl,rfl,rfl⟩ ?_ ?_) fun _=>?_
  ·all_goals exact wk
  ·all_goals exact wk
  (try dsimp only[aj]);conv=>whnf
  generalize hab : (o.any fun t=>lq t x) = b
  refine And.intro (fun ha=>?_) (fun ha=>?_)
  ·have hf : b = false:=by simpa using ha
   subst hf
   rw [show dh o x = o ++ [x] from if_neg (by rw [hab]; exact Bool.false_ne_true)] at hst
   (try dsimp only[aj]);conv=>whnf
   refine ⟨rfl,by simp,?_⟩
   (refine ⟨by simp [maxL] <;> omega,by simp <;> omega,?_⟩;(conv=>whnf))
   refine zA ?_;conv=>whnf
   refine ⟨i + 1,?_,?_,?_⟩
   ·exact hlt
   ·rw [hst]
    refine ⟨?_,.mk ?_ (by simp [ak])⟩
    ·repeat' first|exact rfl|exact trivial|exact wR|exact lR _|apply aI
     all_goals (rw [List.map_append,List.length_append]; exact rfl)
    ·repeat' first|exact rfl|exact trivial|exact wR|exact lR _|apply aI
     all_goals first | (refine bM ?_; rw [List.map_append]; rfl) | skip
   ·omega
  ·have hf : b = true:=by simpa using ha
   subst hf
   rw [show dh o x = o from if_pos hab] at hst
   (try dsimp only[aj]);conv=>whnf
   refine zA ?_;conv=>whnf
   refine ⟨i + 1,?_,?_,?_⟩
   ·exact hlt
   ·rw [hst]
    refine ⟨?_,.mk ?_ (by simp [ak])⟩
    ·all_goals exact wk
    ·all_goals exact wk
   ·omega
 ·have hk : i = k.length:=by have : ¬ i < k.length:=by simpa using g
                             omega
  subst hk
  rw [List.take_length]
  (try dsimp only[aj]);conv=>whnf
  refine ⟨_,_,⟨_,rfl,rfl,hM⟩,?_⟩
  refine ⟨⟨_,_,.refl _ _,?_⟩⟩
  conv=>whnf
  refine ⟨?_,rfl,by simp [nextId],.mk ?_ (by simp [ak])⟩
  ·all_goals exact wk
  ·all_goals exact wk

theorem KO (l : List Int) (hN : l.length <= 1000000000) (R : AV) (hR : R = if l.length <= 1024 then .dA [.gs 0 (l.map (AV.int .i64)).length,.bH] else .dA [.aV,eL]) : aQ Tryz.prog 86 [.gs 0 (l.map (AV.int .i64)).length] [(0,.dU 1 (l.map (.int .i64)))] R [(0,.dU 1 (l.map (.int .i64)))]:=by
 refine aQ.intro lay mixed Tryz.func86 (by kernel_rfl) rfl (by kernel_rfl) rfl fun hok=>?_
 (try dsimp only[aP,aC]);(try dsimp only[aj]);conv=>whnf
 refine ⟨rfl,?_⟩
 (try dsimp only[aj]);conv=>whnf
 refine And.intro (fun g=>?_) (fun g=>?_)
 ·have : ¬ l.length <= 1024:=by simp at g; omega
  rw [if_neg this] at hR
  subst hR
  (try dsimp only[aj]);conv=>whnf
  refine ⟨⟨_,_,.refl _ _,?_⟩⟩
  conv=>whnf
  refine ⟨?_,rfl,by simp [nextId],.mk ?_ (by simp [ak])⟩
  ·all_goals exact wk
  ·all_goals exact wk
 ·have : l.length <= 1024:=by simp at g; omega
  rw [if_pos this] at hR
  subst hR
  (try dsimp only[aj]);conv=>whnf
  refine ⟨⟨_,_,.refl _ _,?_⟩⟩
  conv=>whnf
  refine ⟨?_,rfl,by simp [nextId],.mk ?_ (by simp [ak])⟩
  ·all_goals exact wk
  ·all_goals exact wk

def ProdQ (a b : List Int) : AV -> Heap -> Prop:=fun R H'=>(R = .dA [.aV,eL] /\ H' = []) \/ ∃ m : List Int,R = .dA [.gs 2 (m.map (AV.int .i64)).length,.bH] /\ H' = [(2,.dU 1 (m.map (.int .i64)))] /\ qC a b m

theorem NC (a b : List Int) (ha : bQ a) (hb : bQ b) : dO Tryz.prog 70 [iA a,iA b] [] (ProdQ a b):=by
 have cl:=Bz [a,b] (by intro l hl; simp at hl; rcases hl with rfl | rfl <;> assumption) (by simp)
 have h1:=ha.len
 have h2:=hb.len
 refine dO.intro lay mixed Tryz.func70 (by kernel_rfl) rfl (by kernel_rfl) rfl fun hok=>?_
 (try dsimp only[aP,aC]);(try dsimp only[aj]);conv=>whnf
 refine .pure _ _ ?_ ⟨rfl,rfl⟩ cl fun _=>?_
 ·exact ⟨⟨rfl,bK _⟩,trivial⟩
 (try dsimp only[aj]);conv=>whnf
 refine .rel _ (wI a (by omega)) fun R H' hq _=>?_
 obtain ⟨rfl,-,a',rfl,hma⟩:=hq
 (try dsimp only[aj]);conv=>whnf
 refine .rel _ (wI b (by omega)) fun R H' hq _=>?_
 obtain ⟨rfl,-,b',rfl,hmb⟩:=hq
 have hal:=hma.len
 have hbl:=hmb.len
 have ZG:=jw b' a' []
 have ZF:=jw b' a' []
 (try dsimp only[aj]);conv=>whnf
 refine aN.of <| (aA.inv (.grow 8 1 [] .aV rfl (.inl ⟨rfl,rfl⟩) (.refl _ _)) (fun i : Nat=>i <= a'.length) (fun i=>[(28,.int .i64 (i : Int)),(8,.sl 1 (((a'.take i).foldl (fun us x=>uRow x us b') []).map (.int .i64)) (.own 1))]) (fun i=>[(1,.tok 1 ((a'.take i).foldl (fun us x=>uRow x us b') []).length),(0,.iK (.int .i64 0) (Dq ((a'.take i).foldl (fun us x=>uRow x us b') [])))]) (fun i=>a'.length - i) 0 (Nat.zero_le _) ?_ ?_ ?_)
 ·exact fun _=>rfl
 ·refine ⟨?_,.mk ?_ (by simp [ak])⟩
  ·all_goals exact wk
  ·all_goals exact wk
 intro i hi _
 (try dsimp only[aj]);conv=>whnf
 refine And.intro (fun g=>?_) (fun g=>?_)
 ·have hlt : i < a'.length:=by simpa using g
  have hst : (a'.take (i + 1)).foldl (fun us x=>uRow x us b') [] = uRow a'[i] ((a'.take i).foldl (fun us x=>uRow x us b') []) b':=iY hlt
  have hlen:=jw b' (a'.take i) []
  rw [List.length_take] at hlen
  have hlen : ((a'.take i).foldl (fun us x=>uRow x us b') []).length <= 1048576:=by
   have : min i a'.length * b'.length <= 1024 * 1024:=Nat.mul_le_mul (by omega) (by omega)
   simp at hlen; omega
  (try dsimp only[aj]);conv=>whnf
  refine iq hlt ?_
  generalize a'[i] = x at *
  generalize (a'.take i).foldl (fun us x=>uRow x us b') [] = LZ at *
  (try dsimp only[aj]);conv=>whnf
  refine aN.of <| (aA.inv (.refl _ _) (fun j : Nat=>j <= b'.length) (fun j=>[(34,.int .i64 (j : Int)),(8,.sl 1 ((uRow x LZ (b'.take j)).map (.int .i64)) (.own 1))]) (fun j=>[(1,.tok 1 (uRow x LZ (b'.take j)).length),(0,.iK (.int .i64 0) (Dq (uRow x LZ (b'.take j))))]) (fun j=>b'.length - j) 0 (Nat.zero_le _) ?_ ?_ ?_)
  ·exact fun _=>rfl
  ·refine ⟨?_,.mk ?_ (by simp [ak])⟩
   ·all_goals exact wk
   ·repeat' first|exact rfl|exact trivial|exact wR|exact lR _|apply aI
    all_goals first | exact kQ _ _ | exact jR _
  intro j hj _
  (try dsimp only[aj]);conv=>whnf
  refine And.intro (fun g1=>?_) (fun g1=>?_)
  ·have hlj : j < b'.length:=by simpa using g1
   have hst2 : uRow x LZ (b'.take (j + 1)) = pX (uRow x LZ (b'.take j)) (I8 x b'[j]):=iY hlj
   have hlen2:=wY x (b'.take j) LZ
   rw [List.length_take] at hlen2
   (try dsimp only[aj]);conv=>whnf
   refine iq hlj ?_
   generalize b'[j] = y at *
   generalize uRow x LZ (b'.take j) = us at *
   (try dsimp only[aj]);conv=>whnf
   have hor : dI .or .i64 x y = I8 x y:=rfl
   rw [hor]
   generalize I8 x y = u at *
   by_cases hin : u ∈ us
   ·rw [show pX us u = us from if_pos (by simpa using hin)] at hst2
    refine GH hin ?_
    (try dsimp only[aj]);conv=>whnf
    refine zA ?_;conv=>whnf
    refine ⟨j + 1,?_,?_,?_⟩
    ·exact hlj
    ·rw [hst2]
     refine ⟨?_,.mk ?_ (by simp [ak])⟩
     ·all_goals exact wk
     ·repeat' first|exact rfl|exact trivial|exact wR|exact lR _|apply aI
      all_goals first | exact kQ _ _ | exact jR _
    ·omega
   ·rw [show pX us u = us ++ [u] from if_neg (by simpa using hin)] at hst2
    refine Eh hin ?_
    (try dsimp only[aj]);conv=>whnf
    refine X0 hin ?_
    (try dsimp only[aj]);conv=>whnf
    refine ⟨by rw [List.length_map],.mk (by simp [maxL]; omega) (by simp; omega) ?_⟩
    (try dsimp only[aj]);conv=>whnf
    refine zA ?_;conv=>whnf
    refine ⟨j + 1,?_,?_,?_⟩
    ·exact hlj
    ·rw [hst2]
     refine ⟨?_,.mk ?_ (by simp [ak])⟩
     ·repeat' first|exact rfl|exact trivial|exact wR|exact lR _|apply aI
      all_goals first | (refine bM ?_; rw [List.map_append]; rfl) | (simp; done) | skip
     ·repeat' first|exact rfl|exact trivial|exact wR|exact lR _|apply aI
      all_goals first | exact kQ _ _ | exact jR _ | (refine bM ?_; rw [List.map_append]; rfl) | (simp; done) | skip
    ·omega
  ·have hk : j = b'.length:=by have : ¬ j < b'.length:=by simpa using g1
                               omega
   subst hk
   rw [List.take_length]
   (try dsimp only[aj]);conv=>whnf
   refine zA ?_;conv=>whnf
   refine ⟨i + 1,?_,?_,?_⟩
   ·exact hlt
   ·rw [hst]
    refine ⟨?_,.mk ?_ (by simp [ak])⟩
    ·all_goals exact wk
    ·repeat' first|exact rfl|exact trivial|exact wR|exact lR _|apply aI
     all_goals first | exact kQ _ _ | exact jR _
   ·omega
 ·have hk : i = a'.length:=by have : ¬ i < a'.length:=by simpa using g
                              omega
  subst hk
  rw [List.take_length]
  have ZG : (a'.foldl (fun us x=>uRow x us b') []).length <= 1048576:=by
   have : a'.length * b'.length <= 1024 * 1024:=Nat.mul_le_mul (by omega) (by omega)
   simp at ZG; omega
  have hun : wX a' b' = a'.foldl (fun us x=>uRow x us b') []:=rfl
  generalize a'.foldl (fun us x=>uRow x us b') [] = U at *
  (try dsimp only[aj]);conv=>whnf
  refine .rel _ (dO.frame [] (NH U (by omega)) ⟨rfl,rfl,rfl,rfl⟩ trivial ?_) fun R H' hq _=>?_
  ·all_goals exact wk
  obtain ⟨_,_,⟨m,rfl,rfl,hm⟩,rfl,rfl⟩:=hq
  have hml:=hm.len
  rw [<- hun] at hm
  (try dsimp only[aj]);conv=>whnf
  by_cases h3 : m.length <= 1024
  ·refine .gen _ _ (aQ.frame [2] (KO m (by omega) _ (if_pos h3).symm) ⟨rfl,rfl,rfl,rfl⟩ ?_ ?_) fun _=>?_
   ·all_goals exact wk
   ·all_goals exact wk
   (try dsimp only[aj]);conv=>whnf
   refine ⟨_,_,.inr ⟨m,rfl,rfl,⟨a',b',hma,hmb,hm⟩,h3⟩,?_⟩
   refine ⟨⟨_,_,.refl _ _,?_⟩⟩
   conv=>whnf
   refine ⟨?_,rfl,by simp [nextId],.mk ?_ (by simp [ak])⟩
   ·all_goals exact wk
   ·all_goals exact wk
  ·refine .gen _ _ (aQ.frame [2] (KO m (by omega) _ (if_neg h3).symm) ⟨rfl,rfl,rfl,rfl⟩ ?_ ?_) fun _=>?_
   ·all_goals exact wk
   ·all_goals exact wk
   (try dsimp only[aj]);conv=>whnf
   refine ⟨_,_,.inl ⟨rfl,rfl⟩,?_⟩
   refine ⟨⟨_,_,.refl _ _,?_⟩⟩
   conv=>whnf
   refine ⟨?_,rfl,by simp [nextId],.mk ?_ (by simp [ak])⟩
   ·all_goals exact wk
   ·all_goals exact wk

theorem Uy (s i : Nat) (hs : s < 2 ^ 63) (hi : i < 24) : aQ Tryz.prog 69 [.int .i64 s,.int .i64 i] [] (.bool (s.testBit i)) []:=by
 refine aQ.intro lay mixed Tryz.func69 (by kernel_rfl) rfl (by kernel_rfl) rfl fun hok=>?_
 (try dsimp only[aP,aC]);(try dsimp only[aj]);conv=>whnf
 refine bY (by omega) ?_
 (try dsimp only[aj]);conv=>whnf
 refine bY (by omega) ?_
 (try dsimp only[aj]);conv=>whnf
 refine ⟨by omega,?_⟩
 (try dsimp only[aj]);conv=>whnf
 rw [ou hs (by omega)]
 refine fM ?_;(conv=>whnf);refine ⟨?_,rfl⟩;conv=>whnf
 cases s.testBit i <;> simp

theorem yA (l : List Int) (h : bQ l) : dO Tryz.prog 50 [iA l] [] (PQ fun R=>∃ m,R = .dA [iA m,.bH] /\ Bd l m):=by
 have hl:=h.len
 have cl:=Bz [l] (by intro x hx; simp at hx; rw [hx]; exact h) (by simp)
 refine dO.intro lay mixed Tryz.func50 (by kernel_rfl) rfl (by kernel_rfl) rfl fun hok=>?_
 (try dsimp only[aP,aC]);(try dsimp only[aj]);conv=>whnf
 refine .pure _ _ ?_ ⟨rfl,rfl⟩ cl fun _=>?_
 ·exact ⟨⟨rfl,bK _⟩,trivial⟩
 (try dsimp only[aj]);conv=>whnf
 refine .oJ _ _ ?_ rfl (wI l (by omega)) fun R hq _=>?_
 ·exact au _
 obtain ⟨m,rfl,hm⟩:=hq
 (try dsimp only[aj]);conv=>whnf
 refine ⟨_,_,⟨rfl,rfl,m,rfl,hm⟩,?_⟩
 refine ⟨⟨_,_,.refl _ _,?_⟩⟩
 conv=>whnf
 refine ⟨?_,rfl,by simp [nextId],.mk ?_ (by simp [ak])⟩
 ·all_goals exact wk
 ·all_goals exact wk

def Oy (s k : Nat) : List Int:=((List.range k).filter fun i=>s.testBit i).map fun i=>((2 ^ i : Nat) : Int)
def Sr (s : Int) : List Int:=Oy s.toNat 24

theorem Sv (s k : Nat) : Oy s (k + 1) = if s.testBit k then Oy s k ++ [((2 ^ k : Nat) : Int)] else Oy s k:=by
 unfold Oy
 rw [List.range_succ,List.filter_append,List.map_append]
 cases h : s.testBit k <;> simp [h]

theorem Ox (s k : Nat) : (Oy s k).length <= k:=by
 unfold Oy
 rw [List.length_map]
 exact Nat.le_trans (List.length_filter_le _ _) (by simp)

theorem Sm (s : Int) : bQ (Sr s):=by
 refine ⟨Nat.le_trans (Ox _ _) (by decide),fun x hx=>?_⟩
 unfold Sr Oy at hx
 obtain ⟨i,hi,rfl⟩:=List.mem_map.1 hx
 have hi:=List.mem_range.1 (List.mem_filter.1 hi).1
 have:=OC hi
 generalize 2 ^ i = z at *
 omega

theorem Ou {s : Int} {w : Nat} : jU (Sr s) w ↔ ∃ i,i < 24 /\ s.toNat.testBit i = true /\ w.testBit i = true:=by
 unfold jU Sr Oy
 constructor
 ·rintro ⟨x,hx,hs⟩
  obtain ⟨i,hi,rfl⟩:=List.mem_map.1 hx
  obtain ⟨h1,h2⟩:=List.mem_filter.1 hi
  have h1:=List.mem_range.1 h1
  have hp:=OC h1
  refine ⟨i,h1,h2,?_⟩
  rw [jy (by omega)] at hs
  exact hs i h1 Nat.testBit_two_pow_self
 ·rintro ⟨i,h1,h2,h3⟩
  have hp:=OC h1
  refine ⟨_,List.mem_map.2 ⟨i,List.mem_filter.2 ⟨List.mem_range.2 h1,h2⟩,rfl⟩,?_⟩
  rw [jy (by omega)]
  intro j _ hj
  rw [Nat.testBit_two_pow,decide_eq_true_eq] at hj
  rw [<- hj]; exact h3

structure Xz (p o : List Int) : Prop where
 ex : ∃ m,Bd p m /\ kD qC [0] (m.map Sr) o
 ok : bQ o

def AllQ (p : List Int) : AV -> Heap -> Prop:=fun R H'=>(R = .dA [.aV,eL] /\ H' = []) \/ (R = .dA [iA [0],.bH] /\ H' = [] /\ Xz p [0]) \/
 ∃ o : List Int,R = .dA [.gs 3 (o.map (AV.int .i64)).length,.bH] /\ H' = [(3,.dU 1 (o.map (.int .i64)))] /\ Xz p o

theorem UK (p : List Int) (hp : bQ p) : dO Tryz.prog 47 [iA p] [] (AllQ p):=by
 have cm:=yA p hp
 refine dO.intro lay mixed Tryz.func47 (by kernel_rfl) rfl (by kernel_rfl) rfl fun hok=>?_
 (try dsimp only[aP,aC]);(try dsimp only[aj]);conv=>whnf
 refine .oJ _ _ ?_ rfl cm fun R hq _=>?_
 ·exact au _
 obtain ⟨m,rfl,hm⟩:=hq
 have hml:=hm.len
 have hpl:=hp.len
 have hmv : ∀ s,s ∈ m -> 0 <= s /\ s <= 16777215:=fun s hs=>hp.val s (hm.sub s hs)
 (try dsimp only[aj]);conv=>whnf
 refine aN.invX (.refl _ _) (fun x : Nat × List Int=>x.1 <= m.length /\ (x.1 = m.length -> m = []) /\ kD qC [0] ((m.take x.1).map Sr) x.2 /\ bQ x.2) (fun x=>[(22,.int .i64 (x.1 : Int)),(6,iA x.2)]) (fun _=>[]) (fun x=>m.length - x.1) (0,[0]) ⟨Nat.zero_le _,fun e=>List.eq_nil_of_length_eq_zero e.symm,rfl,o8 (by omega)⟩ ?_ ?_ ?_
 ·exact fun _=>rfl
 ·refine ⟨?_,.mk ?_ (by simp [ak])⟩
  ·all_goals exact wk
  ·all_goals exact wk
 rintro ⟨i,o⟩ ⟨hi,hlast,hc,ho⟩ _
 dsimp only at hi hlast hc ho ⊢
 (try dsimp only[aj]);conv=>whnf
 refine And.intro (fun g=>?_) (fun g=>?_)
 ·have hlt : i < m.length:=by simp at g; omega
  have hs:=List.take_succ_eq_append_getElem hlt
  have hsv:=hmv _ (List.getElem_mem hlt)
  (try dsimp only[aj]);conv=>whnf
  refine iq hlt ?_
  generalize m[i] = s at *
  (try dsimp only[aj]);conv=>whnf
  refine aN.of <| (aA.inv (.grow 9 1 [] .aV rfl (.inl ⟨rfl,rfl⟩) (.refl _ _)) (fun k : Nat=>k <= 24) (fun k=>[(26,.int .i64 (k : Int)),(9,.sl 1 ((Oy s.toNat k).map (.int .i64)) (.own 0))]) (fun k=>[(0,.tok 1 (Oy s.toNat k).length)]) (fun k=>24 - k) 0 (Nat.zero_le _) ?_ ?_ ?_)
  ·exact fun _=>rfl
  ·refine ⟨?_,.mk ?_ (by simp [ak])⟩
   ·all_goals exact wk
   ·all_goals exact wk
  intro k hk _
  (try dsimp only[aj]);conv=>whnf
  refine And.intro (fun g1=>?_) (fun g1=>?_)
  ·have hlk : k < 24:=by omega
   have hst:=Sv s.toNat k
   have hsl:=Ox s.toNat k
   have ch:=Uy s.toNat k (by omega) hlk
   rw [show ((s.toNat : Nat) : Int) = s by omega] at ch
   generalize Oy s.toNat k = u at *
   (try dsimp only[aj]);conv=>whnf
   refine .pure _ _ ?_ ⟨rfl,rfl⟩ ch fun _=>?_
   ·exact au _
   (try dsimp only[aj]);conv=>whnf
   refine And.intro (fun hb=>?_) (fun hb=>?_)
   ·have hb : s.toNat.testBit k = true:=hb
    rw [if_pos hb] at hst
    (try dsimp only[aj]);conv=>whnf
    refine ⟨by omega,?_⟩
    rw [jH (i:=k) (by omega)]
    (try dsimp only[aj]);conv=>whnf
    refine ⟨by rw [List.length_map],.mk (by simp [maxL]; omega) (by simp; omega) ?_⟩
    (try dsimp only[aj]);conv=>whnf
    refine zA ?_;conv=>whnf
    refine ⟨k + 1,?_,?_,?_⟩
    ·exact hlk
    ·rw [hst]
     refine ⟨?_,.mk ?_ (by simp [ak])⟩
     ·repeat' first|exact rfl|exact trivial|exact wR|exact lR _|apply aI
      all_goals first | (refine bM ?_; rw [List.map_append]; rfl) | (simp; done) | skip
     ·repeat' first|exact rfl|exact trivial|exact wR|exact lR _|apply aI
      all_goals first | (refine bM ?_; rw [List.map_append]; rfl) | (simp; done) | skip
    ·omega
   ·have hb : ¬ s.toNat.testBit k = true:=by rw [hb]; decide
    rw [if_neg hb] at hst
    (try dsimp only[aj]);conv=>whnf
    refine zA ?_;conv=>whnf
    refine ⟨k + 1,?_,?_,?_⟩
    ·exact hlk
    ·rw [hst]
     refine ⟨?_,.mk ?_ (by simp [ak])⟩
     ·all_goals exact wk
     ·all_goals exact wk
    ·omega
  have hk : k = 24:=by omega
  subst hk
  have hso:=Sm s
  rw [show Oy s.toNat 24 = Sr s from rfl]
  (try dsimp only[aj]);conv=>whnf
  refine .rel _ (dO.frame [] (NC o (Sr s) ho hso) ⟨rfl,rfl,rfl,rfl⟩ trivial ?_) fun R H' hq _=>?_
  ·all_goals exact wk
  obtain ⟨_,_,⟨rfl,rfl⟩ | ⟨q,rfl,rfl,hq⟩,rfl,rfl⟩:=hq
  ·(try dsimp only[aj]);conv=>whnf
   refine ⟨_,_,.inl ⟨rfl,rfl⟩,?_⟩
   refine ⟨⟨_,_,.refl _ _,?_⟩⟩
   conv=>whnf
   refine ⟨?_,rfl,by simp [nextId],.mk ?_ (by simp [ak])⟩
   ·all_goals exact wk
   ·all_goals exact wk
  have hqo:=uD hq ho hso
  have hql:=hqo.len
  have hc2 : kD qC [0] ((m.take (i + 1)).map Sr) q:=by rw [hs,List.map_append]; exact hc.snoc hq
  (try dsimp only[aj]);conv=>whnf
  refine zA ?_;conv=>whnf
  by_cases hend : i + 1 < m.length
  ·refine .inl ⟨(i + 1,q),⟨by dsimp only; omega,fun e=>by dsimp only at e; omega,hc2,hqo⟩,⟨_,_,.uO 6 3 1 (q.map (.int .i64)) rfl rfl (by rw [List.length_map]; simp [maxL]; omega) (.refl _ _),?_⟩,by dsimp only; omega⟩
   refine ⟨?_,.mk ?_ (by simp [ak])⟩
   ·all_goals exact wk
   ·all_goals exact wk
  ·have hend : i + 1 = m.length:=by omega
   rw [hend,List.take_length] at hc2
   refine .inr ⟨1,?_⟩
   (try dsimp only[aj]);conv=>whnf
   refine bN (by simp; omega) ?_
   (try dsimp only[aj]);conv=>whnf
   refine ⟨_,_,.inr (.inr ⟨q,rfl,rfl,⟨m,hm,hc2⟩,hqo⟩),?_⟩
   refine ⟨⟨_,_,.refl _ _,?_⟩⟩
   conv=>whnf
   refine ⟨?_,rfl,by simp [nextId],.mk ?_ (by simp [ak])⟩
   ·all_goals exact wk
   ·all_goals exact wk
 ·have hk : i = m.length:=by simp at g; omega
  have hm0:=hlast hk
  subst hm0
  have ho0 : o = [0]:=by simpa [kD] using hc
  subst ho0
  (try dsimp only[aj]);conv=>whnf
  refine ⟨_,_,.inr (.inl ⟨rfl,rfl,⟨[],hm,rfl⟩,ho⟩),?_⟩
  refine ⟨⟨_,_,.refl _ _,?_⟩⟩
  conv=>whnf
  refine ⟨?_,rfl,by simp [nextId],.mk ?_ (by simp [ak])⟩
  ·all_goals exact wk
  ·all_goals exact wk

theorem getD_get {l : List Int} {i : Nat} (h : i < l.length) : l.getD i default = l[i]:=by rw [List.getD_eq_getElem?_getD,List.getElem?_eq_getElem h]; rfl

theorem Rh (l : List Int) (hN : l.length <= 1000000) (cp g : Nat) (cap : List AV) (p : Int -> Bool) (hg : ∀ x ∈ l,aQ Tryz.prog g (.int .i64 x :: cap) [] (.bool (p x)) []) (hb : fH 0 cap = true) :
  aQ Tryz.prog 51 [.ms 0 0 l.length cp 1,.fn g cap] (jW cp l) (.int .i64 (vZ p l)) (jW cp l):=by
 refine aQ.intro lay mixed Tryz.func51 (by kernel_rfl) rfl (by kernel_rfl) rfl fun hok=>?_
 (try dsimp only[aP,aC]);(try dsimp only[aj]);conv=>whnf
 refine aN.of <| (aA.inv (.refl _ _) (fun i : Nat=>i <= l.length /\ ∀ (j : Nat) (hj : j < l.length),j < i -> p l[j] = false) (fun i=>[(8,.int .i64 (i : Int))]) (fun _=>jW cp l) (fun i=>l.length - i) 0 ⟨Nat.zero_le _,fun j hj h=>by omega⟩ ?_ ?_ ?_)
 ·exact fun _=>rfl
 ·refine ⟨?_,.mk ?_ (by simp [ak])⟩
  ·all_goals exact wk
  ·all_goals exact wk
 rintro i ⟨hi,hn⟩ _
 (try dsimp only[aj]);conv=>whnf
 refine And.intro (fun h=>?_) (fun h=>?_)
 ·have hlt : i < l.length:=by omega
  (try dsimp only[aj]);conv=>whnf
  refine ⟨by omega,?_⟩
  (try dsimp only[aj]);conv=>whnf
  refine aX (i:=i) rfl hlt ⟨rfl,?_⟩
  rw [getD_get hlt]
  have hgx:=hg _ (List.getElem_mem hlt)
  (try dsimp only[aj]);conv=>whnf
  refine .pure _ _ ?_ ⟨by simp only [fH,dD]; exact hb,rfl⟩ hgx fun _=>?_
  ·exact au _
  (try dsimp only[aj]);conv=>whnf
  refine And.intro (fun hp=>?_) (fun hp=>?_)
  ·rw [F8 hlt hp fun j hj=>hn j (by omega) hj]
   (try dsimp only[aj]);conv=>whnf
   refine ⟨⟨_,_,.refl _ _,?_⟩⟩
   conv=>whnf
   refine ⟨?_,rfl,by simp [nextId],.mk ?_ (by simp [ak])⟩
   ·all_goals exact wk
   ·all_goals exact wk
  ·(try dsimp only[aj]);conv=>whnf
   refine zA ?_;conv=>whnf
   refine ⟨i + 1,⟨hlt,fun j hj hji=>?_⟩,?_,by omega⟩
   ·by_cases YH : j = i
    ·subst YH; exact hp
    ·exact hn j hj (by omega)
   ·refine ⟨?_,.mk ?_ (by simp [ak])⟩
    ·all_goals exact wk
    ·all_goals exact wk
 ·have hi' : i = l.length:=by omega
  subst hi'
  rw [F9 fun j hj=>hn j hj hj]
  (try dsimp only[aj]);conv=>whnf
  refine ⟨⟨_,_,.refl _ _,?_⟩⟩
  conv=>whnf
  refine ⟨?_,rfl,by simp [nextId],.mk ?_ (by simp [ak])⟩
  ·all_goals exact wk
  ·all_goals exact wk

theorem Rj (l : List Int) (hN : l.length <= 1000000) (cp g : Nat) (hcp : l.length <= cp) (cap : List AV) (p : Int -> Bool) (hg : ∀ x ∈ l,aQ Tryz.prog g (.int .i64 x :: cap) [] (.bool (p x)) []) (hb : fH 0 cap = true) :
  dO Tryz.prog 48 [.ms 0 0 l.length cp 1,.fn g cap] (jW cp l) (fun R H'=>∃ (k : Nat) (l' : List Int),R = .ms 0 0 k cp 1 /\ H' = jW cp l' /\ k <= l.length /\ l'.length = l.length /\ l'.take k = l.filter fun x=>!p x):=by
 have ci:=Rh l hN cp g cap p hg hb
 refine dO.intro lay mixed Tryz.func48 (by kernel_rfl) rfl (by kernel_rfl) rfl fun hok=>?_
 (try dsimp only[aP,aC]);(try dsimp only[aj]);conv=>whnf
 refine .gen _ _ ci fun _=>?_
 rcases gK p l with ⟨h1,h2⟩ | ⟨i0,hi0,h1,h2,h3⟩
 ·rw [h1]
  (try dsimp only[aj]);conv=>whnf
  refine bY rfl ?_
  (try dsimp only[aj]);conv=>whnf
  refine ⟨_,_,⟨l.length,l,rfl,rfl,Nat.le_refl _,rfl,?_⟩,?_⟩
  ·rw [List.take_length]
   exact (List.filter_eq_self.2 fun x hx=>by rw [h2 x hx]; rfl).symm
  refine ⟨⟨_,_,.refl _ _,?_⟩⟩
  conv=>whnf
  refine ⟨?_,rfl,by simp [nextId],.mk ?_ (by simp [ak])⟩
  ·all_goals exact wk
  ·all_goals exact wk
 rw [h1]
 obtain ⟨n,hn⟩ : ∃ n,n = l.length:=⟨_,rfl⟩
 have hf0 : l.take i0 = (l.take (i0 + 1)).filter fun x=>!p x:=by
  rw [List.take_succ_eq_append_getElem hi0,List.filter_append]
  rw [List.filter_eq_self.2 fun x hx=>?_,show [l[i0]].filter (fun x=>!p x) = [] by simp [h2],List.append_nil]
  obtain ⟨j,hj,rfl⟩:=List.mem_iff_getElem.1 hx
  rw [List.getElem_take,h3 j (by rw [List.length_take] at hj; omega)]; rfl
 rw [<- hn]
 (try dsimp only[aj]);conv=>whnf
 refine bN (by omega) ?_
 (try dsimp only[aj]);conv=>whnf
 refine zA ?_;conv=>whnf
 refine aN.of <| (aA.inv (.refl _ _) (fun x : Nat × Nat × List Int=>(x.2.1 < x.1 /\ x.1 <= n) /\ x.2.2.length = n /\ x.2.2.take x.2.1 = (l.take x.1).filter (fun x=>!p x) /\ ∀ t,x.1 <= t -> x.2.2.getD t default = l.getD t default) (fun x=>[(5,.int .i64 (x.2.1 : Int)),(6,.int .i64 (x.1 : Int))]) (fun x=>jW cp x.2.2) (fun x=>n - x.1) (i0 + 1,i0,l) ⟨by dsimp only; omega,hn.symm,hf0,fun _ _=>rfl⟩ ?_ ?_ ?_)
 ·exact fun _=>rfl
 ·refine ⟨?_,.mk ?_ (by simp [ak])⟩
  ·all_goals exact wk
  ·all_goals exact wk
 rintro ⟨j,i,m⟩ ⟨⟨hij,hjn⟩,hml,htk,hdr⟩ _
 dsimp only at hij hjn hml htk hdr ⊢
 (try dsimp only[aj]);conv=>whnf
 refine And.intro (fun q=>?_) (fun q=>?_)
 ·have hjl : j < l.length:=by omega
  have hgx:=hg _ (List.getElem_mem hjl)
  have hdj:=hdr j (Nat.le_refl _)
  rw [getD_get hjl] at hdj
  have hft : (l.take (j + 1)).filter (fun x=>!p x) = (l.take j).filter (fun x=>!p x) ++ (if p l[j] then [] else [l[j]]):=by
   rw [List.take_succ_eq_append_getElem hjl,List.filter_append]
   congr 1
   cases hq : p l[j] <;> simp [hq]
  (try dsimp only[aj]);conv=>whnf
  refine ⟨by omega,?_⟩
  (try dsimp only[aj]);conv=>whnf
  refine aX (i:=j) rfl (by omega) ⟨rfl,?_⟩
  rw [hdj]
  generalize l[j] = v at *
  (try dsimp only[aj]);conv=>whnf
  refine .pure _ _ ?_ ⟨by simp only [fH,dD]; exact hb,rfl⟩ hgx fun _=>?_
  ·exact au _
  (try dsimp only[aj]);conv=>whnf
  refine And.intro (fun hp=>?_) (fun hp=>?_)
  ·have hp : p v = false:=by simpa using hp
   rw [hp,if_neg (by decide)] at hft
   (try dsimp only[aj]);conv=>whnf
   refine ⟨by omega,?_⟩
   (try dsimp only[aj]);conv=>whnf
   refine ⟨by simp; omega,rfl,?_⟩
   (try dsimp only[aj]);conv=>whnf
   refine zA ?_;conv=>whnf
   refine zA ?_;conv=>whnf
   refine ⟨(j + 1,i + 1,m.set i v),⟨by dsimp only; omega,by simpa using hml,?_,fun t ht=>?_⟩,?_,by dsimp only; omega⟩
   ·show (m.set i v).take (i + 1) = (l.take (j + 1)).filter fun x=>!p x
    rw [hft,<- htk,List.take_succ_eq_append_getElem (by simp; omega),List.take_set_of_le (Nat.le_refl _),List.getElem_set_self]
   ·dsimp only at ht ⊢
    rw [<- hdr t (by omega),List.getD_eq_getElem?_getD,List.getElem?_set_ne (by omega),<- List.getD_eq_getElem?_getD]
   ·refine ⟨?_,.mk ?_ (by simp [ak])⟩
    ·all_goals exact wk
    ·repeat' first|exact rfl|exact trivial|exact wR|exact lR _|apply aI
     all_goals (refine bM ?_; simp only [List.map_set,Nat.zero_add,Int.toNat_natCast]; rfl)
  ·have hp : p v = true:=by simpa using hp
   rw [hp,if_pos rfl,List.append_nil] at hft
   (try dsimp only[aj]);conv=>whnf
   refine zA ?_;conv=>whnf
   refine ⟨(j + 1,i,m),⟨by dsimp only; omega,hml,by rw [hft]; exact htk,fun t ht=>hdr t (by dsimp only at ht; omega)⟩,?_,by dsimp only; omega⟩
   refine ⟨?_,.mk ?_ (by simp [ak])⟩
   ·all_goals exact wk
   ·all_goals exact wk
 ·obtain rfl : j = n:=by omega
  (try dsimp only[aj]);conv=>whnf
  refine ⟨⟨by omega,by omega,Int.le_refl _⟩,by omega,?_⟩
  conv=>whnf
  refine ⟨⟨by omega,by simp; omega⟩,?_⟩
  (try dsimp only[aj]);conv=>whnf
  refine ⟨⟨by omega,by omega,by omega⟩,by omega,?_⟩
  (try dsimp only[aj]);conv=>whnf
  rw [hn,List.take_length] at htk
  refine ⟨_,_,⟨i,m.take i ++ List.replicate (j - i) 0 ++ m.drop (i + (j - i)),rfl,rfl,by omega,by simp; omega,?_⟩,?_⟩
  ·rw [List.append_assoc,List.take_append_of_le_length (by simp; omega),List.take_take,Nat.min_self]; exact htk
  ·refine ⟨⟨_,_,.refl _ _,?_⟩⟩
   conv=>whnf
   refine ⟨?_,rfl,by simp [nextId],.mk ?_ (by simp [ak])⟩
   ·all_goals exact wk
   ·repeat' first|exact rfl|exact trivial|exact wR|exact lR _|apply aI
    all_goals (refine bM ?_; simp [List.map_take,List.map_drop])

theorem Xj (l : List Int) (g : Nat) (cap : List AV) (p : Int -> Bool) (hg : ∀ x ∈ l,aQ Tryz.prog g (.int .i64 x :: cap) [] (.bool (p x)) []) (hp : ∀ x ∈ l,p x = false) :
  aQ Tryz.prog 48 [iA l,.fn g cap] [] (iA l) []:=by
 have ci:=kS l g cap p [] hg
 rw [show vZ p l = -1 by
  rcases gK p l with ⟨h1,_⟩ | ⟨i0,hi0,h1,h2,_⟩
  ·exact h1
  ·rw [hp _ (List.getElem_mem hi0)] at h2; cases h2] at ci
 refine aQ.intro lay mixed Tryz.func48 (by kernel_rfl) rfl (by kernel_rfl) rfl fun hok=>?_
 (try dsimp only[aP,aC]);(try dsimp only[aj]);conv=>whnf
 refine .gen _ _ ci fun _=>?_
 (try dsimp only[aj]);conv=>whnf
 refine bY rfl ?_
 (try dsimp only[aj]);conv=>whnf
 refine ⟨⟨_,_,.refl _ _,?_⟩⟩
 conv=>whnf
 refine ⟨?_,rfl,by simp [nextId],.mk ?_ (by simp [ak])⟩
 ·all_goals exact wk
 ·all_goals exact wk

def ni (cost : List Int) (set : Nat) : Nat -> Int
 | 0=>-1
 | k + 1=>if set.testBit k = true /\ (ni cost set k < 0 \/ cost.getD k 0 < ni cost set k) then cost.getD k 0 else ni cost set k
def qP (cost : List Int) (set : Nat) : Int:=ni cost set cost.length

theorem CY {cost : List Int} (h : ∀ c,c ∈ cost -> 0 <= c /\ c <= 1048576) (set : Nat) : ∀ k,-1 <= ni cost set k /\ ni cost set k <= 1048576
 | 0=>by unfold ni; omega
 | k + 1=>by
   have ih:=CY h set k
   have hc:=tu h k
   unfold ni
   split <;> omega

theorem KQ (x : RC) (hl : x.cost.length <= 60) (h : ∀ c,c ∈ x.cost -> 0 <= c /\ c <= 1048576) (set : Nat) (hs : set < 2 ^ 63) : aQ Tryz.prog 29 [x.av,.int .i64 set] [] (.int .i64 (qP x.cost set)) []:=by
 have e : qP x.cost set = ni x.cost set x.cost.length:=rfl
 rw [e]
 obtain ⟨st,cost⟩:=x
 dsimp only at hl h ⊢
 refine aQ.intro lay mixed Tryz.func29 (by kernel_rfl) rfl (by kernel_rfl) rfl fun hok=>?_
 (try dsimp only[aP,aC]);(try dsimp only[aj]);conv=>whnf
 refine aN.of <| (aA.inv (.refl _ _) (fun k : Nat=>k <= cost.length) (fun k=>[(11,.int .i64 (k : Int)),(5,.int .i64 (ni cost set k))]) (fun _=>[(0,.box (RC.av ⟨st,cost⟩))]) (fun k=>cost.length - k) 0 (Nat.zero_le _) ?_ ?_ ?_)
 ·exact fun _=>rfl
 ·refine ⟨?_,.mk ?_ (by simp [ak])⟩
  ·all_goals exact wk
  ·all_goals exact wk
 intro k hk _
 (try dsimp only[aj]);conv=>whnf
 refine And.intro (fun g=>?_) (fun g=>?_)
 ·have hlt : k < cost.length:=by simp at g; omega
  have hst : ni cost set (k + 1) = if set.testBit k = true /\ (ni cost set k < 0 \/ cost.getD k 0 < ni cost set k) then cost.getD k 0 else ni cost set k:=by rw [ni]
  rw [show cost.getD k 0 = cost[k] by rw [List.getD_eq_getElem?_getD,List.getElem?_eq_getElem hlt]; rfl] at hst
  have hc:=h _ (List.getElem_mem hlt)
  (try dsimp only[aj]);conv=>whnf
  refine iq hlt ?_
  generalize cost[k] = c at *
  generalize ni cost set k = p at *
  (try dsimp only[aj]);conv=>whnf
  refine ⟨by omega,?_⟩
  (try dsimp only[aj]);conv=>whnf
  rw [ou hs (by omega)]
  refine And.intro (fun hb=>?_) (fun hb=>?_)
  ·have hb : set.testBit k = true:=by cases ht : set.testBit k <;> simp_all
   (try dsimp only[aj]);conv=>whnf
   refine And.intro (fun h1=>?_) (fun h1=>?_)
   ·rw [if_pos ⟨hb,.inl h1⟩] at hst
    rw [<- hst]
    (try dsimp only[aj]);conv=>whnf
    refine zA ?_;conv=>whnf
    refine ⟨k + 1,hlt,?_,by omega⟩
    refine ⟨?_,.mk ?_ (by simp [ak])⟩
    ·all_goals exact wk
    ·all_goals exact wk
   ·(try dsimp only[aj]);conv=>whnf
    refine And.intro (fun h2=>?_) (fun h2=>?_)
    ·rw [if_pos ⟨hb,.inr h2⟩] at hst
     rw [<- hst]
     (try dsimp only[aj]);conv=>whnf
     refine zA ?_;conv=>whnf
     refine ⟨k + 1,hlt,?_,by omega⟩
     refine ⟨?_,.mk ?_ (by simp [ak])⟩
     ·all_goals exact wk
     ·all_goals exact wk
    ·rw [if_neg (by rintro ⟨_,h3 | h3⟩ <;> first | exact h1 h3 | exact h2 h3)] at hst
     rw [<- hst]
     (try dsimp only[aj]);conv=>whnf
     refine zA ?_;conv=>whnf
     refine ⟨k + 1,hlt,?_,by omega⟩
     refine ⟨?_,.mk ?_ (by simp [ak])⟩
     ·all_goals exact wk
     ·all_goals exact wk
  ·have hb : ¬ set.testBit k = true:=by cases ht : set.testBit k <;> simp_all
   rw [if_neg (fun h=>hb h.1)] at hst
   rw [<- hst]
   (try dsimp only[aj]);conv=>whnf
   refine zA ?_;conv=>whnf
   refine ⟨k + 1,hlt,?_,by omega⟩
   refine ⟨?_,.mk ?_ (by simp [ak])⟩
   ·all_goals exact wk
   ·all_goals exact wk
 ·have hk : k = cost.length:=by simp at g; omega
  subst hk
  (try dsimp only[aj]);conv=>whnf
  refine ⟨⟨_,_,.refl _ _,?_⟩⟩
  conv=>whnf
  refine ⟨?_,rfl,by simp [nextId],.mk ?_ (by simp [ak])⟩
  ·all_goals exact wk
  ·all_goals exact wk

abbrev cA (cs : List Nat) : AV:=.sl 1 (cs.map fun n : Nat=>AV.int .i64 (n : Int)) .no

def wC (cost : List Int) (y n : Nat) (total : Int) : List Nat -> Int -> Nat -> Bool
 | [],sum,_=>decide (total <= sum)
 | s :: l,sum,taken=>if s &&& n ≠ 0 \/ s &&& taken ≠ 0 then wC cost y n total l sum taken
   else if qP cost (aJ s y) < 0 then true else wC cost y n total l (sum + qP cost (aJ s y)) (taken ||| s)

def Dp (x : RC) (cs : List Nat) (y n : Nat) (total : Int) : Bool:=wC x.cost y n total cs (iF x.cost (x.st &&& n)) 0

theorem KT (x : RC) (hl : x.cost.length <= 60) (h : ∀ c,c ∈ x.cost -> 0 <= c /\ c <= 1048576) (hst : x.st < 16777216) (cs : List Nat) (hcl : cs.length <= 1024) (hcs : ∀ s,s ∈ cs -> s < 16777216) (y n : Nat) (hy : y < 16777216) (hn : n < 16777216) (total : Int) :
  aQ Tryz.prog 53 [x.av,cA cs,Ur y n,.int .i64 total] [] (.bool (Dp x cs y n total)) []:=by
 have hsn : x.st &&& n <= n:=Nat.and_le_right
 have cp:=Ph x hl h (x.st &&& n) (by omega)
 have hpr:=kN h (x.st &&& n) x.cost.length
 have cl:=fun (s : Nat) (hs : s < 2 ^ 63)=>KQ x hl h s hs
 have hE0 : wC x.cost y n total (cs.drop 0) (iF x.cost (x.st &&& n)) 0 = Dp x cs y n total:=rfl
 rw [show mJ x.cost (x.st &&& n) x.cost.length = iF x.cost (x.st &&& n) from rfl] at hpr
 generalize Dp x cs y n total = E at *
 generalize iF x.cost (x.st &&& n) = p0 at *
 refine aQ.intro lay mixed Tryz.func53 (by kernel_rfl) rfl (by kernel_rfl) rfl fun hok=>?_
 (try dsimp only[aP,aC]);(try dsimp only[aj]);conv=>whnf
 rw [rC (by omega) (by omega)]
 refine .pure _ _ ?_ ⟨rfl,rfl⟩ cp fun _=>?_
 ·exact au _
 (try dsimp only[aj]);conv=>whnf
 refine aN.of <| (aA.inv (.refl _ _) (fun z : Nat × Int × Nat=>z.1 <= cs.length /\ wC x.cost y n total (cs.drop z.1) z.2.1 z.2.2 = E /\ 0 <= z.2.1 /\ z.2.1 <= 62914560 + 1048576 * (z.1 : Int) /\ z.2.2 < 16777216) (fun z=>[(23,.int .i64 (z.1 : Int)),(9,.int .i64 z.2.1),(10,.int .i64 (z.2.2 : Int))]) (fun _=>[(1,.box (Ur y n)),(0,.box (x.av))]) (fun z=>cs.length - z.1) (0,p0,0) ⟨Nat.zero_le _,hE0,by dsimp only; omega⟩ ?_ ?_ ?_)
 ·exact fun _=>rfl
 ·refine ⟨?_,.mk ?_ (by simp [ak])⟩
  ·all_goals exact wk
  ·all_goals exact wk
 rintro ⟨i,sum,taken⟩ ⟨hi,hE,hsum⟩ _
 dsimp only at hi hE hsum ⊢
 (try dsimp only[aj]);conv=>whnf
 refine And.intro (fun g=>?_) (fun g=>?_)
 ·have hlt : i < cs.length:=by simp at g; omega
  have hsv:=hcs _ (List.getElem_mem hlt)
  rw [List.drop_eq_getElem_cons hlt] at hE
  (try dsimp only[aj]);conv=>whnf
  refine iq hlt ?_
  generalize cs[i] = s at *
  have hE1 : wC x.cost y n total (s :: cs.drop (i + 1)) sum taken = if s &&& n ≠ 0 \/ s &&& taken ≠ 0 then wC x.cost y n total (cs.drop (i + 1)) sum taken
   else if qP x.cost (aJ s y) < 0 then true else wC x.cost y n total (cs.drop (i + 1)) (sum + qP x.cost (aJ s y)) (taken ||| s):=by rw [wC]
  rw [hE1] at hE
  clear hE1
  (try dsimp only[aj]);conv=>whnf
  rw [rC (by omega) (by omega)]
  refine And.intro (fun h1=>?_) (fun h1=>?_)
  ·have h1 : s &&& n ≠ 0:=by omega
   rw [if_pos (.inl h1)] at hE
   (try dsimp only[aj]);conv=>whnf
   refine zA ?_;conv=>whnf
   refine ⟨(i + 1,sum,taken),⟨by dsimp only; omega,hE,by dsimp only; omega⟩,?_,by dsimp only; omega⟩
   refine ⟨?_,.mk ?_ (by simp [ak])⟩
   ·all_goals exact wk
   ·all_goals exact wk
  ·have h1 : ¬ s &&& n ≠ 0:=by omega
   (try dsimp only[aj]);conv=>whnf
   rw [rC (by omega) (by omega)]
   refine And.intro (fun h2=>?_) (fun h2=>?_)
   ·have h2 : s &&& taken ≠ 0:=by omega
    rw [if_pos (.inr h2)] at hE
    (try dsimp only[aj]);conv=>whnf
    refine zA ?_;conv=>whnf
    refine ⟨(i + 1,sum,taken),⟨by dsimp only; omega,hE,by dsimp only; omega⟩,?_,by dsimp only; omega⟩
    refine ⟨?_,.mk ?_ (by simp [ak])⟩
    ·all_goals exact wk
    ·all_goals exact wk
   ·have h2 : ¬ s &&& taken ≠ 0:=by omega
    rw [if_neg (by rintro (h3 | h3) <;> first | exact h1 h3 | exact h2 h3)] at hE
    have hor : taken ||| s < 2 ^ 24:=Nat.or_lt_two_pow (by omega) (by omega)
    have hnd:=kP (a:=s) (b:=y) (by omega)
    have cls:=cl (aJ s y) (by omega)
    have hlr:=CY h (aJ s y) x.cost.length
    rw [show ni x.cost (aJ s y) x.cost.length = qP x.cost (aJ s y) from rfl] at hlr
    generalize qP x.cost (aJ s y) = m at *
    (try dsimp only[aj]);conv=>whnf
    rw [mM (by omega) (by omega)]
    (try dsimp only[aj]);conv=>whnf
    rw [aU (by omega)]
    refine .pure _ _ ?_ ⟨rfl,rfl⟩ cls fun _=>?_
    ·exact au _
    (try dsimp only[aj]);conv=>whnf
    refine And.intro (fun h3=>?_) (fun h3=>?_)
    ·rw [if_pos h3] at hE
     rw [<- hE]
     (try dsimp only[aj]);conv=>whnf
     refine ⟨⟨_,_,.refl _ _,?_⟩⟩
     conv=>whnf
     refine ⟨?_,rfl,by simp [nextId],.mk ?_ (by simp [ak])⟩
     ·all_goals exact wk
     ·all_goals exact wk
    ·rw [if_neg h3] at hE
     (try dsimp only[aj]);conv=>whnf
     refine zA ?_;conv=>whnf
     refine zA ?_;conv=>whnf
     refine ⟨(i + 1,sum + m,taken ||| s),⟨by dsimp only; omega,hE,by dsimp only; omega⟩,?_,by dsimp only; omega⟩
     refine ⟨?_,.mk ?_ (by simp [ak])⟩
     ·all_goals exact wk
     ·all_goals exact wk
 ·have hk : i = cs.length:=by simp at g; omega
  subst hk
  rw [List.drop_length,wC] at hE
  rw [<- hE]
  (try dsimp only[aj]);conv=>whnf
  refine ⟨⟨_,_,.refl _ _,?_⟩⟩
  conv=>whnf
  refine ⟨?_,rfl,by simp [nextId],.mk ?_ (by simp [ak])⟩
  ·repeat' first|exact rfl|exact trivial|exact wR|exact lR _|apply aI
   all_goals exact decide_eq_true_iff.symm
  ·all_goals exact wk

theorem BZ {f : Fo} (h : su f) : yT .i64 1 f.vars = ((2 ^ f.vars.toNat : Nat) : Int):=by
 have hv:=h.vars
 obtain ⟨v,hv⟩ : ∃ v : Nat,f.vars = v:=⟨f.vars.toNat,by omega⟩
 rw [hv,Int.toNat_natCast]; exact jH (by omega)

theorem NG (f : Fo) (h : su f) (hc : qY f = true) (s : Nat) (hs : s < 2 ^ f.vars.toNat) : aQ Tryz.prog 75 [f.av,.int .i64 s] [] .bH []:=by
 have c1:=KP f h hc
 have hv:=h.vars
 have JO:=BZ h
 refine aQ.intro lay mixed Tryz.func75 (by kernel_rfl) rfl (by kernel_rfl) rfl fun hok=>?_
 (try dsimp only[aP,aC]);(try dsimp only[aj]);conv=>whnf
 refine .pure _ _ ?_ ⟨rfl,rfl⟩ c1 fun _=>?_
 ·exact au _
 (try dsimp only[aj]);conv=>whnf
 refine bN (by omega) ?_
 (try dsimp only[aj]);conv=>whnf
 refine ⟨by omega,?_⟩
 rw [JO]
 (try dsimp only[aj]);conv=>whnf
 refine bN (by omega) ?_
 (try dsimp only[aj]);conv=>whnf
 refine ⟨⟨_,_,.refl _ _,?_⟩⟩
 conv=>whnf
 refine ⟨?_,rfl,by simp [nextId],.mk ?_ (by simp [ak])⟩
 ·all_goals exact wk
 ·all_goals exact wk

theorem Xb (f : Fo) (h : su f) (s : Nat) (hs : s < 2 ^ f.vars.toNat) : aQ Tryz.prog 76 [f.av,.int .i64 s,.ff] [] (.dA [.bool (dR f s),.bH]) []:=by
 have cv:=kT f h s hs
 rw [show (valsF f.vars.toNat s f.nodes).getD f.top.toNat false = dR f s from rfl] at cv
 generalize dR f s = b at *
 refine aQ.intro lay mixed Tryz.func76 (by kernel_rfl) rfl (by kernel_rfl) rfl fun hok=>?_
 (try dsimp only[aP,aC]);(try dsimp only[aj]);conv=>whnf
 refine .pure _ _ ?_ ⟨rfl,rfl⟩ cv fun _=>?_
 ·exact au _
 (try dsimp only[aj]);conv=>whnf
 refine ⟨⟨_,_,.refl _ _,?_⟩⟩
 conv=>whnf
 refine ⟨?_,rfl,by simp [nextId],.mk ?_ (by simp [ak])⟩
 ·cases b <;> ((repeat' first|exact rfl|exact trivial|exact wR|exact lR _|apply aI)) <;> simp
 ·all_goals exact wk

theorem Xf (f : Fo) (h : su f) (hc : qY f = true) (s : Nat) (hs : s < 2 ^ f.vars.toNat) : aQ Tryz.prog 35 [f.av,.int .i64 s] [] (.dA [.bool (dR f s),.bH]) []:=by
 have c1:=NG f h hc s hs
 have c2:=Xb f h s hs
 generalize dR f s = b at *
 have c3 : aQ Tryz.prog 58 [f.av,.int .i64 s,.ff] [] (.dA [.bool b,.bH]) []:=by
  refine aQ.intro lay mixed Tryz.func58 (by kernel_rfl) rfl (by kernel_rfl) rfl fun hok=>?_
  (try dsimp only[aP,aC]);(try dsimp only[aj]);conv=>whnf
  refine .pure _ _ ?_ ⟨rfl,rfl⟩ c1 fun _=>?_
  ·exact au _
  (try dsimp only[aj]);conv=>whnf
  refine .pure _ _ ?_ ⟨rfl,rfl⟩ c2 fun _=>?_
  ·exact au _
  (try dsimp only[aj]);conv=>whnf
  cases b with
  | true =>
    refine And.intro (fun _=>?_) (fun e=>by cases e)
    (try dsimp only[aj]);conv=>whnf
    refine ⟨⟨_,_,.refl _ _,?_⟩⟩
    conv=>whnf
    refine ⟨?_,rfl,by simp [nextId],.mk ?_ (by simp [ak])⟩
    ·all_goals exact wk
    ·all_goals exact wk
  | false =>
    refine And.intro (fun e=>by cases e) (fun _=>?_)
    (try dsimp only[aj]);conv=>whnf
    refine ⟨⟨_,_,.refl _ _,?_⟩⟩
    conv=>whnf
    refine ⟨?_,rfl,by simp [nextId],.mk ?_ (by simp [ak])⟩
    ·all_goals exact wk
    ·all_goals exact wk
 refine aQ.intro lay mixed Tryz.func35 (by kernel_rfl) rfl (by kernel_rfl) rfl fun hok=>?_
 (try dsimp only[aP,aC]);(try dsimp only[aj]);conv=>whnf
 refine .pure _ _ ?_ ⟨rfl,rfl⟩ c3 fun _=>?_
 ·exact au _
 (try dsimp only[aj]);conv=>whnf
 refine ⟨⟨_,_,.refl _ _,?_⟩⟩
 conv=>whnf
 refine ⟨?_,rfl,by simp [nextId],.mk ?_ (by simp [ak])⟩
 ·all_goals exact wk
 ·all_goals exact wk

structure Rp where
 set : Int
 total : Int
 cuts : List Int
 tree : Sp

abbrev Yo (set total : Int) (cuts tree : AV) : AV:=.ag [.int .i64 set,.int .i64 total,cuts,tree]
abbrev Rp.av (r : Rp) : AV:=Yo r.set r.total (iA r.cuts) r.tree.av

def EU (x : RC) (cs : List Nat) (total : Int) (y n : Nat) (reason : Int) : Bool :=
 if 0 <= reason then decide (reason < (cs.length : Int)) && decide (aJ (cs.getD reason.toNat 0) y = 0)
 else decide (reason = -1) && Dp x cs y n total

theorem QY (x : RC) (hl : x.cost.length <= 60) (h : ∀ c,c ∈ x.cost -> 0 <= c /\ c <= 1048576) (hst : x.st < 16777216) (cs : List Nat) (hcl : cs.length <= 1024) (hcs : ∀ s,s ∈ cs -> s < 16777216) (set total : Int) (t : Sp) (y n : Nat) (hy : y < 16777216) (hn : n < 16777216) (reason : Int) :
  aQ Tryz.prog 36 [x.av,Yo set total (cA cs) t.av,lfA (y,n,reason)] [] (.bool (EU x cs total y n reason)) []:=by
 have ce:=KT x hl h hst cs hcl hcs y n hy hn total
 have e : EU x cs total y n reason = if 0 <= reason then decide (reason < (cs.length : Int)) && decide (aJ (cs.getD reason.toNat 0) y = 0) else decide (reason = -1) && Dp x cs y n total:=rfl
 rw [e]
 generalize Dp x cs y n total = E at *
 obtain ⟨tv,tk,tr⟩:=t
 rw [Sp.eu]
 refine aQ.intro lay mixed Tryz.func36 (by kernel_rfl) rfl (by kernel_rfl) rfl fun hok=>?_
 (try dsimp only[aP,aC]);(try dsimp only[aj]);conv=>whnf
 refine And.intro (fun h1=>?_) (fun h1=>?_)
 ·have h1 : 0 <= reason:=h1
  rw [if_pos h1]
  (try dsimp only[aj]);conv=>whnf
  refine aY.auto (by kernel_rfl) ?_;conv=>whnf
  refine And.intro (fun h2=>?_) (fun h2=>?_)
  ·have h2 : reason < (cs.length : Int):=by rw [List.length_map] at h2; exact h2
   have hlt : reason.toNat < cs.length:=by omega
   have hsv:=hcs _ (List.getElem_mem hlt)
   rw [show cs.getD reason.toNat 0 = cs[reason.toNat] by rw [List.getD_eq_getElem?_getD,List.getElem?_eq_getElem hlt]; rfl,show decide (reason < (cs.length : Int)) = true from decide_eq_true h2,Bool.true_and]
   conv=>whnf
   rw [show (y,n,reason).2.2 = ((reason.toNat : Nat) : Int) from (Int.toNat_of_nonneg h1).symm]
   refine iq hlt ?_
   generalize cs[reason.toNat] = s at *
   conv=>whnf
   rw [aU (by omega)]
   (try dsimp only[aj]);conv=>whnf
   refine ⟨⟨_,_,.refl _ _,?_⟩⟩
   conv=>whnf
   refine ⟨?_,rfl,by simp [nextId],.mk ?_ (by simp [ak])⟩
   ·show ((aJ s y : Nat) : Int) = 0 ↔ decide (aJ s y = 0) = true
    rw [decide_eq_true_iff]; omega
   ·all_goals exact wk
  ·have h2 : ¬ reason < (cs.length : Int):=by rw [List.length_map] at h2; exact h2
   rw [show decide (reason < (cs.length : Int)) = false from decide_eq_false h2,Bool.false_and]
   (try dsimp only[aj]);conv=>whnf
   refine ⟨⟨_,_,.refl _ _,?_⟩⟩
   conv=>whnf
   refine ⟨?_,rfl,by simp [nextId],.mk ?_ (by simp [ak])⟩
   ·all_goals exact wk
   ·all_goals exact wk
 ·have h1 : ¬ 0 <= reason:=h1
  rw [if_neg h1]
  (try dsimp only[aj]);conv=>whnf
  refine And.intro (fun h2=>?_) (fun h2=>?_)
  ·have h2 : reason = -1:=h2
   rw [show decide (reason = -1) = true from decide_eq_true h2,Bool.true_and]
   (try dsimp only[aj]);conv=>whnf
   refine .pure _ _ ?_ ⟨rfl,rfl⟩ ce fun _=>?_
   ·all_goals exact wk
   (try dsimp only[aj]);conv=>whnf
   refine ⟨⟨_,_,.refl _ _,?_⟩⟩
   conv=>whnf
   refine ⟨?_,rfl,by simp [nextId],.mk ?_ (by simp [ak])⟩
   ·all_goals exact wk
   ·all_goals exact wk
  ·have h2 : ¬ reason = -1:=h2
   rw [show decide (reason = -1) = false from decide_eq_false h2,Bool.false_and]
   (try dsimp only[aj]);conv=>whnf
   refine ⟨⟨_,_,.refl _ _,?_⟩⟩
   conv=>whnf
   refine ⟨?_,rfl,by simp [nextId],.mk ?_ (by simp [ak])⟩
   ·all_goals exact wk
   ·all_goals exact wk

def iy (z : List Int × Nat) (s : Int) : List Int × Nat:=if s.toNat &&& z.2 = 0 then (z.1 ++ [s],z.2 ||| s.toNat) else z
def V4 (m : List Int) : List Int × Nat:=m.foldl iy ([],0)

theorem MC : ∀ (m : List Int) (z : List Int × Nat),(∀ s,s ∈ m -> 0 <= s /\ s <= 16777215) -> z.2 < 16777216 -> (m.foldl iy z).2 < 16777216 /\ (m.foldl iy z).1.length <= z.1.length + m.length
 | [],z,_,h=>⟨h,by simp⟩
 | s :: m,z,hm,h=>by
   have hs:=hm s (by simp)
   have h1 : (iy z s).2 < 16777216 /\ (iy z s).1.length <= z.1.length + 1:=by
    unfold iy; split
    ·have : z.2 ||| s.toNat < 2 ^ 24:=Nat.or_lt_two_pow (by omega) (by omega)
     exact ⟨by dsimp only; omega,by simp⟩
    ·exact ⟨h,by omega⟩
   have h2:=MC m (iy z s) (fun x hx=>hm x (by simp [hx])) h1.1
   rw [List.foldl_cons,List.length_cons]
   exact ⟨h2.1,by omega⟩

theorem Q8 (l : List Int) (hl : bQ l) : dO Tryz.prog 28 [iA l] [] (PQ fun R=>∃ m,Bd l m /\ R = .dA [iA (V4 m).1,.bH]):=by
 have cm:=yA l hl
 refine dO.intro lay mixed Tryz.func28 (by kernel_rfl) rfl (by kernel_rfl) rfl fun hok=>?_
 (try dsimp only[aP,aC]);(try dsimp only[aj]);conv=>whnf
 refine .oJ _ _ ?_ rfl cm fun R hq _=>?_
 ·exact au _
 obtain ⟨m,rfl,hm⟩:=hq
 have hml:=hm.len
 have hll:=hl.len
 have hmv : ∀ s,s ∈ m -> 0 <= s /\ s <= 16777215:=fun s hs=>hl.val s (hm.sub s hs)
 (try dsimp only[aj]);conv=>whnf
 refine aN.of <| (aA.inv (.grow 6 1 [] .aV rfl (.inl ⟨rfl,rfl⟩) (.refl _ _)) (fun i : Nat=>i <= m.length) (fun i=>[(20,.int .i64 (i : Int)),(6,.sl 1 (((m.take i).foldl iy ([],0)).1.map (.int .i64)) (.own 0)),(7,.int .i64 (((m.take i).foldl iy ([],0)).2 : Int))]) (fun i=>[(0,.tok 1 ((m.take i).foldl iy ([],0)).1.length)]) (fun i=>m.length - i) 0 (Nat.zero_le _) ?_ ?_ ?_)
 ·exact fun _=>rfl
 ·refine ⟨?_,.mk ?_ (by simp [ak])⟩
  ·all_goals exact wk
  ·all_goals exact wk
 intro i hi _
 (try dsimp only[aj]);conv=>whnf
 refine And.intro (fun g=>?_) (fun g=>?_)
 ·have hlt : i < m.length:=by simp at g; omega
  have hst : (m.take (i + 1)).foldl iy ([],0) = iy ((m.take i).foldl iy ([],0)) m[i]:=iY hlt
  have hsv:=hmv _ (List.getElem_mem hlt)
  have hr:=MC (m.take i) ([],0) (fun s hs=>hmv s (List.mem_of_mem_take hs)) (by decide)
  rw [List.length_take] at hr
  simp only [List.length_nil,Nat.zero_add] at hr
  (try dsimp only[aj]);conv=>whnf
  refine iq hlt ?_
  generalize m[i] = s at *
  generalize (m.take i).foldl iy ([],0) = z at *
  obtain ⟨o,u⟩:=z
  dsimp only at hr
  have hsn : ((s.toNat : Nat) : Int) = s:=by omega
  have hand : dI .and .i64 s (u : Int) = ((s.toNat &&& u : Nat) : Int):=by rw [<- hsn,rC (by omega) (by omega),Int.toNat_natCast]
  have hor : dI .or .i64 (u : Int) s = ((u ||| s.toNat : Nat) : Int):=by rw [<- hsn,mM (by omega) (by omega),Int.toNat_natCast]
  (try dsimp only[aj]);conv=>whnf
  rw [hand]
  refine And.intro (fun h1=>?_) (fun h1=>?_)
  ·have h1 : s.toNat &&& u = 0:=by omega
   rw [show iy (o,u) s = (o ++ [s],u ||| s.toNat) from if_pos h1] at hst
   (try dsimp only[aj]);conv=>whnf
   refine ⟨by rw [List.length_map],.mk (by simp [maxL]; omega) (by simp; omega) ?_⟩
   (try dsimp only[aj]);conv=>whnf
   rw [hor]
   (try dsimp only[aj]);conv=>whnf
   refine zA ?_;conv=>whnf
   refine ⟨i + 1,?_,?_,?_⟩
   ·exact hlt
   ·rw [hst]
    refine ⟨?_,.mk ?_ (by simp [ak])⟩
    ·repeat' first|exact rfl|exact trivial|exact wR|exact lR _|apply aI
     all_goals first | (refine bM ?_; rw [List.map_append]; rfl) | (simp; done) | skip
    ·repeat' first|exact rfl|exact trivial|exact wR|exact lR _|apply aI
     all_goals first | (refine bM ?_; rw [List.map_append]; rfl) | (simp; done) | skip
   ·omega
  ·have h1 : ¬ s.toNat &&& u = 0:=by omega
   rw [show iy (o,u) s = (o,u) from if_neg h1] at hst
   (try dsimp only[aj]);conv=>whnf
   refine zA ?_;conv=>whnf
   refine ⟨i + 1,?_,?_,?_⟩
   ·exact hlt
   ·rw [hst]
    refine ⟨?_,.mk ?_ (by simp [ak])⟩
    ·all_goals exact wk
    ·all_goals exact wk
   ·omega
 ·have hk : i = m.length:=by simp at g; omega
  subst hk
  rw [List.take_length]
  (try dsimp only[aj]);conv=>whnf
  refine ⟨_,_,⟨rfl,rfl,m,hm,rfl⟩,?_⟩
  refine ⟨⟨_,_,.refl _ _,?_⟩⟩
  conv=>whnf
  refine ⟨?_,rfl,by simp [nextId],.mk ?_ (by simp [ak])⟩
  ·all_goals exact wk
  ·all_goals exact wk

theorem OO {cost : List Int} (h : ∀ c,c ∈ cost -> 0 <= c /\ c <= 1048576) {a j : Nat} (ha : a.testBit j = true) : ∀ k,j < k -> 0 <= ni cost a k /\ ni cost a k <= cost.getD j 0
 | 0,hk=>absurd hk (Nat.not_lt_zero j)
 | k + 1,hk=>by
   have hc:=tu h k
   by_cases e : j = k
   ·subst e
    unfold ni
    by_cases h1 : ni cost a j < 0 \/ cost.getD j 0 < ni cost a j
    ·rw [if_pos ⟨ha,h1⟩]; omega
    ·rw [if_neg (fun h=>h1 h.2)]; omega
   ·have ih:=OO h ha k (by omega)
    unfold ni
    split
    ·rename_i h1
     rcases h1.2 with h2 | h2 <;> omega
    ·exact ih

theorem OM {cost : List Int} (h : ∀ c,c ∈ cost -> 0 <= c /\ c <= 1048576) {a j : Nat} (ha : a.testBit j = true) (hj : j < cost.length) : 0 <= qP cost a /\ qP cost a <= cost.getD j 0:=OO h ha _ hj

theorem Jy {cost : List Int} {a b : Nat} (hd : ∀ k,¬ (a.testBit k = true /\ b.testBit k = true)) : ∀ k,mJ cost (a ||| b) k = mJ cost a k + mJ cost b k
 | 0=>by simp [mJ]
 | k + 1=>by
   have ih:=Jy (cost:=cost) hd k
   have h1:=hd k
   rw [iI,iI,iI,ih,Nat.testBit_or]
   cases ha : a.testBit k <;> cases hb : b.testBit k <;> simp_all <;> omega

theorem SG {cost : List Int} {a b : Nat} (hd : ∀ k,¬ (a.testBit k = true /\ b.testBit k = true)) : iF cost (a ||| b) = iF cost a + iF cost b:=Jy hd _

theorem OB {cost : List Int} (h : ∀ c,c ∈ cost -> 0 <= c /\ c <= 1048576) {a j : Nat} (ha : a.testBit j = true) : ∀ k,j < k -> cost.getD j 0 <= mJ cost a k
 | 0,hk=>absurd hk (Nat.not_lt_zero j)
 | k + 1,hk=>by
   have hc:=tu h k
   have hr:=kN h a k
   rw [iI]
   by_cases e : j = k
   ·subst e; rw [if_pos ha]; omega
   ·have ih:=OB h ha k (by omega)
    split <;> omega

theorem VZ {cost : List Int} (h : ∀ c,c ∈ cost -> 0 <= c /\ c <= 1048576) {a j : Nat} (ha : a.testBit j = true) (hj : j < cost.length) : cost.getD j 0 <= iF cost a:=OB h ha _ hj

theorem kV {a b k : Nat} : (a &&& b).testBit k = true ↔ a.testBit k = true /\ b.testBit k = true:=by rw [Nat.testBit_and,Bool.and_eq_true]

theorem and_zero {a b : Nat} (h : a &&& b = 0) (k : Nat) : ¬ (a.testBit k = true /\ b.testBit k = true):=by
 intro hk
 have:=kV.2 hk
 rw [h,Nat.zero_testBit] at this; cases this

theorem Jw {cost : List Int} (h : ∀ c,c ∈ cost -> 0 <= c /\ c <= 1048576) {s' u s : Nat} (hd : s &&& u = 0) {a j : Nat} (hj : j < cost.length) (h1 : s'.testBit j = true) (h2 : s.testBit j = true) (h3 : a.testBit j = true) :
  iF cost (s' &&& u) + qP cost a <= iF cost (s' &&& (u ||| s)):=by
 have e : s' &&& (u ||| s) = (s' &&& u) ||| (s' &&& s):=by
  apply Nat.eq_of_testBit_eq
  intro k
  simp only [Nat.testBit_and,Nat.testBit_or]
  cases s'.testBit k <;> simp
 rw [e,SG fun k ⟨k1,k2⟩=>and_zero hd k ⟨(kV.1 k2).2,(kV.1 k1).2⟩]
 have l1:=OM h h3 hj
 have l2:=VZ h (a:=s' &&& s) (kV.2 ⟨h1,h2⟩) hj
 omega

theorem Il {cost : List Int} (h : ∀ c,c ∈ cost -> 0 <= c /\ c <= 1048576) {s' y n : Nat} {total : Int} (hy : ∀ k,¬ (s'.testBit k = true /\ y.testBit k = true)) :
  ∀ (l : List Nat) (sum : Int) (taken : Nat),(∀ s,s ∈ l -> ∃ j,j < cost.length /\ s'.testBit j = true /\ s.testBit j = true) -> (∀ s,s ∈ l -> s < 2 ^ 63) -> sum <= iF cost (s' &&& (n ||| taken)) -> wC cost y n total l sum taken = true -> total <= iF cost s'
 | [],sum,taken,_,_,hs,he=>by
   rw [wC,decide_eq_true_eq] at he
   have:=uF h (a:=s' &&& (n ||| taken)) (b:=s') fun k hk=>(kV.1 hk).1
   omega
 | s :: l,sum,taken,hh,hl,hs,he=>by
   rw [wC] at he
   split at he
   ·exact Il h hy l sum taken (fun x hx=>hh x (by simp [hx])) (fun x hx=>hl x (by simp [hx])) hs he
   ·rename_i hd
    obtain ⟨j,hj,h1,h2⟩:=hh s (by simp)
    have hsl:=hl s (by simp)
    have h3 : (aJ s y).testBit j = true:=by
     rw [lV hsl,h2]
     cases hyj : y.testBit j
     ·rfl
     ·exact absurd ⟨h1,hyj⟩ (hy j)
    have hle:=OM h h3 hj
    rw [if_neg (by omega)] at he
    have hdz : s &&& (n ||| taken) = 0:=by
     have e1 : s &&& n = 0:=by omega
     have e2 : s &&& taken = 0:=by omega
     apply Nat.eq_of_testBit_eq
     intro k
     rw [Nat.zero_testBit,Nat.testBit_and,Nat.testBit_or]
     have z1:=and_zero e1 k
     have z2:=and_zero e2 k
     cases hk : s.testBit k
     ·rfl
     ·cases hn : n.testBit k
      ·cases ht : taken.testBit k
       ·rfl
       ·exact absurd ⟨hk,ht⟩ z2
      ·exact absurd ⟨hk,hn⟩ z1
    have hp:=Jw h hdz hj h1 h2 h3
    refine Il h hy l _ _ (fun x hx=>hh x (by simp [hx])) (fun x hx=>hl x (by simp [hx])) ?_ he
    rw [<- Nat.or_assoc]
    omega

def y7 (cost : List Int) (o : List Int) : Int:=o.foldl (fun a s=>a + qP cost s.toNat) 0

theorem OL {cost : List Int} (h : ∀ c,c ∈ cost -> 0 <= c /\ c <= 1048576) {s' : Nat} : ∀ (m : List Int) (z : List Int × Nat),(∀ s,s ∈ m -> ∃ j,j < cost.length /\ s'.testBit j = true /\ s.toNat.testBit j = true) -> y7 cost z.1 <= iF cost (s' &&& z.2) ->
  y7 cost (m.foldl iy z).1 <= iF cost (s' &&& (m.foldl iy z).2)
 | [],_,_,hz=>hz
 | s :: m,z,hh,hz=>by
   rw [List.foldl_cons]
   refine OL h m (iy z s) (fun x hx=>hh x (by simp [hx])) ?_
   unfold iy
   split
   ·rename_i hd
    obtain ⟨j,hj,h1,h2⟩:=hh s (by simp)
    have hp:=Jw h hd hj h1 h2 h2
    show y7 cost (z.1 ++ [s]) <= _
    unfold y7 at hz ⊢
    rw [List.foldl_append]
    show _ + qP cost s.toNat <= iF cost (s' &&& (z.2 ||| s.toNat))
    omega
   ·exact hz

theorem Qu {cost : List Int} (h : ∀ c,c ∈ cost -> 0 <= c /\ c <= 1048576) {s' : Nat} {m : List Int} (hh : ∀ s,s ∈ m -> ∃ j,j < cost.length /\ s'.testBit j = true /\ s.toNat.testBit j = true) : y7 cost (V4 m).1 <= iF cost s':=by
 have:=OL h m ([],0) hh (by
  show (0 : Int) <= iF cost (s' &&& 0)
  exact (kN h _ _).1)
 have h2:=uF h (a:=s' &&& (V4 m).2) (b:=s') fun k hk=>(kV.1 hk).1
 unfold V4 at h2 ⊢
 omega

theorem Ws {vars path : Nat} {t : Sp} (h : yJ vars path t) (s' : Nat) : ∀ {y n : Nat},(∀ k,¬ (s'.testBit k = true /\ y.testBit k = true)) -> iR n s' -> ∃ x,x ∈ oW t y n /\ (∀ k,¬ (s'.testBit k = true /\ x.1.testBit k = true)) /\ iR x.2.1 s':=by
 induction h with
 | leaf path r =>
   intro y n hy hn
   exact ⟨(y,n,r),by rw [show oW (.mk 0 [] r) y n = [(y,n,r)] from rfl]; simp,hy,hn⟩
 | node path v a b hvv hpv _ _ iha ihb =>
   intro y n hy hn
   rw [show oW (.mk v [a,b] 0) y n = oW a y (n ||| 2 ^ v) ++ oW b (y ||| 2 ^ v) n by rw [oW,Int.toNat_natCast]]
   cases hb : s'.testBit v
   ·obtain ⟨x,h1,h2⟩:=ihb (y:=y ||| 2 ^ v) (n:=n) (fun k ⟨k1,k2⟩=>by
     rw [or_bit] at k2
     rcases k2 with k2 | rfl
     ·exact hy k ⟨k1,k2⟩
     ·rw [hb] at k1; cases k1) hn
    exact ⟨x,List.mem_append_right _ h1,h2⟩
   ·obtain ⟨x,h1,h2⟩:=iha (y:=y) (n:=n ||| 2 ^ v) hy (fun k hk=>by
     rw [or_bit] at hk
     rcases hk with hk | rfl
     ·exact hn k hk
     ·exact hb)
    exact ⟨x,List.mem_append_left _ h1,h2⟩

structure Y3 (f : Fo) (x : RC) (set : Nat) (total : Int) (cs : List Nat) (t : Sp) : Prop where
 sub : iR set x.st
 pri : iF x.cost set = total
 ok : dR f (aJ x.st set) = false
 cut : ∀ s,s ∈ cs -> s < 2 ^ f.vars.toNat /\ dR f s = true /\ iR s x.st
 tree : yJ f.vars.toNat 0 t
 leaf : ∀ z,z ∈ oW t 0 0 -> EU x cs total z.1 z.2.1 z.2.2 = true

theorem Cm {f : Fo} {x : RC} (h : nI f x) {s' s : Nat} (hok : dR f (aJ x.st s') = false) (hs : s < 2 ^ f.vars.toNat) (ht : dR f s = true) (hst : iR s x.st) : ∃ j,j < x.cost.length /\ s'.testBit j = true /\ s.testBit j = true:=by
 have hx : x.st < 2 ^ 63:=Nat.lt_of_lt_of_le h.st (Nat.pow_le_pow_right (by decide) (by have:=h.vars; omega))
 refine Classical.byContradiction fun hno=>?_
 have hsub : iR s (aJ x.st s'):=fun k hk=>by
  rw [lV hx,hst k hk]
  cases hb : s'.testBit k
  ·rfl
  ·refine absurd ⟨k,?_,hb,hk⟩ hno
   rw [h.len]
   refine Classical.byContradiction fun hkv=>?_
   rw [gI hs (by omega)] at hk; cases hk
 have:=wZ h.ok h.syn hsub ht
 rw [hok] at this; cases this

theorem VL {f : Fo} {x : RC} (h : nI f x) {set : Nat} {total : Int} {cs : List Nat} {t : Sp} (hv : Y3 f x set total cs t) : G5 f x set total:=by
 have hx : x.st < 2 ^ 63:=Nat.lt_of_lt_of_le h.st (Nat.pow_le_pow_right (by decide) (by have:=h.vars; omega))
 have XL : 2 ^ f.vars.toNat <= 2 ^ 7:=Nat.pow_le_pow_right (by decide) (by have:=h.vars; omega)
 refine ⟨hv.sub,hv.ok,hv.pri.symm,fun s' hs' hok=>?_⟩
 obtain ⟨⟨y,n,r⟩,hz,hy,hn⟩:=Ws hv.tree s' (y:=0) (n:=0) (fun k ⟨_,k2⟩=>by rw [Nat.zero_testBit] at k2; cases k2) (fun k hk=>by rw [Nat.zero_testBit] at hk; cases hk)
 dsimp only at hy hn
 have hl:=hv.leaf _ hz
 dsimp only at hl
 unfold EU at hl
 split at hl
 ·rename_i hr
  rw [Bool.and_eq_true,decide_eq_true_eq,decide_eq_true_eq] at hl
  obtain ⟨h1,h2⟩:=hl
  have hlt : r.toNat < cs.length:=by omega
  rw [show cs.getD r.toNat 0 = cs[r.toNat] by rw [List.getD_eq_getElem?_getD,List.getElem?_eq_getElem hlt]; rfl] at h2
  obtain ⟨c1,c2,c3⟩:=hv.cut _ (List.getElem_mem hlt)
  obtain ⟨j,_,h3,h4⟩:=Cm h hok c1 c2 c3
  have h5:=y5 (by omega) h2 h4
  exact absurd ⟨h3,h5⟩ (hy j)
 ·rw [Bool.and_eq_true] at hl
  refine Il h.rng hy cs _ 0 (fun s hs=>?_) (fun s hs=>?_) ?_ hl.2
  ·obtain ⟨c1,c2,c3⟩:=hv.cut s hs
   exact Cm h hok c1 c2 c3
  ·have:=(hv.cut s hs).1; omega
  ·refine uF h.rng fun k hk=>?_
   obtain ⟨k1,k2⟩:=kV.1 hk
   rw [kV,Nat.or_zero]
   exact ⟨hn k k2,k2⟩

def AU (st : Nat) (s : Int) : Bool:=decide (aJ s.toNat st ≠ 0)

theorem Gt (x : RC) (s : Int) (hs : 0 <= s /\ s <= 16777215) : aQ Tryz.prog 49 [.int .i64 s,.cp x.av] [] (.bool (AU x.st s)) []:=by
 obtain ⟨k,rfl⟩ : ∃ k : Nat,s = k:=⟨s.toNat,by omega⟩
 unfold AU
 rw [Int.toNat_natCast]
 have hk : k < 2 ^ 63:=by omega
 refine aQ.intro lay mixed Tryz.func49 (by kernel_rfl) rfl (by kernel_rfl) rfl fun hok=>?_
 (try dsimp only[aP,aC]);(try dsimp only[aj]);conv=>whnf
 rw [aU hk]
 (try dsimp only[aj]);conv=>whnf
 refine fM ?_;(conv=>whnf);refine ⟨?_,rfl⟩;conv=>whnf
 show ((aJ k x.st : Nat) : Int) ≠ 0 ↔ decide (aJ k x.st ≠ 0) = true
 rw [decide_eq_true_iff]
 omega

theorem Xk (g : Nat) (cap : List AV) : aQ Tryz.prog 48 [.gs 0 0,.fn g cap] [(0,.dU 1 [])] (.gs 0 0) [(0,.dU 1 [])]:=by
 have ci : aQ Tryz.prog 51 [.gs 0 0,.fn g cap] [(0,.dU 1 [])] (.int .i64 (-1)) [(0,.dU 1 [])]:=by
  refine aQ.intro lay mixed Tryz.func51 (by kernel_rfl) rfl (by kernel_rfl) rfl fun hok=>?_
  (try dsimp only[aP,aC]);(try dsimp only[aj]);conv=>whnf
  refine ⟨rfl,?_⟩
  (try dsimp only[aj]);conv=>whnf
  refine aN.step 1 ?_
  (try dsimp only[aj]);conv=>whnf
  refine bN (by decide) ?_
  (try dsimp only[aj]);conv=>whnf
  refine ⟨⟨_,_,.refl _ _,?_⟩⟩
  conv=>whnf
  refine ⟨?_,rfl,by simp [nextId],.mk ?_ (by simp [ak])⟩
  ·all_goals exact wk
  ·all_goals exact wk
 refine aQ.intro lay mixed Tryz.func48 (by kernel_rfl) rfl (by kernel_rfl) rfl fun hok=>?_
 (try dsimp only[aP,aC]);(try dsimp only[aj]);conv=>whnf
 refine .gen _ _ ci fun _=>?_
 (try dsimp only[aj]);conv=>whnf
 refine bY rfl ?_
 (try dsimp only[aj]);conv=>whnf
 refine ⟨⟨_,_,.refl _ _,?_⟩⟩
 conv=>whnf
 refine ⟨?_,rfl,by simp [nextId],.mk ?_ (by simp [ak])⟩
 ·all_goals exact wk
 ·all_goals exact wk

structure Vd (f : Fo) (x : RC) (l : List Int) : Prop where
 ex : ∃ p o,wQ f p /\ Xz p o /\ l = o.filter fun s=>!AU x.st s

def WithQ (f : Fo) (x : RC) (R : AV) : Prop:=R = .dA [.aV,eL] \/ ∃ l,R = .dA [iA l,.bH] /\ Vd f x l

theorem KJ (f : Fo) (x : RC) (h : nI f x) : dO Tryz.prog 27 [f.av,x.av] [] (PQ (WithQ f x)):=by
 have cp:=Xm f h.ok (wF f h.syn)
 refine dO.lD (.r 5 (.f [1] (.t .n))) lay mixed Tryz.func27 (by kernel_rfl) rfl (by kernel_rfl) rfl fun hok=>?_
 (try dsimp only[aP,aC]);(try dsimp only[aj]);conv=>whnf
 refine .oJ _ _ ?_ rfl cp fun R hq _=>?_
 ·exact au _
 obtain rfl | ⟨p,rfl,hp⟩:=hq
 ·(try dsimp only[aj]);conv=>whnf
  refine ⟨_,_,⟨rfl,rfl,.inl rfl⟩,?_⟩
  refine ⟨⟨_,_,.refl _ _,?_⟩⟩
  conv=>whnf
  refine ⟨?_,rfl,by simp [nextId],.mk ?_ (by simp [ak])⟩
  ·all_goals exact wk
  ·all_goals exact wk
 (try dsimp only[aj]);conv=>whnf
 refine .rel _ (dO.frame [] (UK p hp.ok) ⟨rfl,rfl,rfl,rfl⟩ trivial ?_) fun R H' hq _=>?_
 ·all_goals exact wk
 obtain ⟨_,_,⟨rfl,rfl⟩ | ⟨rfl,rfl,ho⟩ | ⟨o,rfl,rfl,ho⟩,rfl,rfl⟩:=hq
 ·(try dsimp only[aj]);conv=>whnf
  refine ⟨_,_,⟨rfl,rfl,.inl rfl⟩,?_⟩
  refine ⟨⟨_,_,.refl _ _,?_⟩⟩
  conv=>whnf
  refine ⟨?_,rfl,by simp [nextId],.mk ?_ (by simp [ak])⟩
  ·all_goals exact wk
  ·all_goals exact wk
 ·have hg : ∀ s,s ∈ ([0] : List Int) -> aQ Tryz.prog 49 (.int .i64 s :: [.cp x.av]) [] (.bool (AU x.st s)) []:=fun s hs=>Gt x s (by simp at hs; omega)
  have cd:=Xj [0] 49 [.cp x.av] (AU x.st) hg (by intro s hs; simp at hs; subst hs; unfold AU; simp [aJ])
  (try dsimp only[aj]);conv=>whnf
  refine ⟨⟨rfl,rfl⟩,?_⟩
  (try dsimp only[aj]);conv=>whnf
  refine .skip ?_
  (try dsimp only[aj]);conv=>whnf
  refine .pure _ _ ?_ ⟨rfl,rfl⟩ cd fun _=>?_
  ·all_goals exact wk
  (try dsimp only[aj]);conv=>whnf
  refine ⟨_,_,⟨rfl,rfl,.inr ⟨[0],rfl,⟨p,[0],hp,ho,?_⟩⟩⟩,?_⟩
  ·unfold AU; simp [aJ]
  refine ⟨⟨_,_,.refl _ _,?_⟩⟩
  conv=>whnf
  refine ⟨?_,rfl,by simp [nextId],.mk ?_ (by simp [ak])⟩
  ·all_goals exact wk
  ·all_goals exact wk
 ·have hol:=ho.ok.len
  have hg : ∀ s,s ∈ o -> aQ Tryz.prog 49 (.int .i64 s :: [.cp x.av]) [] (.bool (AU x.st s)) []:=fun s hs=>Gt x s (ho.ok.val s hs)
  (try dsimp only[aj]);conv=>whnf
  refine ⟨⟨rfl,rfl⟩,?_⟩
  have JQ : ∀ l,l = o.filter (fun s=>!AU x.st s) -> Vd f x l:=fun l hl=>⟨p,o,hp,ho,hl⟩
  by_cases ho0 : o = []
  ·subst ho0
   refine .skip ?_
   (try dsimp only[aj]);conv=>whnf
   refine .gen _ _ (aQ.frame [5] (Xk 49 [.cp x.av]) ⟨rfl,rfl,rfl,rfl⟩ ?_ ?_) fun _=>?_
   ·all_goals exact wk
   ·all_goals exact wk
   (try dsimp only[aj]);conv=>whnf
   refine ⟨.dA [iA [],.bH],[],⟨rfl,rfl,.inr ⟨[],rfl,JQ [] rfl⟩⟩,?_⟩
   refine ⟨⟨_,_,.uO 4 5 1 [] rfl rfl (by simp [maxL]) (.refl _ _),?_⟩⟩
   conv=>whnf
   refine ⟨?_,rfl,by simp [nextId],.mk ?_ (by simp [ak])⟩
   ·all_goals exact wk
   ·all_goals exact wk
  refine .go 8 5 1 (o.map (.int .i64)) rfl rfl (by simp [ho0]) fun cp hc1 hc2=>?_
  rw [List.length_map] at hc1 ⊢
  have cd:=Rj o (by omega) cp 49 hc1 [.cp x.av] (AU x.st) hg rfl
  (try dsimp only[aj]);conv=>whnf
  refine .rel _ (dO.frame [6] cd ⟨rfl,rfl,rfl,rfl⟩ ?_ ?_) fun R H' hq _=>?_
  ·all_goals exact wk
  ·all_goals exact wk
  obtain ⟨_,_,⟨k,l',rfl,rfl,hk,hl',htk⟩,rfl,rfl⟩:=hq
  (try dsimp only[aj]);conv=>whnf
  refine ⟨.dA [iA (l'.take k),.bH],[],⟨rfl,rfl,.inr ⟨l'.take k,rfl,JQ _ htk⟩⟩,?_⟩
  refine ⟨⟨_,_,.freeze 4 6 _ _ _ _ _ _ rfl rfl ?_ (.refl _ _),?_⟩⟩
  ·simp; omega
  conv=>whnf
  refine ⟨?_,rfl,by simp [nextId],.mk ?_ (by simp [ak])⟩
  ·repeat' first|exact rfl|exact trivial|exact wR|exact lR _|apply aI
   all_goals (refine bM ?_; simp [List.map_take])
  ·all_goals exact wk

def pV (v : Nat) (l : List Int) : Prop:=∀ x,x ∈ l -> 0 <= x /\ x.toNat < 2 ^ v

theorem SH {v : Nat} {a b m : List Int} (h : yK a b m) (ha : pV v a) (hb : pV v b) : pV v m :=
 fun x hx=>(List.mem_append.1 (h.min.sub x hx)).elim (ha x) (hb x)

theorem MB {v : Nat} (hv : v <= 24) {a b m : List Int} (h : qC a b m) (ha : pV v a) (hb : pV v b) : pV v m:=by
 obtain ⟨a',b',h1,h2,h3⟩:=h.ex
 intro u hu
 obtain ⟨x,hx,y,hy,rfl⟩:=lS.1 (h3.sub u hu)
 obtain ⟨x0,x1⟩:=ha x (h1.sub x hx)
 obtain ⟨y0,y1⟩:=hb y (h2.sub y hy)
 have hp : 2 ^ v <= 2 ^ 24:=Nat.pow_le_pow_right (by decide) hv
 obtain ⟨m,rfl⟩ : ∃ m : Nat,x = m:=⟨x.toNat,by omega⟩
 obtain ⟨n,rfl⟩ : ∃ n : Nat,y = n:=⟨y.toNat,by omega⟩
 rw [Int.toNat_natCast] at x1 y1
 rw [Hu (by omega) (by omega),Int.toNat_natCast]
 exact ⟨by omega,Nat.or_lt_two_pow x1 y1⟩

theorem Bq {v : Nat} {R : List Int -> List Int -> List Int -> Prop} (hR : ∀ a b m,R a b m -> pV v a -> pV v b -> pV v m) : ∀ {args : List (List Int)} {o m : List Int},kD R o args m -> pV v o -> (∀ a,a ∈ args -> pV v a) -> pV v m
 | [],_,_,h,ho,_=>by obtain rfl:=h; exact ho
 | a :: l,o,m,⟨o',h1,h2⟩,ho,ha=>Bq hR h2 (hR _ _ _ h1 ho (ha a (by simp))) fun b hb=>ha b (by simp [hb])

theorem IE (v : Nat) : pV v [0]:=fun x hx=>by
 rw [List.mem_singleton.1 hx]; exact ⟨by decide,Nat.two_pow_pos v⟩
theorem U6 (v : Nat) : pV v []:=fun x hx=>by cases hx

theorem Yd {v m : Nat} (hv : v <= 24) {V X : List (List Int)} {args : List (List Int)} (h : Eo V args X) (hV : V = pW m) (ha : ∀ a,a ∈ args -> pV v a) : X.length = m + 1 /\ ∀ k,k <= m -> pV v (X.getD k []):=by
 induction h with
 | nil =>
   subst hV
   refine ⟨by simp [pW],fun k hk=>?_⟩
   cases k with
   | zero=>exact IE v
   | succ k =>
     have : (pW m).getD (k + 1) [] = []:=by
      unfold pW
      rw [List.getD_eq_getElem?_getD,List.getElem?_cons_succ,List.getElem?_replicate]
      split <;> rfl
     rw [this]; exact U6 v
 | snoc h g ih =>
   rename_i W X l a
   obtain ⟨i1,i2⟩:=ih fun b hb=>ha b (by simp [hb])
   have hao:=ha a (by simp)
   refine ⟨by rw [g.len,i1],fun k hk=>?_⟩
   cases k with
   | zero=>rw [g.old 0 (Nat.le_refl _)]; exact i2 0 (by omega)
   | succ k =>
     obtain ⟨p,h1,h2⟩:=g.new (k + 1) (by omega) (by omega)
     rw [Nat.add_sub_cancel] at h1
     exact SH h2 (i2 (k + 1) hk) (MB hv h1 (i2 k (by omega)) hao)

theorem Yr {t : Fo} (h : su t) (hk : ∀ (i : Nat) (hi : i < t.nodes.length),kZ t.nodes[i] = false) {l : List (List Int)} (hl : rG t t.nodes.length l) : ∀ j,j < t.vars.toNat + t.nodes.length -> pV t.vars.toNat (l.getD j []):=by
 have hv:=h.vars
 intro j
 induction j using Nat.strongRecOn with
 | _ j ih =>
 intro hj
 rcases Nat.lt_or_ge j t.vars.toNat with Na | Na
 ·rw [hl.ev j Na]
  intro x hx
  rw [List.mem_singleton.1 hx]
  exact ⟨Int.natCast_nonneg _,by rw [Int.toNat_natCast]; exact Nat.pow_lt_pow_right (by decide) Na⟩
 ·obtain ⟨i,rfl⟩ : ∃ i,j = t.vars.toNat + i:=⟨j - t.vars.toNat,by omega⟩
  have hi : i < t.nodes.length:=by omega
  have nk:=h.nodes i hi
  have nd:=hl.nd i hi hi
  have hkd:=hk i hi
  generalize t.nodes[i] = x at *
  have fa : ∀ a,a ∈ (x.args.map fun a=>l.getD a.toNat []) -> pV t.vars.toNat a:=y8.2 fun a ha=>by
   have:=nk.args a ha
   exact ih _ (by omega) (by omega)
  have hkind : x.kind = 0 \/ x.kind = 2 \/ x.kind = 3 \/ x.kind = 4:=by
   have:=nk.kind
   unfold kZ at hkd
   simp at hkd
   omega
  rcases hkind with e | e | e | e
  ·rw [nd.c e]
   split
   ·exact IE _
   ·exact U6 _
  ·exact Bq (fun _ _ _=>SH) (nd.a e).chain (U6 _) fa
  ·exact Bq (fun _ _ _ h1=>MB (by omega) h1) (nd.o e).chain (IE _) fa
  ·obtain ⟨X,hX,hr⟩:=(nd.v e).ex
   rw [hr]
   exact (Yd (by omega) hX rfl fa).2 _ (Nat.le_refl _)

theorem Ht {f : Fo} (h : su f) (hc : qY f = true) {m : List Int} (hm : wQ f m) : pV f.vars.toNat m:=by
 obtain ⟨l,hl,rfl⟩:=hm.ex
 have h1:=(Bf f h).1
 have ht:=h1.top
 have hv2 : (trimF f).vars = f.vars:=rfl
 have hv:=h.vars
 have:=Yr h1 (fun i hi=>by
  unfold qY at hc
  rw [Bool.not_eq_true',List.any_eq_false] at hc
  have:=hc _ (List.getElem_mem hi)
  simpa using this) hl (trimF f).top.toNat (by omega)
 rwa [hv2] at this

theorem Qr {f : Fo} (h : su f) (hc : qY f = true) {p : List Int} (hp : wQ f p) {T : Nat} (hT : T < 2 ^ f.vars.toNat) : dR f T = true ↔ ∀ x,x ∈ p -> ∃ i,x.toNat.testBit i = true /\ T.testBit i = true:=by
 have hl:=Qh h hc hp hT
 have hb:=Ht h hc hp
 have hv:=h.vars
 have hp24 : 2 ^ f.vars.toNat <= 2 ^ 24:=Nat.pow_le_pow_right (by decide) (by omega)
 have hl : jU p (Yc f.vars.toNat T) ↔ dR f T = false:=hl
 have key : ∀ x,x ∈ p -> (lq x ((Yc f.vars.toNat T : Nat) : Int) = true ↔ ¬ ∃ i,x.toNat.testBit i = true /\ T.testBit i = true):=by
  intro x hx
  obtain ⟨x0,x1⟩:=hb x hx
  have e : x = ((x.toNat : Nat) : Int):=by omega
  rw [e,jy (by omega),Int.toNat_natCast]
  constructor
  ·rintro h1 ⟨i,h2,h3⟩
   have hi : i < f.vars.toNat:=by
    refine Classical.byContradiction fun hn=>?_
    rw [gI x1 (by omega)] at h2; cases h2
   have:=h1 i (by omega) h2
   rw [LW hT hi,h3] at this; cases this
  ·intro hn i _ h2
   have hi : i < f.vars.toNat:=by
    refine Classical.byContradiction fun hn=>?_
    rw [gI x1 (by omega)] at h2; cases h2
   rw [LW hT hi]
   cases h3 : T.testBit i
   ·rfl
   ·exact absurd ⟨i,h2,h3⟩ hn
 constructor
 ·intro ht x hx
  refine Classical.byContradiction fun hn=>?_
  have:=hl.1 ⟨x,hx,(key x hx).2 hn⟩
  rw [ht] at this; cases this
 ·intro hall
  cases ht : dR f T
  ·obtain ⟨x,hx,hs⟩:=hl.2 ht
   exact absurd (hall x hx) ((key x hx).1 hs)
  ·rfl
end S
