/-
  A logic for calls of Go functions: values, weakening. Nothing is assumed.
-/
import Derived.Calls
import Derived.Laws.Sem
import Derived.Laws.World
import Derived.Defers
import Derived.Maps.Keyed
import Derived.Laws.AppendOwn
import Derived.Laws.MakeOwn
namespace Go.AL
theorem aj{p:Prop}(h:p:=by omega):p:=h
theorem ak{p:Prop}(h:p:=by simp):p:=h
theorem au{p:Prop}(h:p:=by decide):p:=h
theorem ay{p:Prop}(h:p:=by decide +kernel):p:=h
theorem aA{p:Prop}(h:p:=by simp;omega):p:=h
abbrev aB:=@if_neg
abbrev aC:=@List.length_map
abbrev aF:=@List.getD_eq_getElem?_getD
abbrev aG:=@if_pos
abbrev aH:=@List.getElem?_eq_getElem
abbrev aJ:=@Int.toNat_natCast
abbrev aK:=@Nat.eq_of_beq_eq_true
abbrev aN:=@Bool.and_eq_true
abbrev aO:=@Nat.zero_le
abbrev aP:=@And.intro
abbrev aQ:=@List.getElem_mem
abbrev aS:=@Nat.le_refl
abbrev aT:=@List.mem_cons
abbrev aU:=@Classical.byContradiction
abbrev aV:=@List.map_append
abbrev aW:=@Option.some.inj
abbrev aX:=@List.drop_eq_nil_of_le
abbrev aY:=@List.getElem?_eq_some_iff
abbrev aZ:=@List.drop_eq_getElem_cons
abbrev bf:=@List.take_of_length_le
abbrev bg:=@List.take_length
abbrev bn:=@List.length_append
abbrev bC:=@Nat.zero_add
abbrev bD:=@List.length_take
abbrev bF:=@List.all_eq_true
abbrev bG:=@List.take_succ_eq_append_getElem
abbrev bH:=@List.getElem?_append_left
abbrev bI:=@Nat.le_of_ble_eq_true
abbrev bJ:=@Array.getElem?_toList
abbrev bK:=@decide_eq_false
abbrev bM:=@Array.length_toList
abbrev bP:=@List.append_assoc
abbrev bQ:=@Nat.pow_le_pow_right
abbrev bT:=@List.eq_nil_of_length_eq_zero
abbrev bU:=@Nat.pow_succ
abbrev bV:=@Nat.mul_le_mul_right
abbrev bW:=@decide_eq_true_eq
abbrev bZ:=@List.mem_map
abbrev cZ:=@List.mem_of_getElem?
abbrev dh:=@List.mem_cons_of_mem
abbrev dn:=@Nat.mul_le_mul_left
abbrev dw:=@Nat.add_mul
abbrev dA:=@Nat.mul_assoc
abbrev dB:=@Nat.mul_add
abbrev dD:=@List.mem_cons_self
abbrev dF:=@List.map_cons
abbrev dG:=@Array.getElem?_eq_some_iff
abbrev dH:=@Nat.le_trans
abbrev dI:=@Array.getD_eq_getD_getElem?
abbrev dJ:=@List.getElem?_append_right
abbrev dK:=@Nat.mul_comm
abbrev dM:=@List.mem_append
abbrev dN:=@Bool.false_eq_true
abbrev dO:=@List.getElem?_map
abbrev dP:=@List.map_set
abbrev dQ:=@decide_eq_true
abbrev dR:=@Int.le_refl
abbrev dS:=@Nat.mod_eq_of_lt
abbrev dU:=@Nat.add_zero
abbrev dV:=@List.getElem?_cons_succ
abbrev dW:=@List.length_cons
abbrev dX:=@List.getElem_of_mem
abbrev dY:=@List.foldl_cons
abbrev dZ:=@List.getElem?_cons_zero
abbrev eu:=@of_decide_eq_true
abbrev eF:=@Bool.not_eq_true'
abbrev eG:=@List.nil_append
abbrev eH:=@List.mem_append_left
abbrev eP:=@List.take_add_one
abbrev eU:=@List.getElem?_replicate
abbrev eX:=@List.cons_append
abbrev eY:=@Nat.div_lt_iff_lt_mul
abbrev fA:=@List.getElem?_toArray
abbrev fB:=@List.pairwise_cons
abbrev fC:=@Array.getElem?_eq_getElem
abbrev fD:=@List.drop_zero
abbrev fE:=@Bool.false_or
abbrev fF:=@List.mem_filter
abbrev fG:=@List.mem_replicate
abbrev fH:=@List.take_append_drop
abbrev fJ:=@List.length_filter_le
abbrev fO:=@Int.toNat_of_nonneg
abbrev fP:=@List.pairwise_iff_getElem
abbrev fQ:=@List.length_drop
abbrev fU:=@List.foldl_append
abbrev fV:=@Nat.lt_of_lt_of_le
abbrev fZ:=@Bool.not_true
abbrev gq:=@BitVec.toNat_ofNat
abbrev gu:=@Nat.mul_lt_mul_of_pos_right
abbrev gy:=@List.getElem?_eq_none
abbrev gB:=@Nat.mul_zero
abbrev gG:=@Bool.or_eq_true
abbrev gI:=@Nat.mod_lt
abbrev gJ:=@Nat.not_lt_zero
abbrev gK:=@Nat.pow_pos
abbrev gQ:=@List.getElem?_range
abbrev gU:=@Nat.ble_eq_true_of_le
abbrev gV:=@Nat.sub_self
abbrev gW:=@decide_eq_true_iff
abbrev gX:=@Nat.one_mul
abbrev gY:=@Nat.mul_le_mul
abbrev gZ:=@List.getElem?_drop
abbrev iq:=@Option.map_some
abbrev iw:=@Nat.min_eq_left
abbrev iy:=@List.map_take
abbrev iC:=@Int.natCast_add
abbrev iD:=@List.any_eq_true
abbrev iE:=@List.take_append_of_le_length
abbrev iF:=@List.mem_range
abbrev iG:=@List.countP_cons
abbrev iH:=@Rat.mkRat_self
abbrev iI:=@Nat.lt_of_mul_lt_mul_right
abbrev iJ:=@Nat.div_div_eq_div_mul
abbrev iK:=@List.nodup_append
abbrev iM:=@Int.fdiv_eq_ediv_of_nonneg
abbrev iO:=@Option.map_none
abbrev iP:=@Nat.mul_one
abbrev iQ:=@List.length_nil
abbrev iT:=@List.append_nil
abbrev iU:=@Array.getElem?_setIfInBounds_ne
abbrev iV:=@List.getLastD_eq_getLast?
abbrev iW:=@List.getLast?_eq_getElem?
abbrev iY:=@List.drop_length
abbrev iZ:=@Array.getElem?_setIfInBounds_self_of_lt
abbrev jc:=@Nat.add_assoc
abbrev jd:=@Nat.pow_add
abbrev je:=@List.getElem?_set_ne
abbrev jf:=@Array.toArray_toList
abbrev jg:=@Nat.or_lt_two_pow
abbrev jh:=@Nat.gcd_pos_of_pos_left
abbrev ji:=@Classical.not_not
abbrev jk:=@Bool.eq_false_iff
abbrev jl:=@Bool.eq_iff_iff
abbrev jm:=@Nat.div_mul_le_self
abbrev jo:=@List.take_succ_cons
abbrev jq:=@List.length_pos_iff
abbrev jr:=@Iff.rfl
abbrev jv:=@Bool.true_and
abbrev jw:=@Bool.and_self
abbrev jy:=@List.getElem?_take
abbrev jA:=@Int.natCast_nonneg
abbrev jB:=@Bool.not_false
abbrev jC:=@List.length_singleton
abbrev jD:=@List.length_replicate
abbrev jE:=@Go.MapKept.run_getObj_map
abbrev jF:=@Nat.two_pow_pos
abbrev jG:=@Nat.div_le_self
abbrev jH:=@Nat.div_add_mod
abbrev jI:=@Nat.testBit_eq_decide_div_mod_eq
abbrev jJ:=@Nat.pow_lt_pow_right
abbrev jK:=@List.size_toArray
abbrev jL:=@Nat.div_eq_of_lt
abbrev jM:=@Nat.add_sub_cancel_left
abbrev jO:=@List.take_zero
abbrev jP:=@List.length_eq_zero_iff
abbrev jQ:=@List.drop_append_of_le_length
abbrev jR:=@of_decide_eq_false
abbrev jS:=@Nat.lt_or_ge
abbrev jT:=@List.set_cons_succ
abbrev jU:=@List.map_replicate
abbrev jV:=@List.map_map
abbrev jW:=@List.getElem_cons_zero
abbrev jX:=@Nat.mul_ne_zero
abbrev jY:=@Nat.mod_add_div
abbrev jZ:=@List.append_inj
abbrev ku:=@Nat.le_div_iff_mul_le
abbrev kC:=@List.set_append_right
abbrev kD:=@List.mem_iff_getElem?
abbrev kE:=@List.mem_append_right
abbrev kF:=@List.length_mergeSort
abbrev kG:=@List.getElem?_set
abbrev kH:=@List.any_eq_false
abbrev kJ:=@Nat.add_mul_div_left
abbrev kK:=@List.mem_of_mem_take
abbrev kL:=@List.drop_drop
abbrev kM:=@Option.getD_some
abbrev kN:=@List.filter_cons
abbrev kP:=@Nat.add_mul_mod_self_left
abbrev kQ:=@List.mem_or_eq_of_mem_set
abbrev kR:=@List.mem_map_of_mem
abbrev kS:=@Array.toList_filter
abbrev kT:=@List.getElem_append_left
abbrev kU:=@Nat.gcd_le_left
abbrev kV:=@List.range_succ
abbrev kW:=@Nat.lt_div_mul_add
abbrev kX:=@List.mem_singleton
abbrev kY:=@List.filter_append
abbrev kZ:=@List.countP_append
abbrev lu:=@Option.bind_eq_some_iff
abbrev lD:=@Nat.mul_left_comm
abbrev lF:=@Nat.add_comm
abbrev lG:=@List.mapM_cons
abbrev lH:=@List.length_range
abbrev lI:=@List.getElem_take
abbrev lJ:=@Bool.and_false
abbrev lK:=@BitVec.eq_of_toNat_eq
abbrev lM:=@List.le_antisymm
abbrev lN:=@List.ext_getElem
abbrev lQ:=@congrArg
abbrev lS:=@Nat.shiftLeft_add_eq_or_of_lt
abbrev lT:=@Nat.div_lt_self
abbrev lU:=@Int.natCast_mul
abbrev lV:=@Nat.testBit_two_pow
abbrev lW:=@UInt8.toNat_ofNat'
abbrev lX:=@Nat.mul_lt_mul_of_le_of_lt
abbrev lY:=@Int.natAbs_mul
abbrev lZ:=@Nat.shiftRight_eq_div_pow
abbrev l7:=@List.getElem_append_right
abbrev l9:=@List.getElem?_zip_eq_some
abbrev mg:=@Option.some.injEq
abbrev mD:=@Nat.lt_trichotomy
abbrev mF:=@Nat.le_succ
abbrev mG:=@Array.toList_push
abbrev mJ:=@Prod.mk.injEq
abbrev mM:=@List.sum_cons
abbrev mO:=@List.map_drop
abbrev mP:=@List.getElem_map
abbrev mQ:=@Array.toList_map
abbrev mV:=@Nat.testBit_lt_two_pow
abbrev mW:=@Nat.sub_le
abbrev mX:=@Nat.pow_zero
abbrev mY:=@Nat.gcd_comm
abbrev mZ:=@List.getElem_cons_succ
abbrev ng:=@List.nodup_cons
abbrev ni:=@List.length_set
abbrev nC:=@Nat.mul_mod_mul_right
abbrev nD:=@List.getElem_set_self
abbrev nG:=@List.contains_iff_mem
abbrev nH:=@List.pairwise_append
abbrev nI:=@List.mem_of_mem_drop
abbrev nJ:=@List.mem_iff_getElem
abbrev nK:=@List.toList_toArray
abbrev nM:=@List.replicate_succ
abbrev nN:=@List.mergeSort_perm
abbrev nO:=@List.map_congr_left
abbrev nP:=@List.drop_succ_cons
abbrev nR:=@List.cons.inj
abbrev nS:=@List.all_cons
abbrev nT:=@List.getElem_range
abbrev nU:=@List.flatMap_cons
abbrev nV:=@List.ext_getElem?
abbrev nX:=@Int.ofNat_lt
abbrev nY:=@Bool.true_or
abbrev nZ:=@Array.size_append
abbrev oh:=@exists_eq_or_imp
abbrev oq:=@Nat.shiftLeft_eq
abbrev ou:=@Nat.lt_succ_self
abbrev oz:=@Nat.le_add_right
abbrev oC:=@List.eq_nil_iff_forall_not_mem
abbrev oD:=@Bool.not_eq_true
abbrev oG:=@BitVec.toNat_and
abbrev oH:=@List.countP_map
abbrev oI:=@BitVec.toNat_or
end Go.AL
namespace Go.AL
def maxL:Nat:=9223372036854775807
inductive Tk where
 |no|full|own (k:Nat)
 deriving Inhabited
inductive AV where
 |bool (b:Bool)|tt|ff|dec (p:Prop)
 |int (k:IntKind) (n:Int)
 |str (s:List UInt8)
 |vJ|uV (t:Nat) (x:AV)
 |qW|sl (sz:Nat) (l:List AV) (tok:Tk)
 |ms (k off len cap sz:Nat)
 |ag (l:List AV)|uf (l:List AV)
 |ptr (k:Nat) (path:List Nat) (off:Nat)|cp (x:AV)|vW
 |fn (f:Nat) (cap:List AV)|ru
 |mp (k:Nat)|zq
 |gs (k len:Nat)
 |bm (f k:Nat)
 |und
 deriving Inhabited
def uz:AV->Bool
 | .ag _=>true
 |_=>false
mutual
def flat:AV->Nat
 | .ag l=>yY l
 |_=>1
def yY:List AV->Nat
 | []=>0
 |x::l=>flat x+yY l
end
def AO(w:World)(Im:Nat->Nat->Prop)(b off:Nat)(cs:List Value):Prop :=
 ∀j v,cs[j]? = some v->w.cell? ⟨b,off+j,none⟩=some v/\Im b (off+j)
def KF(k:IntKind)(n:Int):Prop:=k.min<=n/\n<=k.max
def wE(A:AV)(v:Value):Prop :=
 (uz A=true->∃cs,v=.agg cs)/\(uz A=false->v.cells = #[v])
mutual
def Rd(w:World)(Im:Nat->Nat->Prop):AV->List Value->Prop
 | .bool b,cs=>cs=[.bool b]
 | .tt,cs=>cs=[.bool true]
 | .ff,cs=>cs=[.bool false]
 | .dec p,cs=>∃b,cs=[.bool b]/\(b=true↔p)
 | .int k n,cs=>cs=[.int k n]/\KF k n
 | .str s,cs=>cs=[.string ⟨s.toArray⟩]/\s.length<=maxL
 | .vJ,cs=>cs=[.nilIface]
 | .uV t x,cs=>∃v,cs=[.iface t v]/\wE x v/\Rd w Im x v.cells.toList
 | .qW,cs=>cs=[.slice none 0 0]
 | .sl sz l .no,cs=>l.length<=maxL/\((l=[]/\cs=[.slice none 0 0]) \/
   ∃a cap,cs=[.slice (some a) l.length cap]/\l.length<=cap/\cap<=maxL/\(l≠[]->a.spot=none)/\IV w Im sz a.block l a.off)
 | .cp x,cs=>∃a ds,cs=[.pointer (some a)]/\a.spot=none/\AO w Im a.block a.off ds/\Rd w Im x ds
 | .vW,cs=>cs=[.pointer none]
 | .fn f cap,cs=>∃vs,cs=[.func (.func f) #[] vs.toArray]/\RdA w Im cap vs
 | .ru,cs=>cs=[.nilFunc]
 | .zq,cs=>cs=[.map none]
 | .ag l,cs=>DX w Im l cs
 |_,_=>False
def DX(w:World)(Im:Nat->Nat->Prop):List AV->List Value->Prop
 | [],cs=>cs=[]
 |x::l,cs=>∃c d,cs=c++d/\Rd w Im x c/\DX w Im l d
def IV(w:World)(Im:Nat->Nat->Prop)(sz b:Nat):List AV->Nat->Prop
 | [],_=>True
 |x::l,off=>(∃cs,cs.length=sz/\AO w Im b off cs/\Rd w Im x cs)/\IV w Im sz b l (off+sz)
def RdA(w:World)(Im:Nat->Nat->Prop):List AV->List Value->Prop
 | [],vs=>vs=[]
 |x::l,vs=>∃v r,vs=v::r/\wE x v/\Rd w Im x v.cells.toList/\RdA w Im l r
end
structure Cx where
 w:World
 Im:Nat->Nat->Prop
 ρ:Nat->Nat
 nx:Nat
 tk:Nat->Option Addr×Nat
 tp:Nat->Option Nat
mutual
def VR(c:Cx):AV->List Value->Prop
 | .ptr k _ off,cs=>k<c.nx/\cs=[.pointer (some ⟨c.ρ k,off,none⟩)]
 | .ms k off len cap sz,cs=>k<c.nx/\cs=[.slice (some ⟨c.ρ k,off*sz,none⟩) len cap]/\len<=cap/\cap<=maxL
 | .sl sz l .full,cs=>Rd c.w c.Im (.sl sz l .no) cs/\∃a,cs=[.slice a l.length l.length]
 | .sl sz l (.own k),cs=>k<c.nx/\Rd c.w c.Im (.sl sz l .no) cs /\
   ∀n,c.tp k=some n->l.length<=n/\(l.length=n->cs=[.slice (c.tk k).1 n (c.tk k).2])
 | .mp k,cs=>k<c.nx/\cs=[.map (some (c.ρ k))]
 | .bm f k,cs=>k<c.nx/\cs=[.func (.func f) #[.pointer (some ⟨c.ρ k,0,none⟩)] #[]]
 | .gs k len,cs=>k<c.nx/\(∃a n m,cs=[.slice a n m])/\∀n,c.tp k=some n->len<=n/\(len=n->cs=[.slice (c.tk k).1 n (c.tk k).2])
 | .fn f cap,cs=>∃vs,cs=[.func (.func f) #[] vs.toArray]/\VA c cap vs
 | .ag l,cs=>Ea c l cs
 | .uV t x,cs=>∃v,cs=[.iface t v]/\wE x v/\VR c x v.cells.toList
 |A,cs=>Rd c.w c.Im A cs
def Ea(c:Cx):List AV->List Value->Prop
 | [],cs=>cs=[]
 |x::l,cs=>∃a d,cs=a++d/\VR c x a/\Ea c l d
def VA(c:Cx):List AV->List Value->Prop
 | [],vs=>vs=[]
 |x::l,vs=>∃v r,vs=v::r/\wE x v/\VR c x v.cells.toList/\VA c l r
end
def VV(c:Cx)(A:AV)(v:Value):Prop:=wE A v/\VR c A v.cells.toList
def EV(c:Cx):AV->Value->Prop
 | .und,_=>True
 | .uf l,v=>∃vs,v=.tuple vs/\VA c l vs.toList
 |A,v=>VV c A v
theorem QB{w w':World}{Im Im':Nat->Nat->Prop}(h:∀b o,Im b o->Im' b o/\w'.cell? ⟨b,o,none⟩=w.cell? ⟨b,o,none⟩)
  {b off:Nat} {cs:List Value} (hc:AO w Im b off cs):AO w' Im' b off cs:=by
 intro j v hj;obtain⟨h1,h2⟩:=hc j v hj;exact⟨(h _ _ h2).2.trans h1,(h _ _ h2).1⟩
mutual
theorem wo{w w':World}{Im Im':Nat->Nat->Prop}(h:∀b o,Im b o->Im' b o/\w'.cell? ⟨b,o,none⟩=w.cell? ⟨b,o,none⟩) :
  ∀(A:AV) (cs:List Value),Rd w Im A cs->Rd w' Im' A cs
 | .bool _,_,hr=>by simpa only[Rd]using hr
 | .tt,_,hr=>by simpa only[Rd]using hr
 | .ff,_,hr=>by simpa only[Rd]using hr
 | .dec _,_,hr=>by simpa only[Rd]using hr
 | .int _ _,_,hr=>by simpa only[Rd]using hr
 | .str _,_,hr=>by simpa only[Rd]using hr
 | .vJ,_,hr=>by simpa only[Rd]using hr
 | .uV t x,cs,hr=>by simp only[Rd]at hr ⊢;obtain⟨v,h1,h2,h3⟩:=hr;exact⟨v,h1,h2,wo h x _ h3⟩
 | .qW,_,hr=>by simpa only[Rd]using hr
 | .sl sz l .no,cs,hr=>by simp only[Rd]at hr ⊢;obtain⟨h0,hr⟩:=hr;refine⟨h0,hr.imp id ?_⟩;rintro⟨a,cap,h1,h2,h3,h4,h5⟩;exact⟨a,cap,h1,h2,h3,h4,Yu h _ _ l _ h5⟩
 | .sl sz l .full,cs,hr=>by simp only[Rd]at hr
 | .sl sz l (.own _),cs,hr=>by simp only[Rd]at hr
 | .ms _ _ _ _ _,_,hr=>by simp only[Rd]at hr
 | .ag l,cs,hr=>by simp only[Rd]at hr ⊢;exact a3y h l cs hr
 | .uf _,_,hr=>by simp only[Rd]at hr
 | .ptr _ _ _,_,hr=>by simp only[Rd]at hr
 | .cp x,cs,hr=>by simp only[Rd]at hr ⊢;obtain⟨a,ds,h1,h2,h3,h4⟩:=hr;exact⟨a,ds,h1,h2,QB h h3,wo h x _ h4⟩
 | .vW,_,hr=>by simpa only[Rd]using hr
 | .fn f cap,cs,hr=>by simp only[Rd]at hr ⊢;obtain⟨vs,h1,h2⟩:=hr;exact⟨vs,h1,a3B h cap vs h2⟩
 | .ru,_,hr=>by simpa only[Rd]using hr
 | .mp _,_,hr=>by simp only[Rd]at hr
 | .zq,_,hr=>by simpa only[Rd]using hr
 | .gs _ _,_,hr=>by simp only[Rd]at hr
 | .bm _ _,_,hr=>by simp only[Rd]at hr
 | .und,_,hr=>by simp only[Rd]at hr
theorem a3y{w w':World}{Im Im':Nat->Nat->Prop}(h:∀b o,Im b o->Im' b o/\w'.cell? ⟨b,o,none⟩=w.cell? ⟨b,o,none⟩) :
  ∀(l:List AV) (cs:List Value),DX w Im l cs->DX w' Im' l cs
 | [],_,hr=>by simpa only[DX]using hr
 |x::l,cs,hr=>by simp only[DX]at hr ⊢;obtain⟨c,d,h1,h2,h3⟩:=hr;exact⟨c,d,h1,wo h x _ h2,a3y h l _ h3⟩
theorem Yu{w w':World}{Im Im':Nat->Nat->Prop}(h:∀b o,Im b o->Im' b o/\w'.cell? ⟨b,o,none⟩=w.cell? ⟨b,o,none⟩)(sz b:Nat) :
  ∀(l:List AV) (off:Nat),IV w Im sz b l off->IV w' Im' sz b l off
 | [],_,_=>by simp only[IV]
 |x::l,off,hr=>by simp only[IV]at hr ⊢;obtain⟨⟨cs,h1,h2,h3⟩,h4⟩:=hr;exact⟨⟨cs,h1,QB h h2,wo h x _ h3⟩,Yu h sz b l _ h4⟩
theorem a3B{w w':World}{Im Im':Nat->Nat->Prop}(h:∀b o,Im b o->Im' b o/\w'.cell? ⟨b,o,none⟩=w.cell? ⟨b,o,none⟩) :
  ∀(l:List AV) (vs:List Value),RdA w Im l vs->RdA w' Im' l vs
 | [],_,hr=>by simpa only[RdA]using hr
 |x::l,vs,hr=>by simp only[RdA]at hr ⊢;obtain⟨v,r,h1,h2,h3,h4⟩:=hr;exact⟨v,r,h1,h2,wo h x _ h3,a3B h l _ h4⟩
end
structure Cx.Le(c d:Cx):Prop where
 im:∀b o,c.Im b o->d.Im b o/\d.w.cell? ⟨b,o,none⟩=c.w.cell? ⟨b,o,none⟩
 nx:c.nx<=d.nx
 ρ:∀k,k<c.nx->d.ρ k=c.ρ k
 tk:∀k n,k<c.nx->d.tp k=some n->(c.tp k=some n/\d.tk k=c.tk k)\/∃m,c.tp k=some m/\m<n
mutual
theorem DW{c d:Cx}(h:c.Le d):∀(A:AV) (cs:List Value),VR c A cs->VR d A cs
 | .bool _,cs,hr=>by simp only[VR]at hr ⊢;exact wo h.im _ _ hr
 | .tt,_,hr=>by simp only[VR]at hr ⊢;exact wo h.im _ _ hr
 | .ff,_,hr=>by simp only[VR]at hr ⊢;exact wo h.im _ _ hr
 | .dec _,_,hr=>by simp only[VR]at hr ⊢;exact wo h.im _ _ hr
 | .int _ _,_,hr=>by simp only[VR]at hr ⊢;exact wo h.im _ _ hr
 | .str _,_,hr=>by simp only[VR]at hr ⊢;exact wo h.im _ _ hr
 | .vJ,_,hr=>by simp only[VR]at hr ⊢;exact wo h.im _ _ hr
 | .uV t x,cs,hr=>by simp only[VR]at hr ⊢;obtain⟨v,h1,h2,h3⟩:=hr;exact⟨v,h1,h2,DW h x _ h3⟩
 | .qW,_,hr=>by simp only[VR]at hr ⊢;exact wo h.im _ _ hr
 | .sl _ _ .no,_,hr=>by simp only[VR]at hr ⊢;exact wo h.im _ _ hr
 | .sl _ _ .full,_,hr=>by simp only[VR]at hr ⊢;exact⟨wo h.im _ _ hr.1,hr.2⟩
 | .sl sz l (.own k),cs,hr=>by simp only[VR]at hr ⊢;obtain⟨h1,h2,h3⟩:=hr;refine⟨fV h1 h.nx,wo h.im _ _ h2,λn hn=>?_⟩;rcases h.tk k n h1 hn with⟨h4,h5⟩|⟨m,h4,h5⟩;{rw[h5];exact h3 n h4};have:=(h3 m h4).1;exact⟨aj,λe=>aj⟩
 | .ms k _ _ _ _,_,hr=>by simp only[VR]at hr ⊢;rw[h.ρ k hr.1];exact⟨fV hr.1 h.nx,hr.2⟩
 | .ag l,cs,hr=>by simp only[VR]at hr ⊢;exact a3x h l cs hr
 | .uf _,_,hr=>by simp only[VR]at hr ⊢;exact wo h.im _ _ hr
 | .ptr k _ _,_,hr=>by simp only[VR]at hr ⊢;rw[h.ρ k hr.1];exact⟨fV hr.1 h.nx,hr.2⟩
 | .cp x,cs,hr=>by simp only[VR]at hr ⊢;exact wo h.im _ _ hr
 | .vW,_,hr=>by simp only[VR]at hr ⊢;exact wo h.im _ _ hr
 | .fn f cap,cs,hr=>by simp only[VR]at hr ⊢;obtain⟨vs,h1,h2⟩:=hr;exact⟨vs,h1,a1S h cap vs h2⟩
 | .ru,_,hr=>by simp only[VR]at hr ⊢;exact wo h.im _ _ hr
 | .mp k,_,hr=>by simp only[VR]at hr ⊢;rw[h.ρ k hr.1];exact⟨fV hr.1 h.nx,hr.2⟩
 | .bm f k,_,hr=>by simp only[VR]at hr ⊢;rw[h.ρ k hr.1];exact⟨fV hr.1 h.nx,hr.2⟩
 | .gs k len,_,hr=>by simp only[VR]at hr ⊢;obtain⟨h1,h2,h3⟩:=hr;refine⟨fV h1 h.nx,h2,λn hn=>?_⟩;rcases h.tk k n h1 hn with⟨h4,h5⟩|⟨m,h4,h5⟩;{rw[h5];exact h3 n h4};have:=(h3 m h4).1;exact⟨aj,λe=>aj⟩
 | .zq,_,hr=>by simp only[VR]at hr ⊢;exact wo h.im _ _ hr
 | .und,_,hr=>by simp only[VR]at hr ⊢;exact wo h.im _ _ hr
theorem a3x{c d:Cx}(h:c.Le d):∀(l:List AV) (cs:List Value),Ea c l cs->Ea d l cs
 | [],_,hr=>by simpa only[Ea]using hr
 |x::l,cs,hr=>by simp only[Ea]at hr ⊢;obtain⟨a,e,h1,h2,h3⟩:=hr;exact⟨a,e,h1,DW h x _ h2,a3x h l _ h3⟩
theorem a1S{c d:Cx}(h:c.Le d):∀(l:List AV) (vs:List Value),VA c l vs->VA d l vs
 | [],_,hr=>by simpa only[VA]using hr
 |x::l,vs,hr=>by simp only[VA]at hr ⊢;obtain⟨v,r,h1,h2,h3,h4⟩:=hr;exact⟨v,r,h1,h2,DW h x _ h3,a1S h l _ h4⟩
end
theorem Cb{c d:Cx}(h:c.Le d){A:AV}{v:Value}(hv:VV c A v):VV d A v:=⟨hv.1,DW h _ _ hv.2⟩
theorem Cc{c d:Cx}(h:c.Le d):∀{A:AV} {v:Value},EV c A v->EV d A v:=by
 intro A v hv;cases A <;> first
  |exact Cb h hv
  |trivial
  |(obtain⟨vs,h1,h2⟩:=hv;exact⟨vs,h1,a1S h _ _ h2⟩)
end Go.AL
namespace Go.AL
mutual
theorem uH{w:World}{Im:Nat->Nat->Prop}:∀(A:AV) (cs:List Value),Rd w Im A cs->cs.length=flat A
 | .bool _,_,hr=>by simp only[Rd]at hr;subst hr;rfl
 | .tt,_,hr=>by simp only[Rd]at hr;subst hr;rfl
 | .ff,_,hr=>by simp only[Rd]at hr;subst hr;rfl
 | .dec _,_,hr=>by simp only[Rd]at hr;obtain⟨b,rfl,_⟩:=hr;rfl
 | .int _ _,_,hr=>by simp only[Rd]at hr;obtain⟨rfl,_⟩:=hr;rfl
 | .str _,_,hr=>by simp only[Rd]at hr;obtain⟨rfl,_⟩:=hr;rfl
 | .vJ,_,hr=>by simp only[Rd]at hr;subst hr;rfl
 | .uV t x,cs,hr=>by simp only[Rd]at hr;obtain⟨v,rfl,_⟩:=hr;rfl
 | .qW,_,hr=>by simp only[Rd]at hr;subst hr;rfl
 | .sl sz l .no,cs,hr=>by simp only[Rd]at hr;obtain⟨_,⟨_,rfl⟩|⟨a,cap,rfl,_⟩⟩:=hr <;> rfl
 | .sl sz l .full,cs,hr=>by simp only[Rd]at hr
 | .sl sz l (.own _),cs,hr=>by simp only[Rd]at hr
 | .ms _ _ _ _ _,_,hr=>by simp only[Rd]at hr
 | .ag l,cs,hr=>by simp only[Rd]at hr;simp only[flat];exact Yq l cs hr
 | .uf _,_,hr=>by simp only[Rd]at hr
 | .ptr _ _ _,_,hr=>by simp only[Rd]at hr
 | .cp x,cs,hr=>by simp only[Rd]at hr;obtain⟨a,ds,rfl,_⟩:=hr;rfl
 | .vW,_,hr=>by simp only[Rd]at hr;subst hr;rfl
 | .fn _ _,_,hr=>by simp only[Rd]at hr;obtain⟨_,rfl,_⟩:=hr;rfl
 | .ru,_,hr=>by simp only[Rd]at hr;subst hr;rfl
 | .mp _,_,hr=>by simp only[Rd]at hr
 | .gs _ _,_,hr=>by simp only[Rd]at hr
 | .bm _ _,_,hr=>by simp only[Rd]at hr
 | .zq,_,hr=>by simp only[Rd]at hr;subst hr;rfl
 | .und,_,hr=>by simp only[Rd]at hr
theorem Yq{w:World}{Im:Nat->Nat->Prop}:∀(l:List AV) (cs:List Value),DX w Im l cs->cs.length=yY l
 | [],_,hr=>by simp only[DX]at hr;subst hr;rfl
 |x::l,cs,hr=>by simp only[DX]at hr;obtain⟨c,d,rfl,h2,h3⟩:=hr;simp only[yY,bn,uH x _ h2,Yq l _ h3]
end
mutual
theorem xU{c:Cx}:∀(A:AV) (cs:List Value),VR c A cs->cs.length=flat A
 | .bool _,_,hr=>by simp only[VR]at hr;exact uH _ _ hr
 | .tt,_,hr=>by simp only[VR]at hr;exact uH _ _ hr
 | .ff,_,hr=>by simp only[VR]at hr;exact uH _ _ hr
 | .dec _,_,hr=>by simp only[VR]at hr;exact uH _ _ hr
 | .int _ _,_,hr=>by simp only[VR]at hr;exact uH _ _ hr
 | .str _,_,hr=>by simp only[VR]at hr;exact uH _ _ hr
 | .vJ,_,hr=>by simp only[VR]at hr;exact uH _ _ hr
 | .uV t x,cs,hr=>by simp only[VR]at hr;obtain⟨v,rfl,_⟩:=hr;rfl
 | .qW,_,hr=>by simp only[VR]at hr;exact uH _ _ hr
 | .sl sz l .no,cs,hr=>by simp only[VR]at hr;exact uH _ _ hr
 | .sl sz l .full,cs,hr=>by simp only[VR]at hr;exact uH (.sl sz l .no) _ hr.1
 | .sl sz l (.own _),cs,hr=>by simp only[VR]at hr;exact uH (.sl sz l .no) _ hr.2.1
 | .ms _ _ _ _ _,_,hr=>by simp only[VR]at hr;obtain⟨_,rfl,_⟩:=hr;rfl
 | .ag l,cs,hr=>by simp only[VR]at hr;simp only[flat];exact Yi l cs hr
 | .uf _,_,hr=>by simp only[VR]at hr;exact uH _ _ hr
 | .ptr _ _ _,_,hr=>by simp only[VR]at hr;obtain⟨_,rfl⟩:=hr;rfl
 | .cp x,cs,hr=>by simp only[VR]at hr;exact uH _ _ hr
 | .vW,_,hr=>by simp only[VR]at hr;exact uH _ _ hr
 | .fn _ _,_,hr=>by simp only[VR]at hr;obtain⟨_,rfl,_⟩:=hr;rfl
 | .ru,_,hr=>by simp only[VR]at hr;exact uH _ _ hr
 | .mp _,_,hr=>by simp only[VR]at hr;obtain⟨_,rfl⟩:=hr;rfl
 | .gs _ _,_,hr=>by simp only[VR]at hr;obtain⟨_,⟨_,_,_,rfl⟩,_⟩:=hr;rfl
 | .bm _ _,_,hr=>by simp only[VR]at hr;obtain⟨_,rfl⟩:=hr;rfl
 | .zq,_,hr=>by simp only[VR]at hr;exact uH _ _ hr
 | .und,_,hr=>by simp only[VR]at hr;exact uH _ _ hr
theorem Yi{c:Cx}:∀(l:List AV) (cs:List Value),Ea c l cs->cs.length=yY l
 | [],_,hr=>by simp only[Ea]at hr;subst hr;rfl
 |x::l,cs,hr=>by simp only[Ea]at hr;obtain⟨a,d,rfl,h2,h3⟩:=hr;simp only[yY,bn,xU x _ h2,Yi l _ h3]
end
def mkV(A:AV)(cs:List Value):Value:=match A with
 | .ag _=>.agg cs.toArray
 |_=>cs.getD 0 default
theorem Aq{c:Cx}{A:AV}{cs:List Value}(h:VR c A cs)(hA:uz A=false):∃v,cs=[v]/\v.cells = #[v]:=by
 cases A with
 |ag l=>simp[uz]at hA
 |dec p=>simp only[VR,Rd]at h;obtain⟨b,rfl,_⟩:=h;exact⟨_,rfl,rfl⟩
 | sl sz l tok =>
   cases tok with
   |no=>simp only[VR,Rd]at h;obtain⟨_,⟨_,rfl⟩|⟨a,cap,rfl,_⟩⟩:=h <;> exact⟨_,rfl,rfl⟩
   |full=>simp only[VR,Rd]at h;obtain⟨⟨_,⟨_,rfl⟩|⟨a,cap,rfl,_⟩⟩,_⟩:=h <;> exact⟨_,rfl,rfl⟩
   |own k=>simp only[VR,Rd]at h;obtain⟨_,⟨_,⟨_,rfl⟩|⟨a,cap,rfl,_⟩⟩,_⟩:=h <;> exact⟨_,rfl,rfl⟩
 |uV t x=>simp only[VR]at h;obtain⟨v,rfl,_⟩:=h;exact⟨_,rfl,rfl⟩
 |cp x=>simp only[VR,Rd]at h;obtain⟨a,ds,rfl,_⟩:=h;exact⟨_,rfl,rfl⟩
 |fn f cap=>simp only[VR]at h;obtain⟨vs,rfl,_⟩:=h;exact⟨_,rfl,rfl⟩
 |uf l=>simp only[VR,Rd]at h
 |und=>simp only[VR,Rd]at h
 |ptr=>simp only[VR]at h;obtain⟨_,rfl⟩:=h;exact⟨_,rfl,rfl⟩
 |ms=>simp only[VR]at h;obtain⟨_,rfl,_⟩:=h;exact⟨_,rfl,rfl⟩
 |mp=>simp only[VR]at h;obtain⟨_,rfl⟩:=h;exact⟨_,rfl,rfl⟩
 |gs=>simp only[VR]at h;obtain⟨_,⟨_,_,_,rfl⟩,_⟩:=h;exact⟨_,rfl,rfl⟩
 |bm=>simp only[VR]at h;obtain⟨_,rfl⟩:=h;exact⟨_,rfl,rfl⟩
 |int=>simp only[VR,Rd]at h;obtain⟨rfl,_⟩:=h;exact⟨_,rfl,rfl⟩
 |str=>simp only[VR,Rd]at h;obtain⟨rfl,_⟩:=h;exact⟨_,rfl,rfl⟩
 |_=>simp only[VR,Rd]at h;subst h;exact⟨_,rfl,rfl⟩
theorem a5H{c:Cx}{A:AV}{cs:List Value}(h:VR c A cs):(mkV A cs).cells.toList=cs:=by
 cases hA:uz A with
 |true=>cases A <;> simp[uz]at hA;simp[mkV,Value.cells]
 | false =>
   obtain⟨v,rfl,hv⟩:=Aq h hA;have:mkV A [v]=v:=by cases A <;> simp[uz]at hA <;> rfl
   rw[this,hv]
theorem a3u{c:Cx}{A:AV}{cs:List Value}(h:VR c A cs):VV c A (mkV A cs):=by
 refine⟨⟨λhA=>?_,λhA=>?_⟩,by rw[a5H h];exact h⟩;{cases A <;> simp[uz]at hA;exact⟨_,rfl⟩};obtain⟨v,rfl,hv⟩:=Aq h hA;have:mkV A [v]=v:=by cases A <;> simp[uz]at hA <;> rfl
 rw[this,hv]
theorem Gi{c:Cx}{A:AV}{v:Value}(h:VR c A [v])(hA:uz A=false):VV c A v:=by obtain⟨u,hu,hv⟩:=Aq h hA;obtain rfl:v=u:=(by simpa using hu);exact⟨⟨λh=>by simp[h]at hA,λ_=>hv⟩,by rw[hv];exact h⟩
theorem SX{c:Cx}{A:AV}{v:Value}(h:VV c A v)(hA:uz A=false):VR c A [v]:=by have:=h.2;rw[h.1.2 hA]at this;exact this
mutual
def FU:AV->Bool
 | .ptr _ _ _ | .ms _ _ _ _ _ | .mp _ | .gs _ _ | .bm _ _ | .uf _ | .und=>false
 | .fn _ cap=>OB cap
 | .ag l=>OB l
 | .uV _ x=>FU x
 |_=>true
def OB:List AV->Bool
 | []=>true
 |x::l=>match FU x with|true=>OB l|false=>false
end
mutual
def strip:AV->AV
 | .sl sz l _=>.sl sz l .no
 | .ag l=>.ag (stripL l)
 | .uV t x=>.uV t (strip x)
 | .fn f cap=>.fn f (stripL cap)
 |A=>A
def stripL:List AV->List AV
 | []=>[]
 |x::l=>strip x::stripL l
end
theorem a3Y(A:AV):uz (strip A)=uz A:=by cases A <;> rfl
theorem PN{A:AV}{v:Value}(h:wE A v):wE (strip A) v:=by unfold wE at *;rw[a3Y];exact h
mutual
theorem Ho{c:Cx}:∀(A:AV) (cs:List Value),FU A=true->VR c A cs->Rd c.w c.Im (strip A) cs
 | .bool _,_,_,hr=>by simpa only[VR,strip]using hr
 | .tt,_,_,hr=>by simpa only[VR,strip]using hr
 | .ff,_,_,hr=>by simpa only[VR,strip]using hr
 | .dec _,_,_,hr=>by simpa only[VR,strip]using hr
 | .int _ _,_,_,hr=>by simpa only[VR,strip]using hr
 | .str _,_,_,hr=>by simpa only[VR,strip]using hr
 | .vJ,_,_,hr=>by simpa only[VR,strip]using hr
 | .uV t x,cs,hp,hr=>by simp only[VR]at hr;obtain⟨v,rfl,h2,h3⟩:=hr;simp only[strip,Rd];exact⟨v,rfl,PN h2,Ho x _ hp h3⟩
 | .qW,_,_,hr=>by simpa only[VR,strip]using hr
 | .sl sz l .no,cs,_,hr=>by simpa only[VR,strip]using hr
 | .sl sz l .full,cs,_,hr=>by simp only[VR]at hr;simpa only[strip]using hr.1
 | .sl sz l (.own _),cs,_,hr=>by simp only[VR]at hr;simpa only[strip]using hr.2.1
 | .ms _ _ _ _ _,_,hp,_=>by simp[FU]at hp
 | .ag l,cs,hp,hr=>by simp only[VR]at hr;simp only[strip,Rd];exact a0O l cs hp hr
 | .uf _,_,hp,_=>by simp[FU]at hp
 | .ptr _ _ _,_,hp,_=>by simp[FU]at hp
 | .cp x,cs,_,hr=>by simpa only[VR,strip]using hr
 | .vW,_,_,hr=>by simpa only[VR,strip]using hr
 | .fn f cap,cs,hp,hr=>by simp only[VR]at hr;obtain⟨vs,h1,h2⟩:=hr;simp only[strip,Rd];exact⟨vs,h1,a0R cap vs hp h2⟩
 | .ru,_,_,hr=>by simpa only[VR,strip]using hr
 | .mp _,_,hp,_=>by simp[FU]at hp
 | .gs _ _,_,hp,_=>by simp[FU]at hp
 | .bm _ _,_,hp,_=>by simp[FU]at hp
 | .zq,_,_,hr=>by simpa only[VR,strip]using hr
 | .und,_,hp,_=>by simp[FU]at hp
theorem a0O{c:Cx}:∀(l:List AV) (cs:List Value),OB l=true->Ea c l cs->DX c.w c.Im (stripL l) cs
 | [],_,_,hr=>by simpa only[Ea,stripL,DX]using hr
 | x::l,cs,hp,hr=>by
   simp only[Ea]at hr;obtain⟨a,d,h1,h2,h3⟩:=hr;simp only[stripL,DX];simp only[OB]at hp;cases hx:FU x with
   |false=>simp[hx]at hp
   |true=>rw[hx]at hp;exact⟨a,d,h1,Ho x _ hx h2,a0O l _ hp h3⟩
theorem a0R{c:Cx}:∀(l:List AV) (vs:List Value),OB l=true->VA c l vs->RdA c.w c.Im (stripL l) vs
 | [],_,_,hr=>by simpa only[VA,stripL,RdA]using hr
 | x::l,vs,hp,hr=>by
   simp only[VA]at hr;obtain⟨v,r,h1,h2,h3,h4⟩:=hr;simp only[stripL,RdA];simp only[OB]at hp;cases hx:FU x with
   |false=>simp[hx]at hp
   |true=>rw[hx]at hp;exact⟨v,r,h1,PN h2,Ho x _ hx h3,a0R l _ hp h4⟩
end
mutual
theorem yL{c:Cx}:∀(A:AV) (cs:List Value),Rd c.w c.Im A cs->VR c A cs
 | .bool _,_,hr=>by simpa only[VR]using hr
 | .tt,_,hr=>by simpa only[VR]using hr
 | .ff,_,hr=>by simpa only[VR]using hr
 | .dec _,_,hr=>by simpa only[VR]using hr
 | .int _ _,_,hr=>by simpa only[VR]using hr
 | .str _,_,hr=>by simpa only[VR]using hr
 | .vJ,_,hr=>by simpa only[VR]using hr
 | .uV t x,cs,hr=>by simp only[Rd]at hr;obtain⟨v,h1,h2,h3⟩:=hr;simp only[VR];exact⟨v,h1,h2,yL x _ h3⟩
 | .qW,_,hr=>by simpa only[VR]using hr
 | .sl sz l .no,cs,hr=>by simpa only[VR]using hr
 | .sl sz l .full,cs,hr=>by simp only[Rd]at hr
 | .sl sz l (.own _),cs,hr=>by simp only[Rd]at hr
 | .ms _ _ _ _ _,_,hr=>by simp only[Rd]at hr
 | .ag l,cs,hr=>by simp only[Rd]at hr;simp only[VR];exact Yh l cs hr
 | .uf _,_,hr=>by simp only[Rd]at hr
 | .ptr _ _ _,_,hr=>by simp only[Rd]at hr
 | .cp x,cs,hr=>by simpa only[VR]using hr
 | .vW,_,hr=>by simpa only[VR]using hr
 | .fn f cap,cs,hr=>by simp only[Rd]at hr;obtain⟨vs,h1,h2⟩:=hr;simp only[VR];exact⟨vs,h1,a0M cap vs h2⟩
 | .ru,_,hr=>by simpa only[VR]using hr
 | .gs _ _,_,hr=>by simp only[Rd]at hr
 | .bm _ _,_,hr=>by simp only[Rd]at hr
 | .mp _,_,hr=>by simp only[Rd]at hr
 | .zq,_,hr=>by simpa only[VR]using hr
 | .und,_,hr=>by simp only[Rd]at hr
theorem Yh{c:Cx}:∀(l:List AV) (cs:List Value),DX c.w c.Im l cs->Ea c l cs
 | [],_,hr=>by simpa only[Ea,DX]using hr
 |x::l,cs,hr=>by simp only[DX]at hr;obtain⟨a,d,h1,h2,h3⟩:=hr;simp only[Ea];exact⟨a,d,h1,yL x _ h2,Yh l _ h3⟩
theorem a0M{c:Cx}:∀(l:List AV) (vs:List Value),RdA c.w c.Im l vs->VA c l vs
 | [],_,hr=>by simpa only[VA,RdA]using hr
 |x::l,vs,hr=>by simp only[RdA]at hr;obtain⟨v,r,h1,h2,h3,h4⟩:=hr;simp only[VA];exact⟨v,r,h1,h2,yL x _ h3,a0M l _ h4⟩
end
theorem b0k{c:Cx}{A:AV}{v:Value}(hs:wE A v)(h:Rd c.w c.Im A v.cells.toList):VV c A v:=⟨hs,yL _ _ h⟩
theorem a8a{w:World}{Im:Nat->Nat->Prop}{sz b:Nat}:∀{l:List AV} {off i:Nat} {x:AV},IV w Im sz b l off->l[i]? = some x ->
  ∃cs,cs.length=sz/\AO w Im b (off+i*sz) cs/\Rd w Im x cs
 | [],_,_,_,_,h=>by simp at h
 | y::l,off,0,x,hr,h=>by
   simp only[IV]at hr;obtain rfl:y=x:=by simpa using h
   simpa using hr.1
 | y::l,off,i+1,x,hr,h=>by
   simp only[IV]at hr;obtain⟨cs,h1,h2,h3⟩:=a8a (i:=i) hr.2 (by simpa using h);refine⟨cs,h1,?_,h3⟩;have:off+(i+1)*sz=off+sz+i*sz:=by rw[dw];omega
   rw[this];exact h2
theorem Yv{w:World}{Im:Nat->Nat->Prop}{sz b:Nat}:∀{l m:List AV} {off:Nat},IV w Im sz b l off->IV w Im sz b m (off+l.length*sz) ->
  IV w Im sz b (l++m) off
 | [],m,off,_,h=>by simpa using h
 | x::l,m,off,h,hm=>by
   simp only[IV,eX]at h ⊢;refine⟨h.1,Yv h.2 ?_⟩;have:off+sz+l.length*sz=off+(x::l).length*sz:=by simp[dw];omega
   rw[this];exact hm
theorem a3A{w:World}{Im:Nat->Nat->Prop}{sz b:Nat}:∀{l:List AV} {off:Nat} (n:Nat),IV w Im sz b l off->n<=l.length->IV w Im sz b (l.drop n) (off+n*sz)
 |l,off,0,h,_=>by simpa using h
 | [],off,n+1,_,hn=>by simp at hn
 | x::l,off,n+1,h,hn=>by
   simp only[IV]at h;have:=a3A (l:=l) (off:=off+sz) n h.2 (by simpa using hn);have e:off+(n+1)*sz=off+sz+n*sz:=by rw[dw];omega
   rw[e];exact this
theorem Yt{w:World}{Im:Nat->Nat->Prop}{sz b:Nat}:∀{l:List AV} {off:Nat} (n:Nat),IV w Im sz b l off->IV w Im sz b (l.take n) off
 |l,off,0,h=>by simp[IV]
 | [],off,n+1,h=>by simp[IV]
 |x::l,off,n+1,h=>by simp only[IV]at h;simp only[jo,IV];exact⟨h.1,Yt n h.2⟩
end Go.AL
namespace Go.AL
abbrev Env:=List (Nat×AV)
inductive HO where
 |box (A:AV)
 |arr (sz cap:Nat) (l:List AV)
 |tok (sz top:Nat)
 |tN (sh:AV) (es:List (AV×AV))
 |uD (sz:Nat) (l:List AV)
 |glob (g:Nat) (cs:List Value)
 |gone
 deriving Inhabited
abbrev Heap:=List (Nat×HO)
def Og:Env->Nat->(AV->Prop)->Prop
 | [],_,_=>False
 |(i,A)::e,t,k=>match Nat.beq i t with|true=>k A|false=>Og e t k
def uY:Env->Nat->Option AV
 | [],_=>none
 |(i,A)::e,t=>match Nat.beq i t with|true=>some A|false=>uY e t
theorem yB{k:AV->Prop}:∀{e:Env} {t:Nat},Og e t k↔∃A,uY e t=some A/\k A
 | [],t=>by simp[Og,uY]
 | (i,A)::e,t=>by
   simp only[Og,uY];cases Nat.beq i t with
   |true=>simp
   |false=>exact yB
def yh:Heap->Nat->(HO->Prop)->Prop
 | [],_,_=>False
 |(i,o)::H,n,k=>match Nat.beq i n with|true=>k o|false=>yh H n k
def hget:Heap->Nat->Option HO
 | [],_=>none
 |(i,o)::H,n=>match Nat.beq i n with|true=>some o|false=>hget H n
theorem uh{k:HO->Prop}:∀{H:Heap} {n:Nat},yh H n k↔∃o,hget H n=some o/\k o
 | [],n=>by simp[yh,hget]
 | (i,o)::H,n=>by
   simp only[yh,hget];cases Nat.beq i n with
   |true=>simp
   |false=>exact uh
def GX:Heap->Nat->HO->(Heap->Prop)->Prop
 | [],_,_,_=>False
 |(i,o)::H,n,o',k=>match Nat.beq i n with|true=>k ((i,o')::H)|false=>GX H n o' λH'=>k ((i,o)::H')
def hset:Heap->Nat->HO->Heap
 | [],_,_=>[]
 |(i,o)::H,n,o'=>match Nat.beq i n with|true=>(i,o')::H|false=>(i,o)::hset H n o'
theorem yx:∀{H:Heap} {n:Nat} {o':HO} {k:Heap->Prop},GX H n o' k↔(∃o,hget H n=some o)/\k (hset H n o')
 | [],n,o',k=>by simp[GX,hget]
 | (i,o)::H,n,o',k=>by
   simp only[GX,hget,hset];cases Nat.beq i n with
   |true=>simp
   |false=>exact yx
def nextId:Heap->Nat
 | []=>0
 |(i,_)::_=>i+1
def a5b(n:Nat)(k:Nat->Prop):Prop :=
 match n with
 | 0=>k 1|1=>k 2|2=>k 3|3=>k 4|4=>k 5|5=>k 6|6=>k 7|7=>k 8|8=>k 9|9=>k 10
 | 10=>k 11|11=>k 12|12=>k 13|13=>k 14|14=>k 15|15=>k 16|16=>k 17|17=>k 18|18=>k 19|19=>k 20
 |n+20=>k (n+21)
theorem Y9{n:Nat}{k:Nat->Prop}:a5b n k↔k (n+1):=by unfold a5b;split <;> exact jr
def Gz(H:Heap)(o:HO)(k:Nat->Heap->Prop):Prop :=
 match H with
 | []=>k 0 [(0,o)]
 |(i,x)::H=>a5b i λj=>k j ((j,o)::(i,x)::H)
theorem wz{H:Heap}{o:HO}{k:Nat->Heap->Prop}:Gz H o k↔k (nextId H) ((nextId H,o)::H):=by
 cases H with
 |nil=>exact jr
 |cons x H=>obtain⟨i,x⟩:=x;simp only[Gz,Y9,nextId]
def ug(H:Heap)(k:Nat):Option Nat:=match hget H k with|some (.tok _ n)=>some n|some (.uD _ l)=>some l.length|_=>none
def Pq(c:Cx)(sz:Nat):List AV->List Value->Prop
 | [],_=>True
 |x::l,cs=>∃a d,cs=a++d/\a.length=sz/\Rd c.w c.Im x a/\Pq c sz l d
def Py(c:Cx):List (AV×AV)->List MapEntry->Prop
 | [],es=>es=[]
 |(x,y)::l,es=>∃e r,es=e::r/\VV c x e.key/\VV c y e.val/\Py c l r
def Ht:IntKind->IntKind->Bool
 | .i8,.i8 | .i16,.i16 | .i32,.i32 | .i64,.i64 | .u8,.u8 | .u16,.u16 | .u32,.u32 | .u64,.u64=>true
 |_,_=>false
theorem xY{a b:IntKind}(h:Ht a b=true):a=b:=by cases a <;> cases b <;> first|rfl|simp[Ht]at h
mutual
def qR:AV->AV->Bool
 | .int k _,.int k' _=>Ht k k'
 | .str _,.str _=>true
 | .ag l,.ag m=>uy l m
 |_,_=>false
def uy:List AV->List AV->Bool
 | [],[]=>true
 |x::l,y::m=>qR x y&&uy l m
 |_,_=>false
end
def KSh(sh:AV):List (AV×AV)->Prop
 | []=>True
 |(x,_)::l=>qR sh x=true/\KSh sh l
def HO.Ok(c:Cx)(k:Nat):HO->Prop
 | .box A=>∃cs ty,c.w.heap[c.ρ k]? = some (.cells cs.toArray ty)/\VR c A cs/\∀o,¬c.Im (c.ρ k) o
 | .arr sz cap l=>∃cs ty,c.w.heap[c.ρ k]? = some (.cells cs.toArray ty)/\cs.length=cap*sz/\l.length<=cap/\cap<=maxL/\Pq c sz l cs/\∀o,¬c.Im (c.ρ k) o
 | .tok sz top=>(c.tk k).2=top\/∃b cs ty,(c.tk k).1=some ⟨b,0,none⟩/\c.w.heap[b]? = some (.cells cs ty)/\cs.size=(c.tk k).2*sz /\
   top<=(c.tk k).2/\(c.tk k).2<=maxL/\∀o,top*sz<=o->¬c.Im b o
 | .tN sh es=>∃ents clock,c.w.heap[c.ρ k]? = some (.map ents clock)/\Py c es ents.toList/\KSh sh es/\((∀e∈ents.toList,e.born<clock)/\(ents.toList.map (·.born)).Nodup)/\ents.toList.Pairwise λa b=>a.key≠b.key
 | .uD sz l=>((c.tk k).1=none/\(c.tk k).2=0/\l=[])\/∃b cs ty,(c.tk k).1=some ⟨b,0,none⟩/\c.w.heap[b]? = some (.cells cs.toArray ty)/\cs.length=(c.tk k).2*sz /\
   l.length<=(c.tk k).2/\(c.tk k).2<=maxL/\Pq c sz l cs/\∀o,¬c.Im b o
 | .glob g cs=>∀(j:Nat) (v:Value),cs[j]? = some v->c.Im g j/\c.w.cell? ⟨g,j,none⟩=some v
 | .gone=>True
def qZ(c:Cx)(x:Nat×HO):Option Nat :=
 match x.2 with
 | .tok _ top=>if(c.tk x.1).2=top then none else(c.tk x.1).1.map (·.block)
 | .uD _ _=>(c.tk x.1).1.map (·.block)
 | .glob _ _=>none
 | .gone=>none
 |_=>some (c.ρ x.1)
def uQ:Heap->Prop
 | []=>True
 |(i,_)::H=>(∀x∈H,x.1<i)/\uQ H
structure HR(c:Cx)(H:Heap):Prop where
 nx:c.nx=nextId H
 tp:c.tp=ug H
 ids:uQ H
 im:∀b o,c.Im b o->b<c.w.heap.size
 ok:∀x∈H,x.2.Ok c x.1
 apart:H.Pairwise λx y=>∀b:Nat,qZ c x=some b->qZ c y≠some b
structure Tr(c:Cx)(H:Heap)(d:Cx)(H':Heap):Prop where
 hr:HR d H'
 le:c.Le d
 os:d.w.os=c.w.os
 tape:d.w.tape=c.w.tape
 output:d.w.output=c.w.output
 size:c.w.heap.size<=d.w.heap.size
 fr:∀b,b<c.w.heap.size->(∀x∈H,qZ c x≠some b)->d.w.heap[b]? = c.w.heap[b]?
 own:∀y∈H',∀b,qZ d y=some b->c.w.heap.size<=b\/∃x∈H,qZ c x=some b
 imb:∀b o,d.Im b o->c.Im b o\/c.w.heap.size<=b\/∃x∈H,qZ c x=some b
theorem Cx.Le.refl(c:Cx):c.Le c:=⟨λ_ _ h=>⟨h,rfl⟩,aS _,λ_ _=>rfl,λ_ _ _ h=>.inl ⟨h,rfl⟩⟩
theorem Cx.Le.trans{a b c:Cx}(h:a.Le b)(g:b.Le c):a.Le c:=by refine⟨λx o hx=>?_,dH h.nx g.nx,λk hk=>?_,λk n hk hn=>?_⟩;{have h1:=h.im x o hx;have h2:=g.im x o h1.1;exact⟨h2.1,h2.2.trans h1.2⟩};{exact(g.ρ k (fV hk h.nx)).trans (h.ρ k hk)};rcases g.tk k n (fV hk h.nx) hn with⟨h1,h2⟩|⟨m,h1,h2⟩;{rcases h.tk k n hk h1 with⟨h3,h4⟩|h3;{exact .inl ⟨h3,h2.trans h4⟩};exact .inr h3};rcases h.tk k m hk h1 with⟨h3,h4⟩|⟨m',h3,h4⟩;{exact .inr ⟨m,h3,h2⟩};exact .inr ⟨m',h3,aj⟩
theorem Tr.refl{c:Cx}{H:Heap}(h:HR c H):Tr c H c H :=
 ⟨h,.refl c,rfl,rfl,rfl,aS _,λ_ _ _=>rfl,λy hy _ hb=>.inr ⟨y,hy,hb⟩,λ_ _ h=>.inl h⟩
theorem Tr.trans{a b c:Cx}{H H' QZ:Heap}(h:Tr a H b H')(g:Tr b H' c QZ):Tr a H c QZ:=by refine⟨g.hr,h.le.trans g.le,g.os.trans h.os,g.tape.trans h.tape,g.output.trans h.output,dH h.size g.size,λx hx hn=>?_,λy hy x hx=>?_,λx o hx=>?_⟩;{rw[g.fr x (fV hx h.size) ?_,h.fr x hx hn];intro y hy hb;rcases h.own y hy x hb with h1|⟨z,h1,h2⟩;{omega};exact hn z h1 h2};{rcases g.own y hy x hx with h1|⟨z,h1,h2⟩;{exact .inl (dH h.size h1)};exact h.own z h1 x h2};rcases g.imb x o hx with h1|h1|⟨z,h1,h2⟩;{exact h.imb x o h1};{exact .inr (.inl (dH h.size h1))};exact .inr (h.own z h1 x h2)
theorem xw{i n:Nat}(h:Nat.beq i n=false):i≠n:=by intro e;subst e;simp at h
theorem wS:∀{H:Heap} {n:Nat} {o:HO},hget H n=some o->(n,o)∈H
 | [],_,_,h=>by simp[hget]at h
 | (i,x)::H,n,o,h=>by
   simp only[hget]at h;cases hb:Nat.beq i n with
   |true =>rw[hb]at h;obtain rfl:=aK hb;simp at h;subst h;simp
   |false=>rw[hb]at h;exact dh _ (wS h)
theorem EN:∀{H:Heap} {n:Nat} {o:HO},uQ H->(n,o)∈H->hget H n=some o
 | [],_,_,_,h=>by simp at h
 | (i,x)::H,n,o,hi,h=>by
   simp only[uQ]at hi;simp only[hget];rcases aT.1 h with h|h;{simp at h;obtain⟨rfl,rfl⟩:=h;simp};have:=hi.1 _ h;have hb:Nat.beq i n=false:=by
    cases hb:Nat.beq i n with
    |false=>rfl
    |true=>have:=aK hb;simp at *;omega
   rw[hb];exact EN hi.2 h
theorem sG:∀{H:Heap},uQ H->∀x∈H,x.1<nextId H
 | [],_,x,h=>by simp at h
 |(i,y)::H,hi,x,h=>by simp only[uQ]at hi;simp only[nextId];rcases aT.1 h with h|h;{subst h;exact ou _};have:=hi.1 _ h;omega
theorem HR.lt{c:Cx}{H:Heap}(h:HR c H){k:Nat}{o:HO}(hk:hget H k=some o):k<c.nx:=by rw[h.nx];exact sG h.ids _ (wS hk)
theorem HR.EL{c:Cx}{H:Heap}(h:HR c H){k:Nat}{o:HO}(hk:hget H k=some o):o.Ok c k:=h.ok _ (wS hk)
end Go.AL
namespace Go.AL
inductive TD where
 |rG|bool|int (k:IntKind)|str|slice (e:Nat)|struct (fs:List (Nat×Nat×Nat))|arr (n e:Nat)|map (k e:Nat)|iface|ptr (e:Nat)|other
 deriving Inhabited
structure TI where
 desc:TD
 bytes:Nat
 zero:AV
 key:Option AV:=none
 cmp:Bool:=false
 deriving Inhabited
inductive Lay where
 |nil
 |node (l:Lay) (t:Nat) (i:TI) (r:Lay)
def Lay.sO:Lay->Nat->(TI->Prop)->Prop
 | .nil,_,_=>False
 | .node l t i r,n,k=>match Nat.beq n t with
   |true=>k i
   | false=>match Nat.ble n t with
     |true=>l.sO n k
     |false=>r.sO n k
def descOf(P:Program):TypeDesc->TD
 | .bool=>.bool
 | .int k=>.int k
 | .string=>.str
 | .slice e=>.slice e
 | .struct fs=>.struct (fs.toList.map λf=>(f.offset,P.cellsOf f.type,f.type))
 | .array n e=>.arr n e
 | .map k e=>.map k e
 | .interface _=>.iface
 | .pointer e=>.ptr e
 | .func ..=>.rG
 |_=>.other
def b0I:TD->Bool
 | .struct _ | .arr _ _=>true
 |_=>false
def KZ(n:Nat):List AV->List (Nat×Nat)
 | []=>[]
 |x::l=>(n,flat x)::KZ (n+flat x) l
structure b0p(P:Program)(k:Nat)(sh:AV):Prop where
 law:Go.Maps.Keyed P k
 rd:∀w Im A v,qR sh A=true->wE A v->Rd w Im A v.cells.toList->∃l,keyOf P k v=some l
def Aw:AV->AV->Bool
 | .int k _,.int k' _=>Ht k k'
 | .str _,.str _=>true
 | .ff,.tt | .ff,.ff | .ff,.bool _ | .ff,.dec _=>true
 |_,_=>false
def yF:List AV->List AV->Bool
 | [],[]=>true
 |x::l,y::m=>match Aw x y with|true=>yF l m|false=>false
 |_,_=>false
def isT:AV->Prop
 | .tt=>True
 | .bool b=>b=true
 | .dec p=>p
 |_=>False
def eqP:AV->AV->Prop
 | .int _ a,.int _ b=>a=b
 | .str a,.str b=>a=b
 |A,B=>(isT A↔isT B)
def YO:List AV->List AV->Prop
 | [],[]=>True
 |x::l,y::m=>eqP x y/\YO l m
 |_,_=>False
structure b7n(P:Program)(t:Nat)(zs:List AV):Prop where
 run:∀w Im l m cs ds,yF zs l=true->yF zs m=true->DX w Im l cs.toList->DX w Im m ds.toList->∃r,(Op.equal t (.agg cs) (.agg ds)).run P w=.ok r w/\(r=true↔cs=ds)
 grd:P.eqGuardType P.depth t=false
structure Gj(P:Program)(t:Nat)(i:TI):Prop where
 b7Z:i.cmp=true->∀zs,i.zero=.ag zs->b7n P t zs
 keyed:∀k e sh,i.desc=.map k e->i.key=some sh->b0p P k sh
 info:∃x v,P.info? t=some x/\x.size=flat i.zero/\x.bytes=i.bytes/\x.zero=some v/\wE i.zero v/\∀w Im,Rd w Im i.zero v.cells.toList
 desc:(P.underlying t).map (descOf P)=some i.desc
 agg:b0I i.desc=uz i.zero
 b7e:∀fs,i.desc=.struct fs->∃zs,i.zero=.ag zs/\fs.map (λf=>(f.1,f.2.1))=KZ 0 zs
 inf:∀fs,i.desc=.struct fs->∀f∈fs,∃x,P.info? f.2.2=some x
def uo(P:Program):Lay->Prop
 | .nil=>True
 | .node l t i r=>Gj P t i/\uo P l/\uo P r
theorem Lay.rY{P:Program}{k:TI->Prop}:∀{L:Lay} {t:Nat},uo P L->L.sO t k->∃i,Gj P t i/\k i
 | .nil,_,_,h=>h.elim
 | .node l t' i r,t,hL,h=>by
   simp only[Lay.sO]at h;cases hb:Nat.beq t t' with
   |true=>rw[hb]at h;obtain rfl:=aK hb;exact⟨i,hL.1,h⟩
   | false =>
     rw[hb]at h;cases hc:Nat.ble t t' with
     |true=>rw[hc]at h;exact Lay.rY hL.2.1 h
     |false=>rw[hc]at h;exact Lay.rY hL.2.2 h
def XA(v:Value)(k:AV->Prop):Prop :=
 match v with
 | .bool true=>k .tt
 | .bool false=>k .ff
 | .int kd n=>k (.int kd n)
 | .string s=>k (.str s.data.toList)
 | .slice none 0 0=>k .qW
 | .nilIface=>k .vJ
 | .pointer none=>k .vW
 | .map none=>k .zq
 | .nilFunc=>k .ru
 |_=>False
def uj(e:Env)(x:Operand)(k:AV->Prop):Prop :=
 match x with
 | .tmp t=>Og e t k
 | .const v=>XA v k
 | .func f=>k (.fn f [])
 | .global _=>False
def FI(e:Env):List Operand->(List AV->Prop)->Prop
 | [],k=>k []
 |x::l,k=>uj e x λA=>FI e l λAs=>k (A::As)
def Hr{α:Type}:List α->Nat->(α->Prop)->Prop
 | [],_,_=>False
 |x::_,0,k=>k x
 |_::l,n+1,k=>Hr l n k
def Aa:List AV->Nat->AV->(List AV->Prop)->Prop
 | [],_,_,_=>False
 |_::l,0,y,k=>k (y::l)
 |x::l,n+1,y,k=>Aa l n y λl'=>k (x::l')
def Zc:List Nat->Nat->(List Nat->Prop)->Prop
 | [],x,k=>k [x]
 |y::l,x,k=>Zc l x λl'=>k (y::l')
def YX:List AV->List AV->(List AV->Prop)->Prop
 | [],m,k=>k m
 |x::l,m,k=>YX l m λl'=>k (x::l')
def Kz:AV->List Nat->(AV->Prop)->Prop
 |A,[],k=>k A
 | .ag l,i::p,k=>Hr l i λx=>Kz x p k
 |_,_::_,_=>False
def IZ:AV->List Nat->AV->(AV->Prop)->Prop
 |_,[],y,k=>k y
 | .ag l,i::p,y,k=>Hr l i λx=>IZ x p y λx'=>Aa l i x' λl'=>k (.ag l')
 |_,_::_,_,_=>False
def Wn:AV->List Nat->Nat
 | .ag l,i::p=>yY (l.take i)+(match l[i]? with|some x=>Wn x p|none=>0)
 |_,_=>0
def isVal:AV->Bool
 | .uf _ | .und=>false
 |_=>true
def Vw(A:AV)(k:Prop):Prop:=match isVal A with|true=>k|false=>False
def Ti:List AV->Prop->Prop
 | [],k=>k
 |A::l,k=>Vw A (Ti l k)
def O1 (L:Lay) (t:Nat) (x:AV) (k:Prop):Prop :=
 Vw x <| L.sO t λi=>match Nat.beq (flat x) (flat i.zero)with
  |false=>False
  | true=>match uz x,uz i.zero with
    |true,true=>k
    |false,false=>k
    |_,_=>False
def BM(a b:Nat)(k:Prop):Prop:=match Nat.beq a b with|true=>k|false=>False
def SG(a b:Nat)(k:Prop):Prop:=match Nat.ble a b with|true=>k|false=>False
def br(A:AV)(kt kf:Prop):Prop :=
 match A with
 | .tt=>kt
 | .ff=>kf
 | .bool b=>(b=true->kt)/\(b=false->kf)
 | .dec p=>(p->kt)/\(¬p->kf)
 |_=>False
def arith(kd:IntKind)(z:Int)(k:AV->Prop):Prop :=
 match kd with
 | .i64=>KF .i64 z/\k (.int .i64 z)
 |kd=>k (.int kd (kd.wrap z))
def Am(op:BinOp)(k:IntKind)(x y:Int):Int :=
 match op with
 | .and=>k.wrap (BitVec.ofInt k.bits x&&&BitVec.ofInt k.bits y).toNat
 | .or=>k.wrap (BitVec.ofInt k.bits x|||BitVec.ofInt k.bits y).toNat
 | .xor=>k.wrap (BitVec.ofInt k.bits x ^^^ BitVec.ofInt k.bits y).toNat
 |_=>k.wrap (BitVec.ofInt k.bits x &&& ~~~ (BitVec.ofInt k.bits y)).toNat
def VN(k:IntKind)(x y:Int):Int:=k.wrap (x*2^min y.toNat k.bits)
def KG(k:IntKind)(x y:Int):Int:=x.fdiv (2^min y.toNat k.bits)
def KI:AV->(AV->Prop)->Prop
 | .tt,k=>k .ff
 | .ff,k=>k .tt
 | .bool b,k=>k (.bool (!b))
 | .dec p,k=>k (.dec (¬p))
 |_,_=>False
def XY(x:AV)(k:AV->Prop):Prop :=
 match x with
 | .tt=>k .tt | .ff=>k .ff | .bool b=>k (.bool b) | .dec p=>k (.dec p)|_=>False
def eqB(A B:AV)(k:AV->Prop):Prop :=
 match A,B with
 | .tt,x=>XY x k
 |x,.tt=>XY x k
 | .ff,x=>KI x k
 |x,.ff=>KI x k
 | .bool a,.bool b=>k (.dec (a=b))
 | .dec p,.dec q=>k (.dec (p↔q))
 | .dec p,.bool b=>k (.dec (p↔b=true))
 | .bool b,.dec p=>k (.dec (b=true↔p))
 |_,_=>False
def TJ(A B:AV)(k:AV->Prop):Prop :=
 match A,B with
 | .vJ,.vJ=>k .tt
 | .vJ,.uV _ _=>k .ff
 | .uV _ _,.vJ=>k .ff
 |_,_=>False
def La(A B:AV)(k:AV->Prop):Prop :=
 match A,B with
 | .vW,.vW=>k .tt
 | .cp _,.vW=>k .ff
 | .ptr _ _ _,.vW=>k .ff
 |_,_=>False
def b5s(d:TD)(op:BinOp)(hc:Bool)(A B:AV)(k:AV->Prop):Prop :=
 match d,op with
 | .bool,.eql=>eqB A B k
 | .bool,.neq=>eqB A B λR=>KI R k
 | .iface,.eql=>(match hc with|true=>TJ A B k|false=>False)
 | .iface,.neq=>(match hc with|true=>TJ A B λR=>KI R k|false=>False)
 | .ptr _,.eql=>La A B k
 | .ptr _,.neq=>La A B λR=>KI R k
 |_,_=>False
def SV (d:TD) (op:BinOp) (hc:Bool) (A B:AV) (k:AV->Prop):Prop :=
 match A,B with
 | .int ka a,.int kb b =>
   (match op with
   | .shl=>0<=b/\k (.int ka (VN ka a b))
   | .shr=>0<=b/\k (.int ka (KG ka a b))
   | op=>match Ht ka kb with
     |false=>False
     | true=>match op with
       | .add=>arith ka (a+b) k
       | .sub=>arith ka (a-b) k
       | .mul=>arith ka (a*b) k
       | .quo=>b≠0/\arith ka (a.tdiv b) k
       | .rem=>b≠0/\k (.int ka (a.tmod b))
       | .eql=>k (.dec (a=b))
       | .neq=>k (.dec (a≠b))
       | .lss=>k (.dec (a<b))
       | .leq=>k (.dec (a<=b))
       | .gtr=>k (.dec (b<a))
       | .geq=>k (.dec (b<=a))
       |op=>k (.int ka (Am op ka a b)))
 | .str a,.str b =>
   (match op with
   | .add=>a.length+b.length<=maxL/\k (.str (a++b))
   | .eql=>k (.dec (a=b))
   | .neq=>k (.dec (a≠b))
   | .lss=>k (.bool (Op.bytesLess a b))
   |_=>False)
 |A,B=>b5s d op hc A B k
def b08(i:TI)(op:BinOp)(A B:AV)(k:AV->Prop):Prop :=
 match i.cmp,i.zero,A,B with
 | true,.ag zs,.ag l,.ag m=>match yF zs l,yF zs m with
   | true,true=>(match op with
     | .eql=>k (.dec (YO l m))
     | .neq=>k (.dec (¬YO l m))
     |_=>False)
   |_,_=>False
 |_,_,_,_=>False
structure DZ{α:Type}(l:List α)(n:Int)(k:α->Prop):Prop where
 ex:∃x,(0<=n/\l[n.toNat]? = some x)/\k x
structure b1m{α:Type}(l:List α)(lo hi:Int)(k:List α->Prop):Prop where
 ex:(0<=lo/\lo<=hi/\hi<=(l.length:Int))/\k ((l.drop lo.toNat).take (hi.toNat-lo.toNat))
inductive YB(e n:Nat)(sz:Nat)(z:AV)(H:Heap)(k:AV->Heap->Prop):Prop where
 |pure (h:n=e/\k (.sl sz (List.replicate n z) .full) H)
 |wr (h:k (.ms (nextId H) 0 n e sz) ((nextId H,.arr sz e (List.replicate n z))::H))
def NW(A:AV)(k:AV->Prop):Prop:=match FU A with|true=>k (strip A)|false=>False
def Oy(H:Heap)(sz:Nat)(B:AV)(k:List AV->Prop):Prop :=
 match B with
 | .qW=>k []
 | .sl sz' m _=>BM sz' sz (k m)
 | .ms j off len _ sz'=>yh H j λo=>match o with
   | .arr b39 _ l=>BM sz' sz (BM b39 sz (off+len<=l.length/\k ((l.drop off).take len)))
   |_=>False
 | .str s=>BM sz 1 (k (s.map λb=>.int .u8 b.toNat))
 |_=>False
structure b3R(sz bytes:Nat)(l m:List AV)(k:Prop):Prop where
 len:l.length+m.length<=maxL
 room:(l.length+m.length)*bytes<=140737488355328
 next:k
inductive Ou(sz bytes:Nat)(l m:List AV)(H:Heap)(k:AV->Heap->Prop):Prop where
 |tok (len:l.length+m.length<=maxL) (room:(l.length+m.length)*bytes<=140737488355328) (next:Gz H (.tok sz (l.length+m.length)) λj H'=>k (.sl sz (l++m) (.own j)) H')
 |pure (len:l.length+m.length<=maxL) (room:(l.length+m.length)*bytes<=140737488355328) (next:k (.sl sz (l++m) .no) H)
inductive b3Q(sz bytes:Nat)(l m:List AV)(H:Heap)(k:AV->Heap->Prop):Prop where
 |tok (len:l.length+m.length<=maxL) (room:(l.length+m.length)*bytes<=140737488355328) (next:Gz H (.tok sz (l.length+m.length)) λj H'=>k (.sl sz (l++m) (.own j)) H')
 |pure (len:l.length+m.length<=maxL) (room:(l.length+m.length)*bytes<=140737488355328) (next:k (.sl sz (l++m) .no) H)
 | wr (ne:m≠[]) (len:l.length+m.length<=maxL) (room:(l.length+m.length)*bytes<=140737488355328)
   (next:∀cp,l.length+m.length<=cp->cp<=maxL->k (.ms (nextId H) 0 (l.length+m.length) cp sz) ((nextId H,.arr sz cp (l++m))::H))
mutual
def IC:AV->AV->Prop
 | .tt,.bool b=>b=true
 | .tt,.dec p=>p
 | .ff,.bool b=>b=false
 | .ff,.dec p=>¬p
 | .bool a,.bool b=>a=b
 | .bool a,.dec p=>(a=true↔p)
 | .bool a,.tt=>a=true
 | .bool a,.ff=>a=false
 | .dec p,.bool b=>(p↔b=true)
 | .dec p,.dec q=>(p↔q)
 | .dec p,.tt=>p
 | .dec p,.ff=>¬p
 | .int k a,.int k' b=>k=k'/\a=b
 | .str a,.str b=>a=b
 | .qW,.sl _ l .no=>l=[]
 | .sl s l .no,.sl s' l' .no=>s=s'/\sS l l'
 | .ag l,.ag m=>sS l m
 | .uV t x,.uV t' y=>t=t'/\IC x y
 |A,B=>A=B
def sS:List AV->List AV->Prop
 | [],[]=>True
 |x::l,y::m=>IC x y/\sS l m
 |_,_=>False
end
mutual
def le0:AV->AV->Prop
 | .tt,.bool b=>b=true
 | .tt,.dec p=>p
 | .ff,.bool b=>b=false
 | .ff,.dec p=>¬p
 | .bool a,.bool b=>a=b
 | .bool a,.dec p=>(a=true↔p)
 | .bool a,.tt=>a=true
 | .bool a,.ff=>a=false
 | .dec p,.bool b=>(p↔b=true)
 | .dec p,.dec q=>(p↔q)
 | .dec p,.tt=>p
 | .dec p,.ff=>¬p
 | .int k a,.int k' b=>k=k'/\a=b
 | .str a,.str b=>a=b
 | .qW,.sl _ l .no=>l=[]
 | .qW,.sl _ l .full=>l=[]
 | .sl s l _,.sl s' l' .no=>s=s'/\sS l l'
 | .sl s l .full,.sl s' l' .full=>s=s'/\sS l l'
 | .sl s l (.own k),.sl s' l' (.own k')=>s=s'/\sS l l'/\k=k'
 | .uV t x,.uV t' y=>t=t'/\le0 x y
 | .ag l,.ag m=>Ll l m
 |A,B=>A=B
def Ll:List AV->List AV->Prop
 | [],[]=>True
 |x::l,y::m=>le0 x y/\Ll l m
 |_,_=>False
end
def le(A B:AV):Prop:=match A,B with|_,.und=>True | .uf l,.uf m=>Ll l m|A,B=>le0 A B
mutual
def tq(n:Nat):AV->Bool
 | .ptr k _ _=>Nat.blt k n
 | .ms k _ _ _ _=>Nat.blt k n
 | .mp k=>Nat.blt k n
 | .gs k _=>Nat.blt k n
 | .bm _ k=>Nat.blt k n
 | .sl _ _ (.own k)=>Nat.blt k n
 | .fn _ cap=>vT n cap
 | .ag l=>vT n l
 | .uf l=>vT n l
 | .uV _ x=>tq n x
 |_=>true
def vT(n:Nat):List AV->Bool
 | []=>true
 |x::l=>match tq n x with|true=>vT n l|false=>false
end
structure FT where
 h:Nat->List AV->Heap->AV->Heap->Prop
 q:Nat->List AV->Heap->(AV->Heap->Prop)->Prop
 /-- b8j may wrap. -/
 w:Bool:=false
instance:CoeFun FT λ_=>Nat->List AV->Heap->AV->Heap->Prop:=⟨FT.h⟩
inductive Ir(F:FT)(vS:AV->Prop)(f:Nat)(args:List AV)(H:Heap)(k:AV->Heap->Prop):Prop where
 |gen (R:AV) (H':Heap) (h:F f args H R H') (h':vS R->k R H')
 |pure (Bs:List AV) (R:AV) (hle:Ll args Bs) (hb:vT 0 Bs=true/\tq 0 R=true) (h:F f Bs [] R []) (h':vS R->k R H)
inductive IQ(F:FT)(vS:AV->Prop)(f:Nat)(args:List AV)(H:Heap)(k:AV->Heap->Prop):Prop where
 |gen (R:AV) (H':Heap) (h:F f args H R H') (h':vS R->k R H')
 |pure (Bs:List AV) (R:AV) (hle:Ll args Bs) (hb:vT 0 Bs=true/\tq 0 R=true) (h:F f Bs [] R []) (h':vS R->k R H)
 |rel (Q:AV->Heap->Prop) (h:F.q f args H Q) (h':∀R H',Q R H'->vS R->k R H')
 |b7t (Bs:List AV) (Q:AV->Prop) (hle:Ll args Bs) (hb:vT 0 Bs=true) (h:F.q f Bs [] λR H'=>H'=[]/\tq 0 R=true/\Q R) (h':∀R,Q R->vS R->k R H)
def Ah:Operand->Bool
 | .const _=>true
 |_=>false
mutual
def Uw:AV->List Value
 | .int k n=>[.int k n]
 | .str s=>[.string ⟨s.toArray⟩]
 | .ag l=>b5H l
 |_=>[]
def b5H:List AV->List Value
 | []=>[]
 |x::l=>Uw x++b5H l
end
def a4D(es:List (AV×AV))(K:AV):Option AV->Prop
 |none=>∀x∈es,Uw x.1≠Uw K
 |some v=>∃x∈es,Uw x.1=Uw K/\x.2=v
structure FW(es:List (AV×AV))(K:AV)(k:Option AV->Prop):Prop where
 ex:∃r,a4D es K r/\k r
def b7k(es:List (AV×AV))(K V:AV)(es':List (AV×AV)):Prop :=
 ((∀x∈es,Uw x.1≠Uw K)/\es'=es++[(K,V)])\/∃j x,es[j]? = some x/\Uw x.1=Uw K/\es'=es.set j (K,V)
structure b1l(es:List (AV×AV))(K V:AV)(k:List (AV×AV)->Prop):Prop where
 ex:∃es',b7k es K V es'/\k es'
def Zu(b:Bool)(k:Prop):Prop:=match b with|true=>k|false=>False
def DI(ok:Bool)(z:AV)(r:Option AV)(k:AV->Prop):Prop :=
 match ok,r with
 |true,some v=>k (.uf [v,.tt])
 |true,none=>k (.uf [z,.ff])
 |false,some v=>k v
 |false,none=>k z
def b0f(z:AV)(s:Nat)(A:AV)(ok:Bool)(k:AV->Prop):Prop :=
 match A,ok with
 | .vJ,true=>k (.uf [z,.ff])
 | .uV t y,true=>(match Nat.beq t s with|true=>k (.uf [y,.tt])|false=>k (.uf [z,.ff]))
 | .uV t y,false=>(match Nat.beq t s with|true=>k y|false=>False)
 |_,_=>False
def b3Z(op:BinOp)(A:AV)(k:AV->Prop):Prop :=
 match op,A with
 | .eql,.qW=>k .tt
 | .neq,.qW=>k .ff
 | .eql,.ms _ _ _ _ _=>k .ff
 | .neq,.ms _ _ _ _ _=>k .tt
 | .eql,.sl _ l _=>∀b:Bool,(b=true->l=[])->k (.bool b)
 | .neq,.sl _ l _=>∀b:Bool,(b=false->l=[])->k (.bool b)
 |_,_=>False
def F5:Op->Bool
 | .binOp _ _ _ (.const (.slice none 0 0)) _=>true
 |_=>false
def noNil(op:Op)(k:Prop):Prop:=match F5 op with|true=>False|false=>k
def zk(e:Env):List (Nat×Operand)->List AV->(List AV->Prop)->Prop
 | [],zs,k=>k zs
 | (i,x)::ps,zs,k=>uj e x λA=>Vw A <| Hr zs i λz=>BM (flat A) (flat z) (match uz A,uz z with
   |true,true=>Aa zs i A λzs'=>zk e ps zs' k
   |false,false=>Aa zs i A λzs'=>zk e ps zs' k
   |_,_=>False)
def Ql:List AV->Bool
 | []=>true
 |x::l=>match Nat.beq (flat x) 1 with|true=>Ql l|false=>false
def zO(e:Env):List (Nat×Operand)->List AV->(List AV->Prop)->Prop
 | [],zs,k=>k zs
 | (i,x)::ps,zs,k=>uj e x λA=>Hr zs i λz=>BM (flat A) (flat z) (match uz A,uz z with
   |true,true=>NW A λB=>Aa zs i B λzs'=>zO e ps zs' k
   |false,false=>NW A λB=>Aa zs i B λzs'=>zO e ps zs' k
   |_,_=>False)
def a8w(z:AV):Nat->(List AV->Prop)->Prop
 | 0,k=>k []
 |n+1,k=>a8w z n λl=>k (z::l)
section
variable(F:FT)(vS:AV->Prop)(L:Lay)
def Ap(t:Nat)(A:AV)(H:Heap)(k:AV->Prop):Prop :=
 match A with
 | .cp x=>O1 L t x (k x)
 | .ptr i p off=>yh H i λo=>match o with
   | .box A=>Kz A p λx=>BM (Wn A p) off (O1 L t x (k x))
   | .arr sz _ l=>(match p with
     | [j]=>DZ l (j:Int) λx=>off=j*sz/\O1 L t x (k x)
     |j::q=>DZ l (j:Int) λx=>Kz x q λy=>off=j*sz+Wn x q/\O1 L t y (k y)
     |_=>False)
   |_=>False
 |_=>False
def X7(t:Nat)(A B:AV)(H:Heap)(k:Heap->Prop):Prop :=
 match A with
 | .ptr i p off=>yh H i λo=>match o with
   | .box A=>Kz A p λx=>BM (Wn A p) off (O1 L t B (BM (flat x) (flat B) (IZ A p B λA'=>GX H i (.box A') k)))
   | .arr sz cap l=>(match p with
     | [j]=>NW B λB'=>BM (flat B) sz (O1 L t B (j<l.length/\off=j*sz/\GX H i (.arr sz cap (l.set j B')) k))
     |j::q=>DZ l (j:Int) λx=>Kz x q λy=>off=j*sz+Wn x q/\O1 L t B (BM (flat y) (flat B) (IZ x q B λA'=>NW A' λA''=>GX H i (.arr sz cap (l.set j A'')) k))
     |_=>False)
   |_=>False
 |_=>False
def QU (t:Nat) (A K V:AV) (H:Heap) (ks:Heap->Prop):Prop :=
 L.sO t λi=>(match i.desc,i.key with
  | .map _ et,some sh=>Zu (qR sh K) <| O1 L et V <| (match A with
    | .mp j=>yh H j λo=>(match o with
      | .tN sh' es=>Zu (qR sh' sh) <| b1l es K V λes'=>GX H j (.tN sh' es') ks
      |_=>False)
    |_=>False)
  |_,_=>False)
def SN (t:Nat) (A:AV) (f:Nat) (k:AV->Prop):Prop :=
 L.sO t λi=>match i.desc,i.zero with
  | .struct _,.ag zs=>(match A with
    | .cp (.ag l)=>BM (yY (l.take f)) (yY (zs.take f)) (Hr zs f λz=>(match flat z with
      | 0=>False
      |_+1=>Hr l f λx=>k (.cp x)))
    | .ptr j p off=>Hr zs f λz=>(match flat z with
      | 0=>False
      |_+1=>Zc p f λp'=>k (.ptr j p' (off+yY (zs.take f))))
    |_=>False)
  |_,_=>False
def a1N (t:Nat) (A:AV) (f:Nat) (k:AV->Prop):Prop :=
 L.sO t λi=>match i.desc,i.zero,A with
  | .struct fs,.ag zs,.ag l=>Hr zs f λ_=>Hr fs f λfd=>L.sO fd.2.2 λj=>(match uz j.zero with
    |false=>BM (yY (l.take f)) (yY (zs.take f)) (Hr l f λy=>(match uz y with|false=>k y|true=>False))
    |true=>False)
  |_,_,_=>False
def Es(t:Nat)(A I:AV)(k:AV->Prop):Prop :=
 match I with
 | .int _ n=>L.sO t λi=>(match i.desc,A with
   | .slice e,.sl sz l _=>L.sO e λei=>BM sz (flat ei.zero) (DZ l n λx=>k (.cp x))
   | .slice e,.ms j off len _ sz=>L.sO e λei=>BM sz (flat ei.zero) ((0<=n/\n<(len:Int))/\k (.ptr j [off+n.toNat] ((off+n.toNat)*sz)))
   | .arr m e,.ptr j p off=>L.sO e λei=>(0<=n/\n<(m:Int))/\Zc p n.toNat λp'=>k (.ptr j p' (off+n.toNat*flat ei.zero))
   |_,_=>False)
 |_=>False
def SL(t:Nat)(A I:AV)(k:AV->Prop):Prop :=
 match A,I with
 | .str s,.int _ n=>L.sO t λi=>(match i.desc with
   | .str=>DZ s n λb=>k (.int .u8 b.toNat)
   |_=>False)
 |_,_=>False
def LX(e:Env)(x:Option Operand)(d:Int)(k:Int->Prop):Prop :=
 match x with
 |none=>k d
 |some x=>uj e x λA=>match A with | .int _ n=>k n|_=>False
def aslice (t:Nat) (e:Env) (A:AV) (lo hi:Option Operand) (k:AV->Prop):Prop :=
 L.sO t λi=>match i.desc,A with
  | .str,.str s=>LX e lo 0 λl=>LX e hi s.length λh=>b1m s l h λs'=>k (.str s')
  | .slice el,.sl sz l _=>L.sO el λei=>BM sz (flat ei.zero) (LX e lo 0 λa=>LX e hi l.length λb=>b1m l a b λl'=>k (.sl sz l' .no))
  | .slice el,.ms j off len cap sz=>L.sO el λei=>BM sz (flat ei.zero) (LX e lo 0 λa=>LX e hi len λb =>
    (0<=a/\a<=b/\b<=(len:Int))/\a<(cap:Int)/\k (.ms j (off+a.toNat) (b.toNat-a.toNat) (cap-a.toNat) sz))
  | .slice el,.qW=>L.sO el λ_=>LX e lo 0 λa=>LX e hi 0 λb=>(a=0/\b=0)/\k .qW
  |_,_=>False
def AP (t:Nat) (A B:AV) (H:Heap) (k:AV->Heap->Prop):Prop :=
 L.sO t λi=>match i.desc with
  | .slice e=>L.sO e λei=>(match A with
    | .qW=>Oy H (flat ei.zero) B λm=>Ou (flat ei.zero) ei.bytes [] m H k
    | .sl sz l .full=>BM sz (flat ei.zero) (Oy H sz B λm=>Ou sz ei.bytes l m H k)
    | .sl sz l (.own j)=>BM sz (flat ei.zero) (Oy H sz B λm=>yh H j λo=>match o with
      | .tok sz' top=>BM sz' sz (top=l.length/\b3R sz ei.bytes l m (GX H j (.tok sz (l.length+m.length)) λH'=>k (.sl sz (l++m) (.own j)) H'))
      |_=>False)
    |_=>False)
  |_=>False
def QV (t:Nat) (A B:AV) (H:Heap) (k:AV->Heap->Prop):Prop :=
 L.sO t λi=>match i.desc with
  | .slice e=>L.sO e λei=>(match A with
    | .qW=>Oy H (flat ei.zero) B λm=>b3Q (flat ei.zero) ei.bytes [] m H k
    | .sl sz l .full=>BM sz (flat ei.zero) (Oy H sz B λm=>b3Q sz ei.bytes l m H k)
    | .sl sz l (.own j)=>BM sz (flat ei.zero) (Oy H sz B λm=>yh H j λo=>match o with
      | .tok sz' top=>BM sz' sz (top=l.length/\b3R sz ei.bytes l m (GX H j (.tok sz (l.length+m.length)) λH'=>k (.sl sz (l++m) (.own j)) H'))
      |_=>False)
    | .gs j len=>Oy H (flat ei.zero) B λm=>yh H j λo=>match o with
      | .uD sz l=>BM sz (flat ei.zero) (l.length=len/\m≠[]/\b3R sz ei.bytes l m (GX H j (.uD sz (l++m)) λH'=>k (.gs j (len+m.length)) H'))
      |_=>False
    | .ms j off len cap 1=>BM (flat ei.zero) 1 (Oy H 1 B λm=>yh H j λo=>match o with
      | .arr 1 cp l=>(off+len<=l.length/\off+len+m.length<=cp/\len+m.length<=cap)/\GX H j (.arr 1 cp (l.take (off+len)++m++l.drop (off+len+m.length))) λH'=>k (.ms j off (len+m.length) cap 1) H'
      |_=>False)
    |_=>False)
  |_=>False
def Yb (t:Nat) (A B:AV) (H:Heap) (k:AV->Heap->Prop):Prop :=
 L.sO t λi=>match i.desc with
  | .slice e=>L.sO e λei=>Zu (!uz ei.zero) (match A,B with
    | .qW,.int _ n=>(0<n/\n<=9223372036854775807/\n*ei.bytes<=140737488355328) /\
      ∀cp,n.toNat<=cp->cp<=maxL->k (.ms (nextId H) 0 n.toNat cp 1) ((nextId H,.arr 1 cp (List.replicate n.toNat ei.zero))::H)
    |_,_=>False)
  |_=>False
def b0g(d:TD)(A:AV)(_:Heap)(k:AV->Prop):Prop :=
 match d,A with
 | .slice _,.qW=>k (.int .i64 0)
 | .slice _,.sl _ l _=>k (.int .i64 l.length)
 | .slice _,.ms _ _ len _ _=>k (.int .i64 len)
 | .str,.str s=>k (.int .i64 s.length)
 | .map _ _,.zq=>k (.int .i64 0)
 |_,_=>False
def b1W(A B:AV)(k:AV->Prop):Prop :=
 match A,B with
 | .int ka a,.int kb b=>(match Ht ka kb with|true=>k (.int ka (max a b))|false=>False)
 |_,_=>False
def Uu(A B:AV)(k:AV->Prop):Prop :=
 match A,B with
 | .int ka a,.int kb b=>(match Ht ka kb with|true=>k (.int ka (min a b))|false=>False)
 |_,_=>False
def xO(b:Builtin)(argTypes:List Nat)(args:List AV)(H:Heap)(k:AV->Heap->Prop):Prop :=
 match b,argTypes,args with
 | .len,t::_,[A]=>L.sO t λi=>b0g i.desc A H λR=>k R H
 | .append,t::u::_,[A,B]=>L.sO u λi=>(match i.desc with
   | .slice _=>AP L t A B H k
   | .str=>AP L t A B H k
   |_=>False)
 | .max,_,[A,B]=>b1W A B λR=>k R H
 | .min,_,[A,B]=>Uu A B λR=>k R H
 |_,_,_=>False
def SQ(b:Builtin)(argTypes:List Nat)(args:List AV)(H:Heap)(k:AV->Heap->Prop):Prop :=
 match b,argTypes,args with
 | .len,t::_,[A]=>L.sO t λi=>(match i.desc,A with
   | .map _ _,.mp j=>yh H j λo=>(match o with
     | .tN _ es=>es.length<=9223372036854775807/\k (.int .i64 es.length) H
     |_=>False)
   | .slice _,.gs j n=>yh H j λo=>(match o with
     | .uD _ l=>l.length=n/\k (.int .i64 n) H
     |_=>False)
   |d,A=>b0g d A H λR=>k R H)
 | .append,t::u::_,[A,B]=>L.sO u λi=>(match i.desc with
   | .slice _=>QV L t A B H k
   | .str=>QV L t A B H k
   | .int _=>Yb L t A B H k
   |_=>False)
 | .cap,t::_,[A]=>L.sO t λi=>(match i.desc,A with
   | .slice _,.qW=>k (.int .i64 0) H
   |_,_=>False)
 | .max,_,[A,B]=>b1W A B λR=>k R H
 | .min,_,[A,B]=>Uu A B λR=>k R H
 | .min,_,[A,B,C]=>Uu A B λR=>Uu R C λR=>k R H
 | .clear,t::_,[A]=>L.sO t λi=>(match i.desc,A with
   | .slice el,.ms j off len _ 1=>L.sO el λei=>Zu (!uz ei.zero) <| yh H j λo=>(match o with
     | .arr 1 cp l=>(0<len/\off+len<=l.length)/\GX H j (.arr 1 cp (l.take off++List.replicate len ei.zero++l.drop (off+len))) λH'=>k (.uf []) H'
     |_=>False)
   |_,_=>False)
 |_,_,_=>False
def xH (op:Op) (e:Env) (H:Heap) (k:AV->Heap->Prop) (ks:Heap->Prop):Prop :=
 match op with
 | .move x=>uj e x λA=>k A H
 | .assign x=>uj e x λA=>k A H
 | .pick c a b=>uj e c λC=>(match C with
   | .tt=>uj e a λA=>k A H
   | .ff=>uj e b λA=>k A H
   | .bool x=>(x=true->uj e a λA=>k A H)/\(x=false->uj e b λA=>k A H)
   | .dec p=>(p->uj e a λA=>k A H)/\(¬p->uj e b λA=>k A H)
   |_=>False)
 | .alloc t=>L.sO t λi=>Gz H (.box i.zero) λj H'=>k (.ptr j [] 0) H'
 | .box t x=>uj e x λA=>O1 L t A (Gz H (.box A) λj H'=>k (.ptr j [] 0) H')
 | .build t ps=>L.sO t λi=>(match i.desc,i.zero with
   | .struct _,.ag zs=>zk e ps.toList zs λl=>k (.ag l) H
   | .arr _ el,.ag zs=>L.sO el λei=>BM (flat ei.zero) 1 (Zu (Ql zs) (zk e ps.toList zs λl=>k (.ag l) H))
   |_,_=>False)
 | .buildSlice t n ps=>L.sO t λi=>(match i.desc with
   | .slice el=>L.sO el λei=>SG (n*flat ei.zero) 16777216 <| SG n 16777216 <| a8w ei.zero n λzs=>zO e ps.toList zs λl=>k (.sl (flat ei.zero) l .full) H
   |_=>False)
 | .load t x=>uj e x λA=>Ap L t A H λR=>k R H
 | .store t a x=>uj e a λA=>uj e x λB=>X7 L t A B H ks
 | .nilCheck x=>uj e x λA=>(match A with
   | .ptr _ _ _=>k A H
   | .cp _=>k A H
   | .fn _ _=>k A H
   |_=>False)
 | .binOp op t x y ty=>(match F5 (.binOp op t x y ty)with
   |true=>uj e x λA=>L.sO t λi=>(match i.desc with | .slice _=>b3Z op A λR=>k R H|_=>False)
   | false=>uj e x λA=>uj e y λB=>L.sO t λi=>match uz A with
     |true=>b08 i op A B λR=>k R H
     |false=>SV i.desc op (Ah x||Ah y) A B λR=>k R H)
 | .typeAssert x _ s ok=>uj e x λA=>L.sO s λi=>(match i.desc with
   | .iface=>False
   |_=>b0f i.zero s A ok λR=>k R H)
 | .makeMap t r=>(match r with
   |none=>L.sO t λi=>(match i.key with|some sh=>Gz H (.tN sh []) λj H'=>k (.mp j) H'|none=>False)
   |some _=>False)
 | .lookup t x ix ok=>uj e x λA=>uj e ix λK=>L.sO t λi=>(match i.desc,i.key with
   | .map _ et,some sh=>Zu (qR sh K) <| L.sO et λei=>(match A with
     | .mp j=>yh H j λo=>(match o with
       | .tN sh' es=>Zu (qR sh' sh) <| FW es K λr=>DI ok ei.zero r λR=>k R H
       |_=>False)
     |_=>False)
   |_,_=>False)
 | .mapUpdate t x ix y=>uj e x λA=>uj e ix λK=>uj e y λV=>QU L t A K V H ks
 | .unOp op _ x=>uj e x λA=>(match op,A with
   | .not,A=>KI A λR=>k R H
   | .neg,.int ka a=>arith ka (0-a) λR=>k R H
   |_,_=>False)
 | .convert s d x=>uj e x λA=>L.sO s λ_=>L.sO d λi=>(match i.desc,A with
   | .int kd,.int _ n=>k (.int kd (kd.wrap n)) H
   | .str,.str s=>k (.str s) H
   |_,_=>False)
 | .makeInterface t x=>uj e x λA=>L.sO t λi=>(match i.desc with
   | .iface=>False
   |_=>Vw A (k (.uV t A) H))
 | .makeFunc f first cap=>(match f,first.toList with
   | .func g,[]=>FI e cap.toList λAs=>Ti As (k (.fn g As) H)
   |_,_=>False)
 | .makeSlice t l c=>uj e l λA=>uj e c λB=>L.sO t λi=>(match i.desc,A,B with
   | .slice el,.int _ n,.int _ m=>L.sO el λei=>(0<=n/\n<=m/\m*(ei.bytes:Int)<=281474976710656/\m<=9223372036854775807) /\
     YB m.toNat n.toNat (flat ei.zero) ei.zero H k
   |_,_,_=>False)
 | .slice t x lo hi mx=>(match mx with
   |none=>uj e x λA=>aslice L t e A lo hi λR=>k R H
   |some _=>False)
 | .fieldAddr t x f=>uj e x λA=>SN L t A f λR=>k R H
 | .indexAddr t x i=>uj e x λA=>uj e i λI=>Es L t A I λR=>k R H
 | .index t x i=>uj e x λA=>uj e i λI=>SL L t A I λR=>k R H
 | .extract x i=>uj e x λA=>(match A with
   | .uf l=>Hr l i λR=>k R H
   |_=>False)
 | .call c=>(match c.callee with
   | .value f=>uj e f λA=>(match A with
     | .fn g cap=>FI e c.args.toList λAs=>YX As cap λBs=>Ir F vS g Bs H k
     |_=>False)
   | .builtin b=>FI e c.args.toList λAs=>xO L b c.argTypes.toList As H k
   | .invoke _ _=>False)
 |_=>False
def O6 (op:Op) (e:Env) (H:Heap) (k:AV->Heap->Prop) (ks:Heap->Prop):Prop :=
 match op with
 | .call c=>(match c.callee with
   | .builtin b=>FI e c.args.toList λAs=>SQ L b c.argTypes.toList As H k
   | .value f=>uj e f λA=>(match A with
     | .bm g j=>FI e c.args.toList λAs=>Ir F vS g (.ptr j [] 0::As) H k
     | .fn g cap=>FI e c.args.toList λAs=>YX As cap λBs=>IQ F vS g Bs H k
     |_=>xH F vS L (.call c) e H k ks)
   |_=>xH F vS L (.call c) e H k ks)
 | .makeFunc f first cap=>(match first.toList with
   | [x]=>(match f,cap.toList with
     | .func g,[]=>uj e x λA=>(match A with
       | .ptr j [] 0=>k (.bm g j) H
       |_=>False)
     |_,_=>False)
   |_=>xH F vS L (.makeFunc f first cap) e H k ks)
 | .insert t x ix y=>uj e x λA=>uj e ix λK=>uj e y λV=>QU L t A K V H ks
 | .field t x f=>uj e x λA=>a1N L t A f λR=>k R H
 | .binOp .add t x y ty=>(match F.w with
   |false=>xH F vS L (.binOp .add t x y ty) e H k ks
   | true=>uj e x λA=>uj e y λB=>(match A,B with
     | .int .i64 m,.int .i64 n=>k (.int .i64 (IntKind.i64.wrap (m+n))) H
     |_,_=>False))
 |op=>xH F vS L op e H k ks
end
inductive AX where
 |normal
 |exit (id:Nat)
 |ret
def rX:List Oper->List Nat
 | []=>[]
 |o::l=>match o.dst with|some d=>d::rX l|none=>rX l
def writes:Code->List Nat
 | .region _ ops _=>rX ops.toList
 | .seq a b=>writes a++writes b
 | .cond _ a b=>writes a++writes b
 | .block _ b=>writes b
 | .loop b=>writes b
 | .scope b=>writes b
 | .rangeFunc _ _ a b=>writes a++writes b
 |_=>[]
def leM:List (AV×AV)->List (AV×AV)->Prop
 | [],[]=>True
 |(x,v)::l,(y,u)::m=>x=y/\le0 v u/\leM l m
 |_,_=>False
def leO:HO->HO->Prop
 | .box A,.box B=>le0 A B
 | .arr s c l,.arr s' c' l'=>s=s'/\c=c'/\sS l l'
 | .tok s n,.tok s' n'=>s=s'/\n=n'
 | .tN s a,.tN s' b=>s=s'/\leM a b
 | .uD s l,.uD s' l'=>s=s'/\sS l l'
 | .glob g l,.glob g' l'=>g=g'/\l=l'
 |_,.gone=>True
 |_,_=>False
def Uz(n:Nat):HO->Bool
 | .box A=>tq n A
 |_=>true
def EZ(n:Nat):List (AV×AV)->Bool
 | []=>true
 |(x,y)::l=>match tq n x,tq n y with|true,true=>EZ n l|_,_=>false
def WkE(e:Env)(n:Nat):Env->Prop
 | []=>True
 |(t,A)::E=>Og e t (λA'=>le A' A/\tq n A=true)/\WkE e n E
def WkH(H:Heap)(n:Nat):Heap->Prop
 | []=>True
 |(k,o)::G=>yh H k (λo'=>leO o' o/\(match o with | .tN _ es=>EZ n es=true|o=>Uz n o=true))/\WkH H n G
structure b3K(H:Heap)(G:Heap):Prop where
 get:WkH H (nextId G) G
 ids:uQ G
inductive HWk(H:Heap)(G:Heap):Prop where
 |refl (h:H=G)
 |mk (get:WkH H (nextId G) G) (ids:uQ G)
inductive Cv:Env->Heap->Env->Heap->Prop where
 |refl (e:Env) (H:Heap):Cv e H e H
 | grow {e:Env} {H:Heap} {e':Env} {H':Heap} (t sz:Nat) (l:List AV) (A:AV) (h:uY e t=some A) (hA:(A=.qW/\l=[])\/A=.sl sz l .full)
   (h':Cv ((t,.sl sz l (.own (nextId H)))::e) ((nextId H,.tok sz l.length)::H) e' H'):Cv e H e' H'
 | freeze {e:Env} {H:Heap} {e':Env} {H':Heap} (t j off len cap cp sz:Nat) (l:List AV) (h:uY e t=some (.ms j off len cap sz)) (ho:hget H j=some (.arr sz cp l)) (hl:off+len<=l.length)
   (h':Cv ((t,.sl sz ((l.drop off).take len) .no)::e) (hset H j .gone) e' H'):Cv e H e' H'
 | keep {e:Env} {H:Heap} {e':Env} {H':Heap} (t j len cp sz:Nat) (l:List AV) (h:uY e t=some (.ms j 0 len cp sz)) (ho:hget H j=some (.arr sz cp l)) (hl:len<=l.length)
   (h':Cv ((t,.sl sz (l.take len) (.own (nextId H)))::e) ((nextId H,.tok sz len)::hset H j .gone) e' H'):Cv e H e' H'
 | GY {e:Env} {H:Heap} {e':Env} {H':Heap} (j:Nat) (p:List Nat) (sz:Nat) (l:List AV) (A B A':AV) (ho:hget H j=some (.box A)) (hp:Kz A p (λx=>x=B)) (hB:(B=.qW/\l=[])\/B=.sl sz l .full)
   (hs:IZ A p (.sl sz l (.own (nextId H))) (λx=>x=A')) (h':Cv e (hset ((nextId H,.tok sz l.length)::H) j (.box A')) e' H'):Cv e H e' H'
 | b6t {e:Env} {H:Heap} {e':Env} {H':Heap} (t sz:Nat) (h:uY e t=some .qW)
   (h':Cv ((t,.gs (nextId H) 0)::e) ((nextId H,.uD sz [])::H) e' H'):Cv e H e' H'
 | Nr {e:Env} {H:Heap} {e':Env} {H':Heap} (t j sz:Nat) (l:List AV) (h:uY e t=some (.gs j l.length)) (ho:hget H j=some (.uD sz l)) (hl:l.length<=maxL)
   (h':Cv ((t,.sl sz l .no)::e) (hset H j .gone) e' H'):Cv e H e' H'
structure qM(vS:AV->Prop)(ws:List Nat)(body:(AX->Env->Heap->Prop)->Env->Heap->Prop)(Q:AX->Env->Heap->Prop)(e:Env)(H:Heap):Prop where
 ex:∃(e₁:Env) (H₁:Heap) (ι:Type) (E:ι->Env) (kept:Env) (HS:ι->Heap) (μ:ι->Nat) (i₀:ι) (R:ι->Env->Heap->Prop),
  (∀i e' H',R i e' H'->∃i' e₂ H₂,Cv e' H' e₂ H₂/\(WkE e₂ (nextId (HS i')) (E i')/\HWk H₂ (HS i'))/\μ i'<μ i) /\
  Cv e H e₁ H₁ /\
  (∀t A,(t,A)∈kept->uY e₁ t=some A/\ws.contains t=false) /\
  (∀i,nextId (HS i)=nextId H₁) /\
  (WkE e₁ (nextId H₁) (E i₀)/\HWk H₁ (HS i₀)) /\
  ∀ i,(∀t A,(t,A)∈E i->vS A) ->
    body (λx e' H'=>match x with
     | .normal=>R i e' H'
     |x=>Q x e' H') (E i++kept) (HS i)
def LoopN(vS:AV->Prop)(ws:List Nat)(body:(AX->Env->Heap->Prop)->Env->Heap->Prop)(Q:AX->Env->Heap->Prop):Nat->Env->Heap->Prop
 | 0,e,H=>qM vS ws body Q e H
 |n+1,e,H=>body (λx e' H'=>match x with | .normal=>LoopN vS ws body Q n e' H'|x=>Q x e' H') e H
structure a0S(vS:AV->Prop)(ws:List Nat)(body:(AX->Env->Heap->Prop)->Env->Heap->Prop)(Q:AX->Env->Heap->Prop)(e:Env)(H:Heap):Prop where
 ex:∃(e₁:Env) (H₁:Heap) (ι:Type) (E:ι->Env) (kept:Env) (HS:ι->Heap) (μ:ι->Nat) (i₀:ι) (R:ι->Env->Heap->Prop),
  (∀i e' H',R i e' H'->∃i' e₂ H₂,Cv e' H' e₂ H₂/\(WkE e₂ (nextId (HS i')) (E i')/\HWk H₂ (HS i'))/\μ i'<μ i) /\
  Cv e H e₁ H₁ /\
  (∀t A,(t,A)∈kept->uY e₁ t=some A/\ws.contains t=false) /\
  (∀i,nextId (HS i)=nextId H₁) /\
  (WkE e₁ (nextId H₁) (E i₀)/\HWk H₁ (HS i₀)) /\
  ∀ i,(∀t A,(t,A)∈E i->vS A) ->
    body (λx e' H'=>match x with
     | .normal=>R i e' H'\/∃n,LoopN vS ws body Q n e' H'
     |x=>Q x e' H') (E i++kept) (HS i)
inductive qV(vS:AV->Prop)(ws:List Nat)(body:(AX->Env->Heap->Prop)->Env->Heap->Prop)(Q:AX->Env->Heap->Prop)(e:Env)(H:Heap):Prop where
 |ex (h:∃n,LoopN vS ws body Q n e H)
 /-- What has grown by appends is written from now on. -/
 | thaw (t j sz:Nat) (l:List AV) (h:uY e t=some (.gs j l.length)) (ho:hget H j=some (.uD sz l)) (ne:l≠[])
   (next:∀cp,l.length<=cp->cp<=maxL->∃n,LoopN vS ws body Q n ((t,.ms (nextId H) 0 l.length cp sz)::e) ((nextId H,.arr sz cp l)::hset H j .gone))
 |esc (h:a0S vS ws body Q e H)
section
variable(F:FT)(vS:AV->Prop)(L:Lay)
def Cm(dst:Option Nat)(A:AV)(e:Env)(k:Env->Prop):Prop :=
 match dst with
 |some d=>k ((d,A)::e)
 |none=>k e
def b5M:List Oper->Nat->(Nat->Prop)->Prop
 | [],_,_=>False
 |o::_,0,k=>match o.dst with|some d=>k d|none=>False
 |_::l,n+1,k=>b5M l n k
def zV(ops:List Oper)(g:Option (Nat×Bool))(e:Env)(yes no:Env->Prop):Prop :=
 match g with
 |none=>yes e
 | some (j,b)=>b5M ops j λd=>Og e d λA=>match A,b with
   | .tt,true=>yes e
   | .tt,false=>no e
   | .ff,true=>no e
   | .ff,false=>yes e
   | .bool x,true=>(x=true->yes ((d,.tt)::e))/\(x=false->no ((d,.ff)::e))
   | .bool x,false=>(x=true->no ((d,.tt)::e))/\(x=false->yes ((d,.ff)::e))
   | .dec p,true=>(p->yes ((d,.tt)::e))/\(¬p->no ((d,.ff)::e))
   | .dec p,false=>(p->no ((d,.tt)::e))/\(¬p->yes ((d,.ff)::e))
   | .uf [],_=>no e
   |_,_=>False
def Hu (ops:List Oper):List Oper->Env->Heap->(Env->Heap->Prop)->Prop
 | [],e,H,k=>k e H
 |o::l,e,H,k=>zV ops o.guard e
    (λe=>O6 F vS L o.op e H (λA H'=>Cm o.dst A e λe'=>Hu ops l e' H' k) (λH'=>match o.dst with|none=>Hu ops l e H' k|some _=>False))
    (λe=>Cm o.dst (.uf []) e λe'=>Hu ops l e' H k)
end
def Wj:List Operand->List Nat
 | []=>[]
 | .tmp t::l=>t::Wj l
 |_::l=>Wj l
def tJ:Op->List Operand
 | .move x | .assign x | .load _ x | .nilCheck x | .unOp _ _ x | .convert _ _ x | .makeInterface _ x | .box _ x | .extract x _ | .fieldAddr _ x _=>[x]
 | .pick a b d=>[a,b,d]
 | .store _ x y | .binOp _ _ x y _ | .makeSlice _ x y | .indexAddr _ x y | .index _ x y | .lookup _ x y _=>[x,y]
 | .typeAssert x _ _ _=>[x]
 | .mapUpdate _ x y z=>[x,y,z]
 | .build _ ps | .buildSlice _ _ ps=>ps.toList.map (·.2)
 | .makeFunc _ _ cap=>cap.toList
 | .slice _ x lo hi _=>x::(lo.toList++hi.toList)
 | .call cl=>(match cl.callee with | .value f=>[f]|_=>[])++cl.args.toList
 |_=>[]
def Jh(acc:List Nat):List Edge->Nat->Nat
 | [],s=>s
 |e::l,s=>Jh acc l (match Region.binds .any e with|true=>s|||2^e.on|||acc.getD e.on 0|false=>s)
def LZ:List Oper->List Nat->List Nat
 | [],acc=>acc
 |o::l,acc=>LZ l (acc++[Jh acc o.after.toList 0])
def Qa:Op->Bool
 | .move _ | .assign _ | .pick .. | .build .. | .buildSlice .. | .nilCheck _ | .binOp .. | .unOp .. | .convert .. | .makeInterface .. | .makeFunc .. | .makeSlice .. | .slice .. | .fieldAddr .. | .indexAddr .. | .index .. | .extract .. | .typeAssert ..=>true
 | .call c=>(match c.callee with | .builtin .len=>true | .builtin .max=>true | .builtin .min=>true | .builtin .append=>true | .value _=>true|_=>false)
 |_=>false
def sW:Op->Bool
 | .load _ _=>true
 |_=>false
def Zz(op:Op):Bool:=Qa op||sW op
def b3X(op:Op):Bool:=match op with
 | .call c=>(match c.callee with | .builtin .append=>false|_=>Qa op)
 |op=>Qa op
def Pm:Op->Bool
 | .alloc _=>true
 | .makeMap _ _=>true
 | .call c=>(match c.callee with | .builtin .append=>true|_=>false)
 |_=>false
def BD:Op->Bool
 | .alloc _=>true
 | .makeMap _ none=>true
 |_=>false
def UC:Op->Bool
 | .call c=>(match c.callee with | .builtin .append=>true|_=>false)
 |_=>false
def uJ(ops:List Oper)(o:Oper):List Nat :=
 o.dst.toList++Wj (tJ o.op)++(match o.guard with|some (g,_)=>(match ops[g]? with|some og=>og.dst.toList|none=>[])|none=>[])
def Ep(ops:List Oper)(x y:Oper×Bool):Bool :=
 (!x.2 && !y.2 && !BD y.1.op && !(sW x.1.op&&(sW y.1.op||Pm y.1.op)) && !(UC x.1.op&&sW y.1.op&&ops.all λo=>!BD o.op)) ||
 (match x.1.dst with|some d=>(uJ ops y.1).contains d|none=>false) ||
 (match y.1.dst with|some d=>(uJ ops x.1).contains d|none=>false)
def b2a (ops:List Oper) (zm:List (Oper×Bool)):Bool :=
 zm.zipIdx.all λy=>!(BD y.1.1.op && !y.1.2)||((match y.1.1.guard with|none=>true|some _=>false)&&(match y.1.1.dst with
  |none=>false
  | some d=>zm.zipIdx.all λx=>!Nat.blt x.2 y.2||x.1.2||sW x.1.1.op||((LZ ops []).getD y.2 0).testBit x.2 ||
    zm.zipIdx.all λz=>!Nat.blt y.2 z.2 || !(uJ ops z.1.1).contains d||((LZ ops []).getD z.2 0).testBit x.2))
def TW(ops:List Oper)(mask:List Bool):Bool :=
 Nat.beq mask.length ops.length&&((ops.zip mask).all λx=>!x.2||Zz x.1.op) &&
 (ops.zipIdx.all λy=>y.1.after.toList.all λe=>!Region.binds .any e||Nat.blt e.on y.2)&&b2a ops (ops.zip mask) &&
 (let b:=LZ ops []
 (ops.zip mask).zipIdx.all λy=>(ops.zip mask).zipIdx.all λx=>!Nat.blt x.2 y.2 || !Ep ops x.1 y.1||(b.getD y.2 0).testBit x.2)
def b35:Op->Bool
 | .call c=>(match c.callee with | .value _=>true|_=>false)
 |_=>false
def IB:List Nat->Nat->Bool
 | [],_=>false
 |x::l,n=>match Nat.beq x n with|true=>true|false=>IB l n
def JV(fl:List Nat)(op:Op):Bool:=b35 op||(match IB fl 999,op with|false,.store _ _ _=>true|_,_=>false)
def b0N(ops:List Oper)(fl:List Nat)(x y:(Oper×Bool)×Nat):Bool :=
 IB fl x.2&&sW x.1.1.op && !x.1.2&&JV fl y.1.1.op && !y.1.2&&(match x.1.1.dst with|some d=>!(uJ ops y.1.1).contains d|none=>true)&&(match y.1.1.dst with|some d=>!(uJ ops x.1.1).contains d|none=>true)
def a6k(ops:List Oper)(mask:List Bool)(fl:List Nat):Bool :=
 Nat.beq mask.length ops.length&&((ops.zip mask).all λx=>!x.2||Zz x.1.op) &&
 (ops.zipIdx.all λy=>y.1.after.toList.all λe=>!Region.binds .any e||Nat.blt e.on y.2)&&b2a ops (ops.zip mask) &&
 (let b:=LZ ops []
 (ops.zip mask).zipIdx.all λy=>(ops.zip mask).zipIdx.all λx=>!Nat.blt x.2 y.2 || !Ep ops x.1 y.1||(b.getD y.2 0).testBit x.2||b0N ops fl x y)
def b5I(ops:List Oper)(gl:List Nat)(x y:(Oper×Bool)×Nat):Bool :=
 IB gl y.2&&sW y.1.1.op && !y.1.2 && !x.1.2 && !sW x.1.1.op&&(ops.all λo=>!BD o.op)&&(match x.1.1.dst with|some d=>!(uJ ops y.1.1).contains d|none=>true)&&(match y.1.1.dst with|some d=>!(uJ ops x.1.1).contains d|none=>true)
def a6m(ops:List Oper)(mask:List Bool)(fl gl:List Nat):Bool :=
 Nat.beq mask.length ops.length&&((ops.zip mask).all λx=>!x.2||Zz x.1.op) &&
 (ops.zipIdx.all λy=>y.1.after.toList.all λe=>!Region.binds .any e||Nat.blt e.on y.2)&&b2a ops (ops.zip mask) &&
 (let b:=LZ ops []
 (ops.zip mask).zipIdx.all λy=>(ops.zip mask).zipIdx.all λx=>!Nat.blt x.2 y.2 || !Ep ops x.1 y.1||(b.getD y.2 0).testBit x.2||b0N ops fl x y||b5I ops gl x y)
def b5Y(ops:List Oper)(ls:List Nat)(i:Nat):Bool :=
 !ls.any (Nat.beq i)&&(match ops[i]? with|some o=>o.after.toList.all λe=>!Region.binds .any e||ls.any (Nat.beq e.on)|none=>false)
def b3t(ops:List Oper):Bool:=ops.zipIdx.all λy=>y.1.after.toList.all λe=>!Region.binds .any e||Nat.blt e.on y.2
def a7J:List Nat->(Nat->Prop)->Prop
 | [],_=>True
 |i::l,f=>f i/\a7J l f
inductive IU(F:FT)(f:Nat)(args:List AV)(k:AV->Prop):Prop where
 |pure (Bs:List AV) (R:AV) (hle:Ll args Bs) (hb:vT 0 Bs=true/\tq 0 R=true) (h:F f Bs [] R []) (h':k R)
section
variable(F:FT)(vS:AV->Prop)(L:Lay)
def O7(op:Op)(e:Env)(k:AV->Prop):Prop :=
 match op with
 | .call c=>(match c.callee with
   | .value f=>uj e f λA=>(match A with
     | .fn g cap=>FI e c.args.toList λAs=>YX As cap λBs=>IU F g Bs k
     |_=>False)
   | .builtin .append=>FI e c.args.toList λAs=>xO L .append c.argTypes.toList As [] λA H'=>H'=[]/\k A
   | .builtin b=>FI e c.args.toList λAs=>xO L b c.argTypes.toList As [] λA _=>k A
   |_=>False)
 | .makeSlice t l c=>uj e l λA=>uj e c λB=>L.sO t λi=>(match i.desc,A,B with
   | .slice el,.int _ n,.int _ m=>L.sO el λei=>(0<=n/\n<=m/\m*(ei.bytes:Int)<=281474976710656/\m<=9223372036854775807) /\
     (n.toNat=m.toNat/\k (.sl (flat ei.zero) (List.replicate n.toNat ei.zero) .full))
   |_,_,_=>False)
 |op=>noNil op <| xH F (λ_=>True) L op e [] (λA _=>k A) (λ_=>False)
def FK (ops:List Oper):List (Oper×Bool)->Env->Heap->(Env->Heap->Prop)->Prop
 | [],e,H,k=>k e H
 | (o,nb)::l,e,H,k=>zV ops o.guard e
   (λe=>match nb with
    |true=>O7 F L o.op e λA=>Cm o.dst A e λe'=>FK ops l e' H k
    |false=>noNil o.op <| xH F (λ_=>True) L o.op e H (λA H'=>Cm o.dst A e λe'=>FK ops l e' H' k) (λH'=>match o.dst with|none=>FK ops l e H' k|some _=>False))
   (λe=>Cm o.dst (.uf []) e λe'=>FK ops l e' H k)
def b0P(H:Heap):List (Nat×AV×AV)->Prop->Prop
 | [],k=>k
 |(t,A,R)::pl,k=>(Ap L t A H λR'=>R'=R)/\b0P H pl k
def b5t(fl:List Nat)(i:Nat)(op:Op)(e:Env)(A:AV)(pl:List (Nat×AV×AV))(k:List (Nat×AV×AV)->Prop):Prop :=
 match IB fl i,op with
 |true,.load t x=>uj e x λB=>k ((t,B,A)::pl)
 |_,_=>k pl
def Io (ops:List Oper) (fl:List Nat):Nat->List (Oper×Bool)->List (Nat×AV×AV)->Env->Heap->(Env->Heap->Prop)->Prop
 |_,[],_,e,H,k=>k e H
 | i,(o,nb)::l,pl,e,H,k=>zV ops o.guard e
   (λe=>match nb with
    |true=>O7 F L o.op e λA=>Cm o.dst A e λe'=>Io ops fl (i+1) l pl e' H k
    | false=>noNil o.op <| xH F (λ_=>True) L o.op e H
      (λA H'=>b0P L H' (match JV fl o.op with|true=>pl|false=>[]) <| b5t fl i o.op e A pl λUt=>Cm o.dst A e λe'=>Io ops fl (i+1) l Ut e' H' k)
      (λH'=>match o.dst with|none=>b0P L H' (match JV fl o.op with|true=>pl|false=>[]) <| Io ops fl (i+1) l pl e H' k|some _=>False))
   (λe=>Cm o.dst (.uf []) e λe'=>Io ops fl (i+1) l pl e' H k)
def b4Z(t:Nat)(A R:AV):List Heap->Prop->Prop
 | [],k=>k
 |G::hs,k=>(Ap L t A G λR'=>R'=R)/\b4Z t A R hs k
def b7j(gl:List Nat)(i:Nat)(op:Op)(e:Env)(A:AV)(hs:List Heap)(k:Prop):Prop :=
 match IB gl i,op with
 |true,.load t x=>uj e x λB=>b4Z L t B A hs k
 |_,_=>k
def Gh (ops:List Oper) (fl gl:List Nat):Nat->List (Oper×Bool)->List (Nat×AV×AV)->List Heap->Env->Heap->(Env->Heap->Prop)->Prop
 |_,[],_,_,e,H,k=>k e H
 | i,(o,nb)::l,pl,hs,e,H,k=>zV ops o.guard e
   (λe=>match nb with
    |true=>O7 F L o.op e λA=>Cm o.dst A e λe'=>Gh ops fl gl (i+1) l pl hs e' H k
    | false=>noNil o.op <| xH F (λ_=>True) L o.op e H
      (λA H'=>b0P L H' (match JV fl o.op with|true=>pl|false=>[]) <| b7j L gl i o.op e A hs <| b5t fl i o.op e A pl λUt=>Cm o.dst A e λe'=>Gh ops fl gl (i+1) l Ut (match sW o.op with|true=>hs|false=>H::hs) e' H' k)
      (λH'=>match o.dst with|none=>b0P L H' (match JV fl o.op with|true=>pl|false=>[]) <| Gh ops fl gl (i+1) l pl (H::hs) e H' k|some _=>False))
   (λe=>Cm o.dst (.uf []) e λe'=>Gh ops fl gl (i+1) l pl hs e' H k)
def Ya(ops:List Oper):Nat->List Nat->Env->Heap->(Env->Heap->Prop)->Prop
 | 0,_,e,H,k=>k e H
 | n+1,ls,e,H,k=>a7J ((List.range ops.length).filter (b5Y ops ls)) λi=>(match ops[i]? with
   | some o=>zV ops o.guard e
     (λe=>xH F (λ_=>True) L o.op e H (λA H'=>Cm o.dst A e λe'=>Ya ops n (i::ls) e' H' k) (λH'=>match o.dst with|none=>Ya ops n (i::ls) e H' k|some _=>False))
     (λe=>Cm o.dst (.uf []) e λe'=>Ya ops n (i::ls) e' H k)
   |none=>False)
mutual
def b0L(j:Nat):AV->Bool
 | .ptr k _ _=>Nat.beq k j
 | .fn _ cap=>a88 j cap
 | .ag l=>a88 j l
 | .uf l=>a88 j l
 | .uV _ x=>b0L j x
 |_=>false
def a88(j:Nat):List AV->Bool
 | []=>false
 |x::l=>match b0L j x with|true=>true|false=>a88 j l
end
mutual
def FC(j:Nat)(B:AV):AV->AV
 | .ptr k p off=>match Nat.beq k j,p,off with|true,[],0=>.cp B|_,p,off=>.ptr k p off
 | .fn f cap=>.fn f (Ob j B cap)
 | .ag l=>.ag (Ob j B l)
 | .uf l=>.uf (Ob j B l)
 | .uV t x=>.uV t (FC j B x)
 |A=>A
def Ob(j:Nat)(B:AV):List AV->List AV
 | []=>[]
 |x::l=>FC j B x::Ob j B l
end
mutual
def Xd(j:Nat)(B:AV):AV->(AV->Prop)->Prop
 | .ptr k p off,c=>(match Nat.beq k j,p,off with|true,[],0=>c (.cp B)|_,p,off=>c (.ptr k p off))
 | .fn f cap,c=>Z4 j B cap λl=>c (.fn f l)
 | .ag l,c=>Z4 j B l λl=>c (.ag l)
 | .uf l,c=>Z4 j B l λl=>c (.uf l)
 | .uV t x,c=>Xd j B x λy=>c (.uV t y)
 |A,c=>c A
def Z4(j:Nat)(B:AV):List AV->(List AV->Prop)->Prop
 | [],c=>c []
 |x::l,c=>Xd j B x λy=>Z4 j B l λm=>c (y::m)
end
def a9d(j:Nat)(B:AV):Env->(Env->Prop)->Prop
 | [],k=>k []
 | (t,A)::e,k=>match b0L j A with
   |false=>a9d j B e λm=>k ((t,A)::m)
   |true=>Xd j B A λA'=>a9d j B e λm=>k ((t,A')::m)
def YK (j:Nat) (B:AV):Heap->(Heap->Prop)->Prop
 | [],k=>k []
 | (i,o)::H,k=>match Nat.beq i j with
   |true=>YK j B H λG=>k ((i,.gone)::G)
   | false=>match o with
     | .box A=>(match b0L j A with
       |false=>YK j B H λG=>k ((i,.box A)::G)
       |true=>Xd j B A λA'=>YK j B H λG=>k ((i,.box A')::G))
     |o=>YK j B H λG=>k ((i,o)::G)
def YJ:List Nat->Env->Heap->(Env->Heap->Prop)->Prop
 | [],e,H,k=>k e H
 | j::js,e,H,k=>yh H j λo=>match o with
   | .box A=>(FU A=true/\strip A=A)/\a9d j A e λe'=>YK j A H λH'=>YJ js e' H' k
   |_=>False
inductive wX(ops:List Oper)(e:Env)(H:Heap)(k:Env->Heap->Prop):Prop where
 |mk (ex:∃mask:List Bool,TW ops mask=true/\FK F L ops (ops.zip mask) e H k)
 |all (hb:b3t ops=true) (h:Ya F L ops ops.length [] e H k)
 |late (fl:List Nat) (ex:∃mask:List Bool,a6k ops mask fl=true/\Io F L ops fl 0 (ops.zip mask) [] e H k)
 |both (fl gl:List Nat) (ex:∃mask:List Bool,a6m ops mask fl gl=true/\Gh F L ops fl gl 0 (ops.zip mask) [] [] e H k)
 |Xe (js:List Nat) (h:YJ js e H λe' H'=>∃mask:List Bool,TW ops mask=true/\FK F L ops (ops.zip mask) e' H' k)
end
section
variable(F:FT)(vS:AV->Prop)(L:Lay)
def UA:Code->(AX->Env->Heap->Prop)->Env->Heap->Prop
 | .skip,Q,e,H=>Q .normal e H
 | .region _ ops d,Q,e,H=>(match d with
   |false=>Hu F vS L ops.toList ops.toList e H λe' H'=>Q .normal e' H'
   |true=>wX F L ops.toList e H λe' H'=>Q .normal e' H')
 | .seq a b,Q,e,H=>UA a (λx e' H'=>match x with | .normal=>UA b Q e' H'|x=>Q x e' H') e H
 | .cond c a b,Q,e,H=>uj e c λA=>br A (UA a Q e H) (UA b Q e H)
 | .block i b,Q,e,H=>UA b (λx e' H'=>match x with
   | .exit j=>(match Nat.beq j i with|true=>Q .normal e' H'|false=>Q (.exit j) e' H')
   |x=>Q x e' H') e H
 | .loop b,Q,e,H=>qV vS (writes b) (UA b) Q e H
 | .exit i,Q,e,H=>Q (.exit i) e H
 | .ret,Q,e,H=>Q .ret e H
 | .label _,Q,e,H=>Q .normal e H
 |_,_,_,_=>False
end
end Go.AL
namespace Go.AL
mutual
def Ok:AV->Prop
 | .int k n=>KF k n
 | .str s=>s.length<=maxL
 | .sl _ l _=>l.length<=maxL/\KD l
 | .ag l=>KD l
 | .uf l=>KD l
 | .cp x=>Ok x
 | .uV _ x=>Ok x
 |_=>True
def KD:List AV->Prop
 | []=>True
 |x::l=>Ok x/\KD l
end
mutual
theorem Oq{w:World}{Im:Nat->Nat->Prop}:∀(A:AV) (cs:List Value),Rd w Im A cs->Ok A
 | .bool _,_,_=>by simp only[Ok]
 | .tt,_,_=>by simp only[Ok]
 | .ff,_,_=>by simp only[Ok]
 | .dec _,_,_=>by simp only[Ok]
 | .int _ _,_,hr=>by simp only[Rd]at hr;simp only[Ok];exact hr.2
 | .str _,_,hr=>by simp only[Rd]at hr;simp only[Ok];exact hr.2
 | .vJ,_,_=>by simp only[Ok]
 | .uV t x,cs,hr=>by simp only[Rd]at hr;obtain⟨v,rfl,h2,h3⟩:=hr;simp only[Ok];exact Oq x _ h3
 | .qW,_,_=>by simp only[Ok]
 | .sl sz l .no,cs,hr=>by simp only[Rd]at hr;simp only[Ok];obtain⟨h0,⟨rfl,rfl⟩|⟨a,cap,rfl,_,_,_,h⟩⟩:=hr;{exact⟨h0,by simp only[KD]⟩};exact⟨h0,b1e l _ h⟩
 | .sl sz l .full,cs,hr=>by simp only[Rd]at hr
 | .sl sz l (.own _),cs,hr=>by simp only[Rd]at hr
 | .ms _ _ _ _ _,_,_=>by simp only[Ok]
 | .ag l,cs,hr=>by simp only[Rd]at hr;simp only[Ok];exact b1d l cs hr
 | .uf _,_,hr=>by simp only[Rd]at hr
 | .ptr _ _ _,_,_=>by simp only[Ok]
 | .cp x,cs,hr=>by simp only[Rd]at hr;obtain⟨a,ds,rfl,_,_,h⟩:=hr;simp only[Ok];exact Oq x _ h
 | .vW,_,_=>by simp only[Ok]
 | .fn _ _,_,_=>by simp only[Ok]
 | .ru,_,_=>by simp only[Ok]
 | .mp _,_,_=>by simp only[Ok]
 | .gs _ _,_,_=>by simp only[Ok]
 | .bm _ _,_,_=>by simp only[Ok]
 | .zq,_,_=>by simp only[Ok]
 | .und,_,_=>by simp only[Ok]
theorem b1d{w:World}{Im:Nat->Nat->Prop}:∀(l:List AV) (cs:List Value),DX w Im l cs->KD l
 | [],_,_=>by simp only[KD]
 |x::l,cs,hr=>by simp only[DX]at hr;obtain⟨c,d,rfl,h2,h3⟩:=hr;simp only[KD];exact⟨Oq x _ h2,b1d l _ h3⟩
theorem b1e{w:World}{Im:Nat->Nat->Prop}{sz b:Nat}:∀(l:List AV) (off:Nat),IV w Im sz b l off->KD l
 | [],_,_=>by simp only[KD]
 |x::l,off,hr=>by simp only[IV]at hr;obtain⟨⟨cs,h1,h2,h3⟩,h4⟩:=hr;simp only[KD];exact⟨Oq x _ h3,b1e l _ h4⟩
end
mutual
theorem b0m{c:Cx}:∀(A:AV) (cs:List Value),VR c A cs->Ok A
 | .bool _,_,_=>by simp only[Ok]
 | .tt,_,_=>by simp only[Ok]
 | .ff,_,_=>by simp only[Ok]
 | .dec _,_,_=>by simp only[Ok]
 | .int _ _,_,hr=>by simp only[VR]at hr;exact Oq _ _ hr
 | .str _,_,hr=>by simp only[VR]at hr;exact Oq _ _ hr
 | .vJ,_,_=>by simp only[Ok]
 | .uV t x,cs,hr=>by simp only[VR]at hr;obtain⟨v,rfl,h2,h3⟩:=hr;simp only[Ok];exact b0m x _ h3
 | .qW,_,_=>by simp only[Ok]
 | .sl sz l .no,cs,hr=>by simp only[VR]at hr;exact Oq _ _ hr
 | .sl sz l .full,cs,hr=>by simp only[VR]at hr;exact Oq (.sl sz l .no) _ hr.1
 | .sl sz l (.own _),cs,hr=>by simp only[VR]at hr;exact Oq (.sl sz l .no) _ hr.2.1
 | .ms _ _ _ _ _,_,_=>by simp only[Ok]
 | .ag l,cs,hr=>by simp only[VR]at hr;simp only[Ok];exact b1a l cs hr
 | .uf _,_,hr=>by simp only[VR,Rd]at hr
 | .ptr _ _ _,_,_=>by simp only[Ok]
 | .cp x,cs,hr=>by simp only[VR]at hr;exact Oq _ _ hr
 | .vW,_,_=>by simp only[Ok]
 | .fn _ _,_,_=>by simp only[Ok]
 | .ru,_,_=>by simp only[Ok]
 | .mp _,_,_=>by simp only[Ok]
 | .gs _ _,_,_=>by simp only[Ok]
 | .bm _ _,_,_=>by simp only[Ok]
 | .zq,_,_=>by simp only[Ok]
 | .und,_,_=>by simp only[Ok]
theorem b1a{c:Cx}:∀(l:List AV) (cs:List Value),Ea c l cs->KD l
 | [],_,_=>by simp only[KD]
 |x::l,cs,hr=>by simp only[Ea]at hr;obtain⟨a,d,rfl,h2,h3⟩:=hr;simp only[KD];exact⟨b0m x _ h2,b1a l _ h3⟩
end
theorem b5w{c:Cx}:∀(l:List AV) (vs:List Value),VA c l vs->KD l
 | [],_,_=>by simp only[KD]
 |x::l,vs,hr=>by simp only[VA]at hr;obtain⟨v,r,rfl,h2,h3,h4⟩:=hr;simp only[KD];exact⟨b0m x _ h3,b5w l _ h4⟩
theorem MH{c:Cx}{A:AV}{v:Value}(h:EV c A v):Ok A:=by
 cases A <;> first
  |exact b0m _ _ h.2
  |(simp only[Ok];done)
  |(obtain⟨vs,rfl,h2⟩:=h;simp only[Ok];exact b5w _ _ h2)
theorem cells_one{v x:Value}(hs:v.cells = #[v])(h:v.cells.toList=[x]):v=x:=by rw[hs]at h;injection h
section
variable{c:Cx}{v:Value}
theorem yE{b:Bool}(h:VV c (.bool b) v):v=.bool b:=by have:=h.2;simp only[VR,Rd]at this;exact cells_one (h.1.2 rfl) this
theorem Mc(h:VV c .tt v):v=.bool true:=by have:=h.2;simp only[VR,Rd]at this;exact cells_one (h.1.2 rfl) this
theorem Me(h:VV c .ff v):v=.bool false:=by have:=h.2;simp only[VR,Rd]at this;exact cells_one (h.1.2 rfl) this
theorem CW{p:Prop}(h:VV c (.dec p) v):∃b,v=.bool b/\(b=true↔p):=by have:=h.2;simp only[VR,Rd]at this;obtain⟨b,h1,h2⟩:=this;exact⟨b,cells_one (h.1.2 rfl) h1,h2⟩
theorem b5v{k:IntKind}{n:Int}(h:VV c (.int k n) v):v=.int k n/\KF k n:=by have:=h.2;simp only[VR,Rd]at this;exact⟨cells_one (h.1.2 rfl) this.1,this.2⟩
theorem a7L{s:List UInt8}(h:VV c (.str s) v):v=.string ⟨s.toArray⟩/\s.length<=maxL:=by have:=h.2;simp only[VR,Rd]at this;exact⟨cells_one (h.1.2 rfl) this.1,this.2⟩
theorem QX(h:VV c .vJ v):v=.nilIface:=by have:=h.2;simp only[VR,Rd]at this;exact cells_one (h.1.2 rfl) this
theorem DV(h:VV c .qW v):v=.slice none 0 0:=by have:=h.2;simp only[VR,Rd]at this;exact cells_one (h.1.2 rfl) this
theorem Vf(h:VV c .vW v):v=.pointer none:=by have:=h.2;simp only[VR,Rd]at this;exact cells_one (h.1.2 rfl) this
theorem b3C(h:VV c .zq v):v=.map none:=by have:=h.2;simp only[VR,Rd]at this;exact cells_one (h.1.2 rfl) this
theorem a7M{t:Nat}{x:AV}(h:VV c (.uV t x) v):∃u,v=.iface t u/\VV c x u:=by have:=h.2;simp only[VR]at this;obtain⟨u,h1,h2,h3⟩:=this;exact⟨u,cells_one (h.1.2 rfl) h1,h2,h3⟩
theorem Po{k off:Nat}{p:List Nat}(h:VV c (.ptr k p off) v):k<c.nx/\v=.pointer (some ⟨c.ρ k,off,none⟩):=by have:=h.2;simp only[VR]at this;exact⟨this.1,cells_one (h.1.2 rfl) this.2⟩
theorem Oo{k off len cap sz:Nat}(h:VV c (.ms k off len cap sz) v):k<c.nx/\v=.slice (some ⟨c.ρ k,off*sz,none⟩) len cap/\len<=cap/\cap<=maxL:=by have:=h.2;simp only[VR]at this;exact⟨this.1,cells_one (h.1.2 rfl) this.2.1,this.2.2⟩
theorem b5u{k:Nat}(h:VV c (.mp k) v):k<c.nx/\v=.map (some (c.ρ k)):=by have:=h.2;simp only[VR]at this;exact⟨this.1,cells_one (h.1.2 rfl) this.2⟩
theorem b6G{f k:Nat}(h:VV c (.bm f k) v):k<c.nx/\v=.func (.func f) #[.pointer (some ⟨c.ρ k,0,none⟩)] #[]:=by have:=h.2;simp only[VR]at this;exact⟨this.1,cells_one (h.1.2 rfl) this.2⟩
theorem b6F{k len:Nat}(h:VV c (.gs k len) v):k<c.nx/\(∃a n m,v=.slice a n m)/\∀n,c.tp k=some n->len<=n/\(len=n->v=.slice (c.tk k).1 n (c.tk k).2):=by have:=h.2;simp only[VR]at this;obtain⟨h1,⟨a,n,m,h2⟩,h3⟩:=this;exact⟨h1,⟨a,n,m,cells_one (h.1.2 rfl) h2⟩,λn hn=>⟨(h3 n hn).1,λe=>cells_one (h.1.2 rfl) ((h3 n hn).2 e)⟩⟩
theorem b0l{x:AV}(h:VV c (.cp x) v):∃a ds,v=.pointer (some a)/\a.spot=none/\AO c.w c.Im a.block a.off ds/\Rd c.w c.Im x ds:=by have:=h.2;simp only[VR,Rd]at this;obtain⟨a,ds,h1,h2⟩:=this;exact⟨a,ds,cells_one (h.1.2 rfl) h1,h2⟩
theorem b3D{f:Nat}{cap:List AV}(h:VV c (.fn f cap) v):∃vs:List Value,v=.func (.func f) #[] vs.toArray/\VA c cap vs:=by have:=h.2;simp only[VR]at this;obtain⟨vs,h1,h2⟩:=this;exact⟨vs,cells_one (h.1.2 rfl) h1,h2⟩
theorem Yc{sz:Nat}{l:List AV}{tok:Tk}(h:VV c (.sl sz l tok) v):l.length<=maxL/\((l=[]/\v=.slice none 0 0) \/
  ∃a cap,v=.slice (some a) l.length cap/\l.length<=cap/\cap<=maxL/\(l≠[]->a.spot=none)/\IV c.w c.Im sz a.block l a.off):=by
 have hv:=h.1.2 rfl;have key:Rd c.w c.Im (.sl sz l .no) v.cells.toList:=by
  have:=h.2;cases tok with
  |no=>simpa only[VR]using this
  |full=>simp only[VR]at this;exact this.1
  |own k=>simp only[VR]at this;exact this.2.1
 simp only[Rd]at key;refine⟨key.1,?_⟩;rcases key.2 with(⟨h1,h2⟩|⟨a,cap,h1,h2⟩);{exact .inl ⟨h1,cells_one hv h2⟩};exact .inr ⟨a,cap,cells_one hv h1,h2⟩
end
theorem vw{c:Cx}{A:AV}{v:Value}(hA:uz A=false)(hv:v.cells = #[v])(h:VR c A [v]):VV c A v :=
 ⟨⟨(λh=>by rw[hA]at h;cases h),λ_=>hv⟩,by rw[hv];exact h⟩
theorem rZ{c:Cx}{A:AV}{v:Value}(h:VV c A v):EV c A v:=by
 cases A <;> first
  |exact h
  |trivial
  |(have:=h.2;simp only[VR,Rd]at this)
def sU:Operand->Bool
 | .const (.int k n)=>decide (k.min<=n)&&decide (n<=k.max)
 | .const (.string s)=>decide (s.data.size<=1000000)
 |_=>true
def xR(c:Cx)(e:Env)(a:Act):Prop:=∀t A,uY e t=some A->EV c A (a.tmps.getD t undef)
theorem a0n{c:Cx}{v:Value}{k:AV->Prop}(hv:sU (.const v)=true)(h:XA v k):∃A,VV c A v/\k A:=by unfold XA at h;split at h;{exact⟨_,vw rfl rfl (by simp only[VR,Rd]),h⟩};{exact⟨_,vw rfl rfl (by simp only[VR,Rd]),h⟩};{refine⟨_,vw rfl rfl ?_,h⟩;simp only[VR,Rd];simp only[sU,aN,bW]at hv;exact⟨trivial,hv⟩};{refine⟨_,vw rfl rfl ?_,h⟩;simp only[VR,Rd];simp only[sU,bW]at hv;refine⟨ak,?_⟩;rw[bM];unfold maxL;omega};{exact⟨_,vw rfl rfl (by simp only[VR,Rd]),h⟩};{exact⟨_,vw rfl rfl (by simp only[VR,Rd]),h⟩};{exact⟨_,vw rfl rfl (by simp only[VR,Rd]),h⟩};{exact⟨_,vw rfl rfl (by simp only[VR,Rd]),h⟩};{exact⟨_,vw rfl rfl (by simp only[VR,Rd]),h⟩};exact h.elim
theorem rH{c:Cx}{e:Env}{a:Act}{x:Operand}{k:AV->Prop}(he:xR c e a)(hx:sU x=true)(h:uj e x k):∃A,EV c A (a.eval x)/\k A:=by unfold uj at h;split at h;{obtain⟨A,h1,h2⟩:=yB.1 h;exact⟨A,he _ _ h1,h2⟩};{obtain⟨A,h1,h2⟩:=a0n (c:=c) hx h;exact⟨A,rZ h1,h2⟩};{refine⟨_,rZ (vw (v:=.func (.func _) #[] #[]) rfl rfl ?_),h⟩;simp only[VR,VA];exact⟨[],rfl,rfl⟩};exact h.elim
def Ot(c:Cx):List AV->List Value->Prop
 | [],vs=>vs=[]
 |x::l,vs=>∃v r,vs=v::r/\EV c x v/\Ot c l r
theorem CV{c:Cx}{e:Env}{a:Act}(he:xR c e a):∀{l:List Operand} {k:List AV->Prop},l.all sU=true->FI e l k ->
  ∃As,Ot c As (l.map a.eval)/\k As
 | [],k,_,h=>⟨[],rfl,h⟩
 |x::l,k,hl,h=>by simp only[nS,aN]at hl;obtain⟨A,h1,h2⟩:=rH he hl.1 h;obtain⟨As,h3,h4⟩:=CV he hl.2 h2;exact⟨A::As,⟨_,_,rfl,h1,h3⟩,h4⟩
end Go.AL
namespace Go.AL
theorem EG(k:IntKind)(n:Int):KF k (k.wrap n):=by unfold KF IntKind.wrap IntKind.min IntKind.max;have h0:=Int.emod_nonneg n (b:=(2^k.bits:Int)) (by cases k <;> simp[IntKind.bits]);have h1:=Int.emod_lt_of_pos n (b:=(2^k.bits:Int)) (by cases k <;> simp[IntKind.bits]);cases k <;> simp[IntKind.bits,IntKind.signed]at * <;> first|omega|(split <;> omega)
theorem a0V{k:IntKind}{n:Int}(h:KF k n):k.wrap n=n:=by unfold KF IntKind.min IntKind.max at h;unfold IntKind.wrap;cases k <;> simp[IntKind.bits,IntKind.signed]at * <;> first|omega|(split <;> omega)
theorem a0U{k:IntKind}{a:Int}(h:KF k a)(n:Nat):KF k (a.fdiv (2^n)):=by
 have hp:(0:Int)<2^n:=Int.pow_pos aj;have h1:a.fdiv (2^n)=a / (2^n):=iM a (Int.le_of_lt hp);rw[h1];unfold KF at *;have hmin:k.min<=0:=by cases k <;> simp[IntKind.min,IntKind.signed,IntKind.bits]
 have hmax:0<=k.max:=by cases k <;> simp[IntKind.max,IntKind.signed,IntKind.bits]
 by_cases ha:0<=a;{have h2:0<=a / 2^n:=Int.ediv_nonneg ha (Int.le_of_lt hp);have h3:a / 2^n<=a:=Int.ediv_le_self _ ha;omega};have h2:a / 2^n<0:=Int.ediv_neg_of_neg_of_pos aj hp;have h3:a<=a / 2^n:=by
  have:=Int.le_ediv_of_mul_le hp (a:=a) (b:=a) (by
   have h5:(1:Int)<=2^n:=hp;have:a*2^n<=a*1:=Int.mul_le_mul_of_nonpos_left aj h5;omega)
  exact this
 omega
theorem b0q{k:IntKind}{a b:Int}(h:KF k a):KF k (a.tmod b):=by
 unfold KF at *;have hmin:k.min<=0:=by cases k <;> simp[IntKind.min,IntKind.signed,IntKind.bits]
 have hmax:0<=k.max:=by cases k <;> simp[IntKind.max,IntKind.signed,IntKind.bits]
 have h1:(a.tmod b).natAbs<=a.natAbs:=(by rw[Int.natAbs_tmod];exact Nat.mod_le _ _);rcases Int.le_total 0 a with ha|ha;{have:0<=a.tmod b:=Int.tmod_nonneg _ ha;omega};have:a.tmod b<=0:=(by have h2:=Int.tmod_nonneg b (a:=-a) aj;rw[Int.neg_tmod]at h2;omega);omega
section
variable{c:Cx}{P:Program}
theorem uG{kd:IntKind}{n:Int}(h:KF kd n):VV c (.int kd n) (.int kd n):=vw rfl rfl (by simp only[VR,Rd];exact⟨trivial,h⟩)
theorem a0L{s:List UInt8}(h:s.length<=maxL):VV c (.str s) (.string ⟨s.toArray⟩):=vw rfl rfl (by simp only[VR,Rd];exact⟨trivial,h⟩)
theorem yS{p:Prop}{b:Bool}(h:b=true↔p):VV c (.dec p) (.bool b):=vw rfl rfl (by simp only[VR,Rd];exact⟨b,rfl,h⟩)
theorem Et(b:Bool):VV c (.bool b) (.bool b):=vw rfl rfl (by simp only[VR,Rd])
theorem Hg:VV c .tt (.bool true):=vw rfl rfl (by simp only[VR,Rd])
theorem BQ:VV c .ff (.bool false):=vw rfl rfl (by simp only[VR,Rd])
theorem Fe{kd:IntKind}{z:Int}{k:AV->Prop}(h:arith kd z k):∃R,VV c R (.int kd (kd.wrap z))/\k R:=by unfold arith at h;split at h;{exact⟨_,by rw[a0V h.1];exact uG h.1,h.2⟩};exact⟨_,uG (EG _ _),h⟩
theorem Ef{A:AV}{k:AV->Prop}{b:Bool}(hA:VV c A (.bool b))(h:KI A k):∃R,VV c R (.bool !b)/\k R:=by unfold KI at h;split at h;{have:=Mc hA;simp at this;subst this;exact⟨_,BQ,h⟩};{have:=Me hA;simp at this;subst this;exact⟨_,Hg,h⟩};{have:=yE hA;simp at this;subst this;exact⟨_,Et _,h⟩};{obtain⟨b',h1,h2⟩:=CW hA;simp at h1;subst h1;refine⟨_,yS ?_,h⟩;rw[<- h2];simp};exact h.elim
theorem Uc{x:AV}{k:AV->Prop}{v:Value}(hx:VV c x v)(h:XY x k):∃b,v=.bool b/\VV c x (.bool b)/\k x:=by unfold XY at h;split at h;{have:=Mc hx;subst this;exact⟨_,rfl,hx,h⟩};{have:=Me hx;subst this;exact⟨_,rfl,hx,h⟩};{have:=yE hx;subst this;exact⟨_,rfl,hx,h⟩};{obtain⟨b',h1,h2⟩:=CW hx;subst h1;exact⟨_,rfl,hx,h⟩};exact h.elim
theorem RH{A:AV}{k:AV->Prop}{v:Value}(hA:VV c A v)(h:KI A k):∃b,v=.bool b:=by unfold KI at h;split at h;{exact⟨_,Mc hA⟩};{exact⟨_,Me hA⟩};{exact⟨_,yE hA⟩};{obtain⟨b',h1,_⟩:=CW hA;exact⟨_,h1⟩};exact h.elim
theorem a0h{A B:AV}{k:AV->Prop}{v u:Value}(hA:VV c A v)(hB:VV c B u)(h:eqB A B k) :
  ∃a b R,v=.bool a/\u=.bool b/\VV c R (.bool (a==b))/\k R:=by
 unfold eqB at h;split at h;{obtain rfl:=Mc hA;obtain⟨b,rfl,h2,h3⟩:=Uc hB h;exact⟨true,b,_,rfl,rfl,by simpa using h2,h3⟩};{obtain rfl:=Mc hB;obtain⟨b,rfl,h2,h3⟩:=Uc hA h;exact⟨b,true,_,rfl,rfl,by simpa using h2,h3⟩};{obtain rfl:=Me hA;obtain⟨b,rfl⟩:=RH hB h;obtain⟨R,h2,h3⟩:=Ef hB h;exact⟨false,b,_,rfl,rfl,by simpa using h2,h3⟩};{obtain rfl:=Me hB;obtain⟨b,rfl⟩:=RH hA h;obtain⟨R,h2,h3⟩:=Ef hA h;exact⟨b,false,_,rfl,rfl,by simpa using h2,h3⟩};{obtain rfl:=yE hA;obtain rfl:=yE hB;exact⟨_,_,_,rfl,rfl,yS ak,h⟩};{obtain⟨a,rfl,ha⟩:=CW hA;obtain⟨b,rfl,hb⟩:=CW hB;refine⟨_,_,_,rfl,rfl,yS ?_,h⟩;rw[<- ha,<- hb];cases a <;> cases b <;> simp};{obtain⟨a,rfl,ha⟩:=CW hA;obtain rfl:=yE hB;refine⟨_,_,_,rfl,rfl,yS ?_,h⟩;rw[<- ha];rename_i b;cases a <;> cases b <;> simp};{obtain rfl:=yE hA;obtain⟨b,rfl,hb⟩:=CW hB;refine⟨_,_,_,rfl,rfl,yS ?_,h⟩;rw[<- hb];rename_i a _ _;cases a <;> cases b <;> simp};exact h.elim
theorem TG{A B:AV}{k:AV->Prop}{v u:Value}(hA:VV c A v)(hB:VV c B u)(h:TJ A B k) :
  ∃b R,((v=.nilIface/\u=.nilIface/\b=true)\/(v=.nilIface/\(∃t x,u=.iface t x)/\b=false)\/((∃t x,v=.iface t x)/\u=.nilIface/\b=false))/\VV c R (.bool b)/\k R:=by
 unfold TJ at h;split at h;{exact⟨true,_,.inl ⟨QX hA,QX hB,rfl⟩,Hg,h⟩};{obtain⟨x,h1,_⟩:=a7M hB;exact⟨false,_,.inr (.inl ⟨QX hA,⟨_,_,h1⟩,rfl⟩),BQ,h⟩};{obtain⟨x,h1,_⟩:=a7M hA;exact⟨false,_,.inr (.inr ⟨⟨_,_,h1⟩,QX hB,rfl⟩),BQ,h⟩};exact h.elim
theorem P9{A B:AV}{k:AV->Prop}{v u:Value}(hA:VV c A v)(hB:VV c B u)(h:La A B k) :
  ∃b R a,v=.pointer a/\u=.pointer none/\b=a.isNone/\VV c R (.bool b)/\k R:=by
 unfold La at h;split at h;{exact⟨true,_,none,Vf hA,Vf hB,rfl,Hg,h⟩};{obtain⟨a,ds,h1,_⟩:=b0l hA;exact⟨false,_,some a,h1,Vf hB,rfl,BQ,h⟩};{exact⟨false,_,_,(Po hA).2,Vf hB,rfl,BQ,h⟩};exact h.elim
end
end Go.AL
namespace Go.AL
theorem zQ{α:Type}{k:α->Prop}:∀{l:List α} {i:Nat},Hr l i k↔∃x,l[i]? = some x/\k x
 | [],i=>by simp[Hr]
 |x::l,0=>by simp[Hr]
 |x::l,i+1=>by simp only[Hr,dV];exact zQ
theorem Hz{k:List AV->Prop}{y:AV}:∀{l:List AV} {i:Nat},Aa l i y k->i<l.length/\k (l.set i y)
 | [],i,h=>by simp[Aa]at h
 |x::l,0,h=>by simpa[Aa]using h
 |x::l,i+1,h=>by simp only[Aa]at h;have:=Hz h;exact⟨by simp;exact this.1,by simpa using this.2⟩
theorem MP{k:List Nat->Prop}{x:Nat}:∀{l:List Nat},Zc l x k↔k (l++[x])
 | []=>jr
 |y::l=>by simp only[Zc];exact MP
theorem QT{k:List AV->Prop}{m:List AV}:∀{l:List AV},YX l m k↔k (l++m)
 | []=>jr
 |y::l=>by simp only[YX];exact QT
theorem V4{k:List AV->Prop}{z:AV}:∀{n:Nat},a8w z n k↔k (List.replicate n z)
 | 0=>jr
 |n+1=>by simp only[a8w];exact V4
theorem sV{a b:Nat}{k:Prop}:BM a b k↔a=b/\k:=by
 unfold BM;cases h:Nat.beq a b with
 |true=>simp[aK h]
 |false=>simp[xw h]
theorem KO{A:AV}{k:Prop}:Vw A k↔isVal A=true/\k:=by unfold Vw;cases isVal A <;> simp
def OU:AV->List Nat->Option AV
 |A,[]=>some A
 | .ag l,i::p=>match l[i]? with|some x=>OU x p|none=>none
 |_,_::_=>none
theorem BI{k:AV->Prop}:∀{p:List Nat} {A:AV},Kz A p k↔∃x,OU A p=some x/\k x
 | [],A=>by simp[Kz,OU]
 | i::p,A=>by
   cases A with
   | ag l =>
     simp only[Kz,OU,zQ];constructor;{rintro⟨x,h1,h2⟩;obtain⟨y,h3,h4⟩:=BI.1 h2;exact⟨y,by simp only[h1];exact h3,h4⟩};rintro⟨y,h3,h4⟩;cases hx:l[i]? with
     |none=>simp[hx]at h3
     |some x=>simp only[hx]at h3;exact⟨x,rfl,BI.2 ⟨y,h3,h4⟩⟩
   |_=>simp[Kz,OU]
theorem Jr{c:Cx}:∀{l:List AV} {cs:List Value} {i:Nat} {x:AV},Ea c l cs->l[i]? = some x ->
  ∃pre xs post,cs=pre++xs++post/\pre.length=yY (l.take i)/\VR c x xs/\∀y ys,VR c y ys->Ea c (l.set i y) (pre++ys++post)
 | [],_,_,_,_,h=>by simp at h
 | z::l,cs,0,x,hr,h=>by
   simp only[Ea]at hr;obtain⟨a,d,rfl,h2,h3⟩:=hr;obtain rfl:z=x:=by simpa using h
   refine⟨[],a,d,ak,by simp[yY],h2,λy ys hy=>?_⟩;simp only[eG,List.set_cons_zero,Ea];exact⟨ys,d,rfl,hy,h3⟩
 |z::l,cs,i+1,x,hr,h=>by simp only[Ea]at hr;obtain⟨a,d,rfl,h2,h3⟩:=hr;obtain⟨pre,xs,post,rfl,h5,h6,h7⟩:=Jr h3 (by simpa using h:l[i]? = some x);refine⟨a++pre,xs,post,ak,by simp[yY,xU _ _ h2,h5],h6,λy ys hy=>?_⟩;simp only[jT,Ea];exact⟨a,pre++ys++post,ak,h2,h7 y ys hy⟩
theorem NH{c:Cx}:∀{p:List Nat} {A x:AV} {cs:List Value},VR c A cs->OU A p=some x ->
  ∃pre xs post,cs=pre++xs++post/\pre.length=Wn A p/\VR c x xs
 | [],A,x,cs,hr,h=>by obtain rfl:A=x:=(by simpa[OU]using h);exact⟨[],cs,[],ak,by cases A <;> simp[Wn],hr⟩
 | i::p,A,x,cs,hr,h=>by
   cases A with
   | ag l =>
     simp only[OU]at h;cases hx:l[i]? with
     |none=>simp[hx]at h
     |some y =>simp only[hx]at h;simp only[VR]at hr;obtain⟨pre,ys,post,rfl,h2,h3,_⟩:=Jr hr hx;obtain⟨pre',xs,post',rfl,h5,h6⟩:=NH h3 h;exact⟨pre++pre',xs,post'++post,ak,by simp only[bn,Wn,hx,h2,h5],h6⟩
   |_=>simp[OU]at h
theorem Dc{c:Cx}{k:AV->Prop}{B:AV}{bs:List Value}(hB:VR c B bs):∀{p:List Nat} {A:AV} {cs:List Value},VR c A cs->IZ A p B k ->
  ∃A' x pre xs post,OU A p=some x/\cs=pre++xs++post/\pre.length=Wn A p/\VR c x xs/\VR c A' (pre++bs++post)/\k A'
 | [],A,cs,hr,h=>by
   have h':k B:=by cases A <;> simpa[IZ]using h
   exact⟨B,A,[],cs,[],by simp[OU],ak,by cases A <;> simp[Wn],hr,by simpa using hB,h'⟩
 | i::p,A,cs,hr,h=>by
   cases A with
   |ag l =>simp only[IZ,zQ]at h;obtain⟨x,hx,h⟩:=h;simp only[VR]at hr;obtain⟨pre,ys,post,rfl,h2,h3,h4⟩:=Jr hr hx;obtain⟨x',z,pre',xs,post',h5,rfl,h7,h8,h9,h10⟩:=Dc hB h3 h;have h11:=Hz h10;refine⟨.ag (l.set i x'),z,pre++pre',xs,post'++post,by simp only[OU,hx,h5],ak,by simp only[bn,Wn,hx,h2,h7],h8,?_,h11.2⟩;simp only[VR];have:=h4 x' _ h9;simpa using this
   |_=>simp[IZ]at h
theorem rE{c:Cx}{A:AV}{cs:List Value}(h:VR c A cs)(hA:uz A=false):∀u∈cs,u.oneCell'=true:=by
 cases A with
 |ag l=>simp[uz]at hA
 |dec p=>simp only[VR,Rd]at h;obtain⟨b,rfl,_⟩:=h;simp[Value.oneCell']
 | sl sz l tok =>
   cases tok with
   |no=>simp only[VR,Rd]at h;obtain⟨_,⟨_,rfl⟩|⟨a,cap,rfl,_⟩⟩:=h <;> simp[Value.oneCell']
   |full=>simp only[VR,Rd]at h;obtain⟨⟨_,⟨_,rfl⟩|⟨a,cap,rfl,_⟩⟩,_⟩:=h <;> simp[Value.oneCell']
   |own k=>simp only[VR,Rd]at h;obtain⟨_,⟨_,⟨_,rfl⟩|⟨a,cap,rfl,_⟩⟩,_⟩:=h <;> simp[Value.oneCell']
 |uV t x=>simp only[VR]at h;obtain⟨v,rfl,_⟩:=h;simp[Value.oneCell']
 |cp x=>simp only[VR,Rd]at h;obtain⟨a,ds,rfl,_⟩:=h;simp[Value.oneCell']
 |fn f cap=>simp only[VR]at h;obtain⟨vs,rfl,_⟩:=h;simp[Value.oneCell']
 |uf l=>simp only[VR,Rd]at h
 |und=>simp only[VR,Rd]at h
 |ptr=>simp only[VR]at h;obtain⟨_,rfl⟩:=h;simp[Value.oneCell']
 |ms=>simp only[VR]at h;obtain⟨_,rfl,_⟩:=h;simp[Value.oneCell']
 |mp=>simp only[VR]at h;obtain⟨_,rfl⟩:=h;simp[Value.oneCell']
 |gs=>simp only[VR]at h;obtain⟨_,⟨_,_,_,rfl⟩,_⟩:=h;simp[Value.oneCell']
 |bm=>simp only[VR]at h;obtain⟨_,rfl⟩:=h;simp[Value.oneCell']
 |int=>simp only[VR,Rd]at h;obtain⟨rfl,_⟩:=h;simp[Value.oneCell']
 |str=>simp only[VR,Rd]at h;obtain⟨rfl,_⟩:=h;simp[Value.oneCell']
 |_=>simp only[VR,Rd]at h;subst h;simp[Value.oneCell']
mutual
theorem Eu{c:Cx}:∀(A:AV) (cs:List Value),VR c A cs->∀u∈cs,u.oneCell'=true
 | .ag l,cs,h=>by simp only[VR]at h;exact Ui l cs h
 | .bool _,_,h=>rE h rfl
 | .tt,_,h=>rE h rfl
 | .ff,_,h=>rE h rfl
 | .dec _,_,h=>rE h rfl
 | .int _ _,_,h=>rE h rfl
 | .str _,_,h=>rE h rfl
 | .vJ,_,h=>rE h rfl
 | .uV _ _,_,h=>rE h rfl
 | .qW,_,h=>rE h rfl
 | .sl _ _ _,_,h=>rE h rfl
 | .ms _ _ _ _ _,_,h=>rE h rfl
 | .uf _,_,h=>rE h rfl
 | .ptr _ _ _,_,h=>rE h rfl
 | .cp _,_,h=>rE h rfl
 | .vW,_,h=>rE h rfl
 | .fn _ _,_,h=>rE h rfl
 | .ru,_,h=>rE h rfl
 | .mp _,_,h=>rE h rfl
 | .gs _ _,_,h=>rE h rfl
 | .bm _ _,_,h=>rE h rfl
 | .zq,_,h=>rE h rfl
 | .und,_,h=>rE h rfl
theorem Ui{c:Cx}:∀(l:List AV) (cs:List Value),Ea c l cs->∀u∈cs,u.oneCell'=true
 | [],_,h=>by simp only[Ea]at h;subst h;simp
 |x::l,cs,h=>by simp only[Ea]at h;obtain⟨a,d,rfl,h2,h3⟩:=h;intro u hu;rcases dM.1 hu with hu|hu;{exact Eu x a h2 u hu};exact Ui l d h3 u hu
end
section
variable{P:Program}{t:Nat}{i:TI}
theorem Gj.under(h:Gj P t i):∃d,P.underlying t=some d/\descOf P d=i.desc:=by
 have:=h.desc;cases hd:P.underlying t with
 |none=>simp[hd]at this
 |some d=>simp[hd]at this;exact⟨d,rfl,this⟩
theorem Gj.Zi(h:Gj P t i)(w:World):(isAgg t).run P w=.ok (uz i.zero) w:=by obtain⟨d,h1,h2⟩:=h.under;rw[<- h.agg,<- h2];unfold isAgg;simp only[Sem.run_bind,run_underlying h1,Result.andThen_ok];cases d <;> rfl
theorem Gj.EJ(h:Gj P t i)(w:World):(sizeOf t).run P w=.ok (flat i.zero) w:=by obtain⟨x,v,h1,h2,_⟩:=h.info;unfold sizeOf typeInfo;simp[h1,h2]
theorem Gj.KQ(h:Gj P t i)(w:World):∃v,(zeroValue t).run P w=.ok v w/\wE i.zero v/\∀w Im,Rd w Im i.zero v.cells.toList:=by obtain⟨x,v,h1,h2,h3,h4,h5,h6⟩:=h.info;refine⟨v,?_,h5,h6⟩;unfold zeroValue typeInfo;simp[h1,h4]
end
theorem Ae{P:Program}{L:Lay}{t:Nat}{x:AV}{k:Prop}(hL:uo P L)(h:O1 L t x k) :
  isVal x=true/\∃i,Gj P t i/\flat x=flat i.zero/\uz x=uz i.zero/\k:=by
 unfold O1 at h;obtain⟨hv,h⟩:=KO.1 h;refine⟨hv,?_⟩;obtain⟨i,hi,h⟩:=Lay.rY hL h;refine⟨i,hi,?_⟩;cases hb:Nat.beq (flat x) (flat i.zero)with
 |false=>simp[hb]at h
 |true =>simp only[hb]at h;refine⟨aK hb,?_⟩;cases h1:uz x <;> cases h2:uz i.zero <;> simp[h1,h2]at h ⊢ <;> exact h
theorem HY{P:Program}{c:Cx}{t:Nat}{i:TI}{x:AV}{cs:List Value}{b off:Nat}(hT:Gj P t i)(hf:flat x=flat i.zero)(ha:uz x=uz i.zero)
  (hr:VR c x cs) (hc:∀j v,cs[j]? = some v->c.w.cell? ⟨b,off+j,none⟩=some v):(loadVar t ⟨b,off,none⟩).run P c.w=.ok (mkV x cs) c.w:=by
 unfold loadVar;simp only[Sem.run_bind,hT.Zi,Result.andThen_ok];cases hz:uz i.zero with
 | true =>
   have hl:cs.length=flat i.zero:=(xU _ _ hr).trans hf;have:=run_loadCells_list (P:=P) c.w ⟨b,off,none⟩ cs (λj v hj=>by
    have:=hc j v hj;unfold Addr.add;split;{rename_i h0;subst h0;simpa using this};simpa using this)
   simp only[if_true,Sem.run_bind,hT.EJ,Result.andThen_ok,<- hl,this,Sem.run_pure];rw[hz]at ha;cases x <;> simp[uz]at ha;rfl
 | false =>
   obtain⟨v,rfl,hv⟩:=Aq hr (by rw[ha,hz]);have:=hc 0 v rfl;simp only[dU]at this;simp only[dN,if_false,run_load,this];rw[hz]at ha;have:mkV x [v]=v:=by cases x <;> simp[uz]at ha <;> rfl
   rw[this]
theorem JF{P:Program}{w:World}{t:Nat}{i:TI}{v:Value}{b off:Nat}{cur:Array Value}{ty:Nat}(hT:Gj P t i)(hf:v.cells.size=flat i.zero)
  (hg:w.heap[b]? = some (.cells cur ty)) (hl:off+v.cells.size<=cur.size) (h1:∀u∈v.cells.toList,u.oneCell'=true) :
  (storeVar t ⟨b,off,none⟩ v).run P w=.ok () (w.setRow b (cur.toList.take off++v.cells.toList++cur.toList.drop (off+v.cells.size)).toArray):=by
 unfold storeVar;have:=run_storeCells_at P b off ty v.cells.toList 0 cur w hg (by simpa using hl) h1;simp only[dU,bM]at this;simp only[Sem.run_bind,hT.EJ,Result.andThen_ok,hf,ne_eq,not_true_eq_false,if_false];rw[hf]at this;exact this
theorem cell_of_heap{w:World}{b o:Nat}{cs:Array Value}{ty:Nat}{fr:Nat×Nat}(h:w.heap[b]? = some (.cells cs ty fr)):w.cell? ⟨b,o,none⟩=cs[o]?:=by simp[World.cell?,h]
theorem Ew{c:Cx}{A:AV}{v:Value}(h:EV c A v)(hv:isVal A=true):VV c A v:=by cases A <;> first|exact h|(simp[isVal]at hv)
end Go.AL
namespace Go.AL
theorem Fp{c d:Cx}(h:c.Le d){sz:Nat}:∀{l:List AV} {cs:List Value},Pq c sz l cs->Pq d sz l cs
 | [],_,_=>trivial
 |x::l,cs,hr=>by obtain⟨a,e,h1,h2,h3,h4⟩:=hr;exact⟨a,e,h1,h2,wo h.im _ _ h3,Fp h h4⟩
theorem Hl{c d:Cx}(h:c.Le d):∀{l:List (AV×AV)} {es:List MapEntry},Py c l es->Py d l es
 | [],_,hr=>hr
 |(x,y)::l,es,hr=>by obtain⟨e,r,h1,h2,h3,h4⟩:=hr;exact⟨e,r,h1,Cb h h2,Cb h h3,Hl h h4⟩
theorem DY{c d:Cx}(h:c.Le d){k:Nat}{o:HO}(hk:k<c.nx)(ht:d.tk k=c.tk k)
  (hb:∀b,qZ c (k,o)=some b->d.w.heap[b]? = c.w.heap[b]? /\ ∀x,d.Im b x->c.Im b x) (ho:o.Ok c k):o.Ok d k:=by
 cases o with
 |box A =>obtain⟨cs,ty,h1,h2,h3⟩:=ho;have:=hb (c.ρ k) rfl;refine⟨cs,ty,?_,DW h _ _ h2,?_⟩;{rw[h.ρ k hk,this.1,h1]};rw[h.ρ k hk];exact λx hx=>h3 x (this.2 x hx)
 |arr sz cap l =>obtain⟨cs,ty,h1,h2,h3,h4,h5,h6⟩:=ho;have:=hb (c.ρ k) rfl;refine⟨cs,ty,?_,h2,h3,h4,Fp h h5,?_⟩;{rw[h.ρ k hk,this.1,h1]};rw[h.ρ k hk];exact λx hx=>h6 x (this.2 x hx)
 |tok sz top =>simp only[HO.Ok,ht]at ho ⊢;by_cases he:(c.tk k).2=top;{exact .inl he};rcases ho with ho|⟨b,cs,ty,h1,h2,h3,h4,h5,h6⟩;{exact .inl ho};have:=hb b (by simp[qZ,he,h1]);exact .inr ⟨b,cs,ty,h1,by rw[this.1,h2],h3,h4,h5,λx hx hi=>h6 x hx (this.2 x hi)⟩
 |tN sh es =>obtain⟨ents,clock,h1,h2,h3⟩:=ho;have:=hb (c.ρ k) rfl;refine⟨ents,clock,?_,Hl h h2,h3⟩;rw[h.ρ k hk,this.1,h1]
 |uD sz l =>simp only[HO.Ok,ht]at ho ⊢;rcases ho with ho|⟨b,cs,ty,h1,h2,h3,h4,h5,h6,h7⟩;{exact .inl ho};have:=hb b (by simp[qZ,h1]);exact .inr ⟨b,cs,ty,h1,by rw[this.1,h2],h3,h4,h5,Fp h h6,λx hx=>h7 x (this.2 x hx)⟩
 |glob g cs =>intro j v hv;obtain⟨h1,h2⟩:=ho j v hv;obtain⟨g1,g2⟩:=h.im _ _ h1;exact⟨g1,g2.trans h2⟩
 |gone=>trivial
theorem b1i{c:Cx}{k:Nat}{o:HO}(ho:o.Ok c k){b:Nat}(hb:qZ c (k,o)=some b):b<c.w.heap.size:=by
 have key:∀{x:Obj},c.w.heap[b]? = some x->b<c.w.heap.size:=λh=>(dG.1 h).1;cases o with
 |box A=>obtain⟨cs,ty,h1,_⟩:=ho;simp[qZ]at hb;subst hb;exact key h1
 |arr sz cap l=>obtain⟨cs,ty,h1,_⟩:=ho;simp[qZ]at hb;subst hb;exact key h1
 |tok sz top =>simp only[qZ]at hb;split at hb;{simp at hb};rcases ho with ho|⟨b',cs,ty,h1,h2,_⟩;{contradiction};simp[h1]at hb;subst hb;exact key h2
 |tN sh es=>obtain⟨ents,clock,h1,_⟩:=ho;simp[qZ]at hb;subst hb;exact key h1
 |uD sz l =>rcases ho with⟨h1,_⟩|⟨b',cs,ty,h1,h2,_⟩;{simp[qZ,h1]at hb};simp[qZ,h1]at hb;subst hb;exact key h2
 |glob g cs=>simp[qZ]at hb
 |gone=>simp[qZ]at hb
theorem HR.LY{c:Cx}{H:Heap}(h:HR c H){x:Nat×HO}(hx:x∈H){b:Nat}(hb:qZ c x=some b):b<c.w.heap.size :=
 b1i (h.ok x hx) hb
theorem Bl{c d:Cx}{x:Nat×HO}(hρ:d.ρ x.1=c.ρ x.1)(ht:d.tk x.1=c.tk x.1):qZ d x=qZ c x:=by unfold qZ;rw[hρ,ht]
theorem BA{α:Type}{R:α->α->Prop}:∀{l:List α},l.Pairwise R->∀{S:α->α->Prop},(∀x∈l,∀y∈l,R x y->S x y)->l.Pairwise S
 | [],_,_,_=>.nil
 |x::l,h,S,hS=>by rw[fB]at h ⊢;exact⟨λy hy=>hS x ak y (by simp[hy]) (h.1 y hy),BA h.2 λa ha b hb=>hS a (by simp[ha]) b (by simp[hb])⟩
theorem Tr.keep{c d:Cx}{H:Heap}(hr:HR c H)(le:c.Le d)(hnx:d.nx=c.nx)(htp:d.tp=c.tp)(htk:d.tk=c.tk)
  (os:d.w.os=c.w.os) (tape:d.w.tape=c.w.tape) (output:d.w.output=c.w.output) (size:c.w.heap.size<=d.w.heap.size)
  (fr:∀b,b<c.w.heap.size->d.w.heap[b]? = c.w.heap[b]?) (im:∀b o,d.Im b o->c.Im b o\/(c.w.heap.size<=b/\b<d.w.heap.size)):Tr c H d H:=by
 have hbk:∀x∈H,qZ d x=qZ c x:=λx hx=>Bl (le.ρ _ (by rw[hr.nx];exact sG hr.ids x hx)) (by rw[htk]);refine⟨⟨hnx.trans hr.nx,htp.trans hr.tp,hr.ids,λb o h=>?_,λx hx=>?_,?_⟩,le,os,tape,output,size,λb hb _=>fr b hb,λy hy b hb=>.inr ⟨y,hy,by rw[<- hbk y hy];exact hb⟩,λb o h=>(im b o h).imp id (λh=>.inl h.1)⟩;{rcases im b o h with h|h;{have:=hr.im b o h;omega};exact h.2};{refine DY le (by rw[hr.nx];exact sG hr.ids x hx) (by rw[htk]) (λb hb=>?_) (hr.ok x hx);have hlt:=hr.LY hx hb;exact⟨fr b hlt,λo ho=>(im b o ho).resolve_right aj⟩};exact BA hr.apart λx hx y hy h b hb=>by rw[hbk y hy];rw[hbk x hx]at hb;exact h b hb
def Cx.alloc(c:Cx)(o:Obj):Cx:={ c with w:=c.w.alloc o,Im:=λb x=>c.Im b x\/b=c.w.heap.size }
theorem xB(w:World)(o:Obj){b:Nat}(h:b<w.heap.size):(w.alloc o).heap[b]? = w.heap[b]?:=by show(w.heap.push o)[b]? = _;rw[Array.getElem?_push,aB aj]
theorem alloc_heap_new(w:World)(o:Obj):(w.alloc o).heap[w.heap.size]? = some o:=by show(w.heap.push o)[_]? = _;simp
theorem wW{w w':World}{b o:Nat}(h:w'.heap[b]? = w.heap[b]?):w'.cell? ⟨b,o,none⟩=w.cell? ⟨b,o,none⟩:=by simp[World.cell?,h]
theorem Tr.alloc{c:Cx}{H:Heap}(hr:HR c H)(o:Obj):Tr c H (c.alloc o) H:=by refine Tr.keep hr ⟨λb x h=>⟨.inl h,?_⟩,aS _,λ_ _=>rfl,λ_ _ _ h=>.inl ⟨h,rfl⟩⟩ rfl rfl rfl rfl rfl rfl (by simp[Cx.alloc]) (λb hb=>xB _ _ hb) (λb x h=>?_);{exact wW (xB _ _ (hr.im b x h))};rcases h with h|h;{exact .inl h};subst h;exact .inr ⟨aS _,by simp[Cx.alloc]⟩
theorem Tr.drew{c:Cx}{H:Heap}(hr:HR c H):Tr c H { c with w:=c.w.drew } H :=
 Tr.keep hr ⟨λ_ _ h=>⟨h,rfl⟩,aS _,λ_ _=>rfl,λ_ _ _ h=>.inl ⟨h,rfl⟩⟩ rfl rfl rfl rfl rfl rfl (aS _) (λ_ _=>rfl) (λ_ _ h=>.inl h)
def Cx.push(c:Cx)(o:Obj)(H:Heap):Cx :=
 { c with w:=c.w.alloc o,ρ:=λk=>if k=c.nx then c.w.heap.size else c.ρ k,nx:=c.nx+1,tp:=ug H }
theorem Bv{H:Heap}{i k:Nat}{o:HO}(h:i≠k):ug ((i,o)::H) k=ug H k:=by
 unfold ug;simp only[hget];cases hb:Nat.beq i k with
 |true=>exact absurd (aK hb) h
 |false=>rfl
theorem JA{H:Heap}{i:Nat}{o:HO}:ug ((i,o)::H) i=(match o with | .tok _ n=>some n | .uD _ l=>some l.length|_=>none):=by unfold ug;simp only[hget,Nat.beq_refl];cases o <;> rfl
theorem UH{c:Cx}{H:Heap}(hr:HR c H)(o:Obj)(ho:HO):c.Le (c.push o ((nextId H,ho)::H)):=by refine⟨λb x h=>⟨h,wW (xB _ _ (hr.im b x h))⟩,mF _,λk hk=>?_,λk n hk hn=>?_⟩;{simp only[Cx.push];rw[aB aj]};refine .inl ⟨?_,rfl⟩;have:nextId H≠k:=(by rw[<- hr.nx];omega);simp only[Cx.push]at hn;rw[Bv this]at hn;rw[hr.tp];exact hn
theorem EKρ{c:Cx}{H:Heap}(hr:HR c H)(o:Obj)(G:Heap):(c.push o G).ρ (nextId H)=c.w.heap.size:=by simp only[Cx.push];rw[aG hr.nx.symm]
theorem Tr.push{c:Cx}{H:Heap}(hr:HR c H)(o:Obj)(ho:HO)(hblk:∀d:Cx,qZ d (nextId H,ho)=some (d.ρ (nextId H)))
  (hok:ho.Ok (c.push o ((nextId H,ho)::H)) (nextId H)):Tr c H (c.push o ((nextId H,ho)::H)) ((nextId H,ho)::H):=by
 have hlt:∀x∈H,x.1<c.nx:=λx hx=>(by rw[hr.nx];exact sG hr.ids x hx);have le:=UH hr o ho;have hbk:∀x∈H,qZ (c.push o ((nextId H,ho)::H)) x=qZ c x:=λx hx=>Bl (le.ρ _ (hlt x hx)) rfl;have hρ:(c.push o ((nextId H,ho)::H)).ρ (nextId H)=c.w.heap.size:=(by simp only[Cx.push];rw[aG hr.nx.symm]);refine⟨⟨?_,rfl,?_,?_,?_,?_⟩,le,rfl,rfl,rfl,by simp[Cx.push],λb hb _=>xB _ _ hb,?_,λb x h=>.inl h⟩;{simp only[Cx.push,nextId,hr.nx]};{exact⟨λx hx=>sG hr.ids x hx,hr.ids⟩};{intro b x h;have:=hr.im b x h;simp only[Cx.push,World.size_alloc];omega};{intro x hx;rcases aT.1 hx with rfl|hx;{exact hok};refine DY le (hlt x hx) rfl (λb hb=>?_) (hr.ok x hx);exact⟨xB _ _ (hr.LY hx hb),λy hy=>hy⟩};{rw[fB];constructor;{intro y hy b hb hb';rw[hblk,hρ]at hb;rw[hbk y hy]at hb';have:=hr.LY hy hb';simp at hb;omega};exact BA hr.apart λx hx y hy h b hb=>by rw[hbk y hy];rw[hbk x hx]at hb;exact h b hb};intro y hy b hb;rcases aT.1 hy with rfl|hy;{rw[hblk,hρ]at hb;simp at hb;exact .inl aj};rw[hbk y hy]at hb;exact .inr ⟨y,hy,hb⟩
end Go.AL
namespace Go.AL
theorem wH{R:Nat×HO->Nat×HO->Prop}:∀{H:Heap},uQ H->(∀x∈H,∀y∈H,x.1≠y.1->R x y)->H.Pairwise R
 | [],_,_=>.nil
 |(i,o)::H,hi,h=>by simp only[uQ]at hi;rw[fB];exact⟨λy hy=>h _ ak y (by simp[hy]) (by have:=hi.1 y hy;simp;omega),wH hi.2 λx hx y hy=>h x (by simp[hx]) y (by simp[hy])⟩
theorem P5{R:Nat×HO->Nat×HO->Prop}(hs:∀x y,R x y->R y x):∀{H:Heap},H.Pairwise R->∀x∈H,∀y∈H,x.1≠y.1->R x y
 | [],_,x,hx,_,_,_=>by simp at hx
 |z::H,h,x,hx,y,hy,hn=>by rw[fB]at h;rcases aT.1 hx with ex|ex <;> rcases aT.1 hy with ey|ey;{subst ex;subst ey;exact absurd rfl hn};{subst ex;exact h.1 y ey};{subst ey;exact hs _ _ (h.1 x ex)};exact P5 hs h.2 x ex y ey hn
theorem HR.apart'{c:Cx}{H:Heap}(h:HR c H){x y:Nat×HO}(hx:x∈H)(hy:y∈H)(hn:x.1≠y.1){b:Nat}(hb:qZ c x=some b):qZ c y≠some b :=
 P5 (R:=λx y=>∀b,qZ c x=some b->qZ c y≠some b) (λ_ _ h b hb hb'=>h b hb' hb) h.apart x hx y hy hn b hb
theorem wF:∀{H:Heap} {k:Nat} {o':HO} {x:Nat×HO},uQ H->x∈hset H k o'->x=(k,o')\/(x∈H/\x.1≠k)
 | [],_,_,_,_,h=>by simp[hset]at h
 | (i,o)::H,k,o',x,hi,h=>by
   simp only[uQ]at hi;simp only[hset]at h;cases hb:Nat.beq i k with
   |true =>have e:=aK hb;rw[hb]at h;rcases aT.1 h with h|h;{exact .inl (by rw[h,e])};exact .inr ⟨dh _ h,by have:=hi.1 x h;omega⟩
   |false =>rw[hb]at h;rcases aT.1 h with h|h;{exact .inr ⟨by rw[h];exact dD,by rw[h];exact xw hb⟩};exact(wF hi.2 h).imp id λh=>⟨dh _ h.1,h.2⟩
theorem Qb:∀{H:Heap} {k:Nat} {o':HO} {x:Nat×HO},x∈hset H k o'->∃y∈H,y.1=x.1
 | [],_,_,_,h=>by simp[hset]at h
 | (i,o)::H,k,o',x,h=>by
   simp only[hset]at h;cases hb:Nat.beq i k with
   |true =>rw[hb]at h;rcases aT.1 h with rfl|h;{exact⟨(i,o),dD,rfl⟩};exact⟨x,dh _ h,rfl⟩
   |false =>rw[hb]at h;rcases aT.1 h with rfl|h;{exact⟨(i,o),dD,rfl⟩};obtain⟨y,hy,he⟩:=Qb h;exact⟨y,by simp[hy],he⟩
theorem CJ:∀{H:Heap} {k:Nat} {o':HO},uQ H->uQ (hset H k o')
 | [],_,_,h=>h
 | (i,o)::H,k,o',h=>by
   simp only[uQ]at h;simp only[hset];cases Nat.beq i k with
   |true=>exact⟨h.1,h.2⟩
   |false =>refine⟨λx hx=>?_,CJ h.2⟩;obtain⟨y,hy,he⟩:=Qb hx;have:=h.1 y hy;omega
theorem H9:∀{H:Heap} {k:Nat} {o':HO},nextId (hset H k o')=nextId H
 | [],_,_=>rfl
 |(i,o)::H,k,o'=>by simp only[hset];cases Nat.beq i k <;> rfl
theorem DK:∀{H:Heap} {k j:Nat} {o':HO},j≠k->hget (hset H k o') j=hget H j
 | [],_,_,_,_=>rfl
 | (i,o)::H,k,j,o',h=>by
   simp only[hset];cases hb:Nat.beq i k with
   | true =>
     obtain rfl:=aK hb;simp only[hget];cases hc:Nat.beq i j with
     |true=>exact absurd (aK hc).symm h
     |false=>rfl
   | false =>
     simp only[hget];cases Nat.beq i j with
     |true=>rfl
     |false=>exact DK h
theorem BG:∀{H:Heap} {k:Nat} {o o':HO},hget H k=some o->hget (hset H k o') k=some o'
 | [],_,_,_,h=>by simp[hget]at h
 | (i,x)::H,k,o,o',h=>by
   simp only[hset];cases hb:Nat.beq i k with
   |true=>simp only[hget];rw[hb]
   |false =>simp only[hget]at h ⊢;rw[hb]at h ⊢;exact BG h
theorem Tr.set{c d:Cx}{H:Heap}{k:Nat}{o o':HO}(hr:HR c H)(hk:hget H k=some o)(le:c.Le d)(hnx:d.nx=c.nx)(htp:d.tp=ug (hset H k o'))
  (htk:∀j,j≠k->d.tk j=c.tk j) (os:d.w.os=c.w.os) (tape:d.w.tape=c.w.tape) (output:d.w.output=c.w.output) (size:c.w.heap.size<=d.w.heap.size)
  (fr:∀b,b<c.w.heap.size->qZ c (k,o)≠some b->d.w.heap[b]? = c.w.heap[b]?)
  (im:∀b x,d.Im b x->c.Im b x\/(c.w.heap.size<=b/\b<d.w.heap.size)\/qZ c (k,o)=some b)
  (hblk:∀b,qZ d (k,o')=some b->c.w.heap.size<=b\/qZ c (k,o)=some b) (hok:o'.Ok d k):Tr c H d (hset H k o'):=by
 have hkm:=wS hk;have hlt:∀x∈H,x.1<c.nx:=λx hx=>(by rw[hr.nx];exact sG hr.ids x hx);have hbk:∀x∈H,x.1≠k->qZ d x=qZ c x:=λx hx hn=>Bl (le.ρ _ (hlt x hx)) (htk _ hn);refine⟨⟨?_,htp,CJ hr.ids,?_,?_,?_⟩,le,os,tape,output,size,?_,?_,?_⟩;{rw[H9,hnx,hr.nx]};{intro b x h;rcases im b x h with h|h|h;{have:=hr.im b x h;omega};{exact h.2};have:=hr.LY hkm h;omega};{intro x hx;rcases wF hr.ids hx with rfl|⟨hx,hn⟩;{exact hok};refine DY le (hlt x hx) (htk _ hn) (λb hb=>?_) (hr.ok x hx);have hlt':=hr.LY hx hb;have hne:qZ c (k,o)≠some b:=λh=>hr.apart' hkm hx (λe=>hn e.symm) h hb;refine⟨fr b hlt' hne,λy hy=>?_⟩;rcases im b y hy with h|h|h;{exact h};{omega};exact absurd h hne};{refine wH (CJ hr.ids) ?_;intro x hx y hy hn b hb hb';rcases wF hr.ids hx with rfl|⟨hx,hxn⟩ <;> rcases wF hr.ids hy with rfl|⟨hy,hyn⟩;{exact hn rfl};{rw[hbk y hy hyn]at hb';rcases hblk b hb with h|h;{have:=hr.LY hy hb';omega};exact hr.apart' hkm hy (λe=>hyn e.symm) h hb'};{rw[hbk x hx hxn]at hb;rcases hblk b hb' with h|h;{have:=hr.LY hx hb;omega};exact hr.apart' hkm hx (λe=>hxn e.symm) h hb};rw[hbk x hx hxn]at hb;rw[hbk y hy hyn]at hb';exact hr.apart' hx hy hn hb hb'};{intro b hb hn;exact fr b hb (hn _ hkm)};{intro y hy b hb;rcases wF hr.ids hy with rfl|⟨hy,hyn⟩;{exact(hblk b hb).imp id λh=>⟨_,hkm,h⟩};rw[hbk y hy hyn]at hb;exact .inr ⟨y,hy,hb⟩};intro b x h;rcases im b x h with h|h|h;{exact .inl h};{exact .inr (.inl h.1)};exact .inr (.inr ⟨_,hkm,h⟩)
theorem xq{H:Heap}{k:Nat}{o o':HO}(hk:hget H k=some o)(h1:∀s n,o≠.tok s n)(h2:∀s n,o'≠.tok s n)
  (h3:∀s l,o≠.uD s l:=by intros;simp) (h4:∀s l,o'≠.uD s l:=by intros;simp):ug (hset H k o')=ug H:=by
 funext j;unfold ug;by_cases hj:j=k;{subst hj;rw[BG hk,hk];cases o <;> cases o' <;> first|rfl|exact absurd rfl (h1 _ _)|exact absurd rfl (h2 _ _)|exact absurd rfl (h3 _ _)|exact absurd rfl (h4 _ _)};rw[DK hj]
theorem Tr.write{c:Cx}{H:Heap}{k:Nat}{o o':HO}{cur cs:Array Value}{ty:Nat}(hr:HR c H)(hk:hget H k=some o)
  (_hg:c.w.heap[c.ρ k]? = some (.cells cur ty)) (hb:∀d:Cx,qZ d (k,o)=some (d.ρ k)) (hb':∀d:Cx,qZ d (k,o')=some (d.ρ k)) (him:∀x,¬c.Im (c.ρ k) x)
  (h1:∀s n,o≠.tok s n) (h2:∀s n,o'≠.tok s n)
  (hok:o'.Ok { c with w:=c.w.setRow (c.ρ k) cs } k):Tr c H { c with w:=c.w.setRow (c.ρ k) cs } (hset H k o'):=by
 have hother:∀b,b≠c.ρ k->(c.w.setRow (c.ρ k) cs).heap[b]? = c.w.heap[b]?:=λb hb=>setRow_other c.w _ b _ hb;refine Tr.set hr hk ⟨λb x h=>⟨h,?_⟩,aS _,λ_ _=>rfl,λ_ _ _ h=>.inl ⟨h,rfl⟩⟩ rfl ?_ (λ_ _=>rfl) rfl rfl rfl (by simp[World.setRow]) (λb hb' hn=>hother b ?_) (λb x h=>.inl h) (λb h=>.inr ?_) hok;{exact wW (hother b (λe=>him x (e ▸ h)))};{rw[xq hk h1 h2 (by rintro s l rfl;have:=hb { c with tk:=λ_=>(none,0) };simp[qZ]at this) (by rintro s l rfl;have:=hb' { c with tk:=λ_=>(none,0) };simp[qZ]at this)];exact hr.tp};{intro e;exact hn (by rw[hb,e])};rw[hb']at h;rw[hb];exact h
end Go.AL
namespace Go.AL
theorem a5B{c:Cx}{s:Nat}{cs:List Value}(h:VR c .qW cs):Rd c.w c.Im (.sl s [] .no) cs:=by simp only[VR,Rd]at h ⊢;exact⟨by simp[maxL],.inl ⟨trivial,h⟩⟩
theorem b5V{c:Cx}{s:Nat}{l:List AV}{t:Tk}{cs:List Value}(h:VR c (.sl s l t) cs):Rd c.w c.Im (.sl s l .no) cs:=by
 cases t with
 |no=>simpa only[VR]using h
 |full=>simp only[VR]at h;exact h.1
 |own k=>simp only[VR]at h;exact h.2.1
theorem yQ:∀{l m:List AV},sS l m->l.length=m.length
 | [],[],_=>rfl
 | [],_::_,h=>by simp only[sS]at h
 |_::_,[],h=>by simp only[sS]at h
 |x::l,y::m,h=>by simp only[sS]at h;simp[yQ h.2]
theorem a8V{A B:AV}(h:IC A B):uz B=uz A:=by
 cases A with
 |ag l=>cases B <;> simp only[IC]at h <;> first|rfl|cases h
 |sl s l t=>cases B <;> first|rfl|(cases t <;> simp only[IC]at h <;> cases h)
 |_=>cases B <;> first|rfl|(simp only[IC]at h;cases h)
theorem a8W{A B:AV}(h:le0 A B):uz B=uz A:=by
 cases A with
 |ag l=>cases B <;> simp only[le0]at h <;> first|rfl|cases h
 |sl s l t=>cases B <;> first|rfl|(cases t <;> simp only[le0]at h <;> cases h)
 |_=>cases B <;> first|rfl|(simp only[le0]at h;cases h)
theorem Ze{A B:AV}{v:Value}(h:uz B=uz A)(hs:wE A v):wE B v:=by unfold wE at *;rw[h];exact hs
set_option maxHeartbeats 1600000 in
theorem vI{w:World}{Im:Nat->Nat->Prop}{A B:AV}{cs:List Value}(h1:∀l,A≠.ag l)(h2:∀t x,A≠.uV t x)(h3:∀s l t,A≠.sl s l t)(h:IC A B)(hr:Rd w Im A cs):Rd w Im B cs:=by
 cases A with
 |ag l=>exact absurd rfl (h1 l)
 |uV t x=>exact absurd rfl (h2 t x)
 |sl s l t=>exact absurd rfl (h3 s l t)
 | qW =>
   cases B with
   | sl s' l' t' =>
     cases t' with
     |no=>simp only[IC]at h;subst h;simp only[Rd]at hr ⊢;exact⟨by simp[maxL],.inl ⟨trivial,hr⟩⟩
     |full=>simp only[IC]at h;cases h
     |own k=>simp only[IC]at h;cases h
   |qW=>exact hr
   |_=>simp only[IC]at h;cases h
 | tt =>
   cases B <;> simp only[IC]at h <;> first
    |exact hr
    |(subst h;exact hr)
    |(cases h;done)
    |(simp only[Rd]at hr ⊢;exact⟨true,hr,by simpa using h⟩)
 | ff =>
   cases B <;> simp only[IC]at h <;> first
    |exact hr
    |(subst h;exact hr)
    |(cases h;done)
    |(simp only[Rd]at hr ⊢;exact⟨false,hr,by simpa using h⟩)
 | bool x =>
   cases B <;> simp only[IC]at h <;> first
    |(subst h;exact hr)
    |(cases h;done)
    |(simp only[Rd]at hr ⊢;exact⟨x,hr,h⟩)
 | dec p =>
   cases B with
   |bool b =>simp only[IC]at h;simp only[Rd]at hr ⊢;obtain⟨b',h1,h2⟩:=hr;rw[h1,jl.2 (h2.trans h)]
   |dec q =>simp only[IC]at h;simp only[Rd]at hr ⊢;obtain⟨b',h1,h2⟩:=hr;exact⟨b',h1,h2.trans h⟩
   |tt =>simp only[IC]at h;simp only[Rd]at hr ⊢;obtain⟨b',h1,h2⟩:=hr;rw[h1,h2.2 h]
   | ff =>
     simp only[IC]at h;simp only[Rd]at hr ⊢;obtain⟨b',h1,h2⟩:=hr;cases b' with
     |true=>exact absurd (h2.1 rfl) h
     |false=>exact h1
   |_=>simp only[IC]at h;cases h
 | int k n =>
   cases B with
   |int k' n'=>simp only[IC]at h;obtain⟨rfl,rfl⟩:=h;exact hr
   |_=>simp only[IC]at h;cases h
 | str k =>
   cases B with
   |str k'=>simp only[IC]at h;subst h;exact hr
   |_=>simp only[IC]at h;cases h
 |_=>cases B <;> simp only[IC]at h <;> first|exact hr|(cases h;exact hr)|(cases h;done)
mutual
theorem WR{w:World}{Im:Nat->Nat->Prop}:∀(A B:AV) (cs:List Value),IC A B->Rd w Im A cs->Rd w Im B cs
 | .ag l,B,cs,h,hr=>by
   cases B with
   |ag m =>simp only[IC]at h;simp only[Rd]at hr ⊢;exact a2u l m cs h hr
   |_=>simp only[IC]at h;cases h
 | .uV t x,B,cs,h,hr=>by
   cases B with
   |uV t' y =>simp only[IC]at h;simp only[Rd]at hr ⊢;obtain⟨rfl,h⟩:=h;obtain⟨v,h1,h2,h3⟩:=hr;exact⟨v,h1,Ze (a8V h) h2,WR x y _ h h3⟩
   |_=>simp only[IC]at h;cases h
 | .sl s l .full,B,cs,h,hr=>by simp only[Rd]at hr
 | .sl s l (.own k),B,cs,h,hr=>by simp only[Rd]at hr
 | .sl s l .no,B,cs,h,hr=>by
   cases B with
   | sl s' l' t' =>
     cases t' with
     |no =>simp only[IC]at h;obtain⟨rfl,h⟩:=h;have hl:=yQ h;simp only[Rd]at hr ⊢;rw[<- hl];refine⟨hr.1,hr.2.imp ?_ ?_⟩;{rintro⟨rfl,h2⟩;exact⟨bT (by simpa using hl.symm),h2⟩};rintro⟨a,cap,h1,h2,h3,h4,h5⟩;refine⟨a,cap,h1,h2,h3,λhne=>h4 λe=>hne ?_,a2v l l' _ _ _ h h5⟩;subst e;exact bT (by simpa using hl.symm)
     |full=>simp only[IC]at h;cases h
     |own k=>simp only[IC]at h;cases h
   |_=>simp only[IC]at h;cases h
 | .bool _,_,_,h,hr=>vI ak ak ak h hr
 | .tt,_,_,h,hr=>vI ak ak ak h hr
 | .ff,_,_,h,hr=>vI ak ak ak h hr
 | .dec _,_,_,h,hr=>vI ak ak ak h hr
 | .int _ _,_,_,h,hr=>vI ak ak ak h hr
 | .str _,_,_,h,hr=>vI ak ak ak h hr
 | .vJ,_,_,h,hr=>vI ak ak ak h hr
 | .qW,_,_,h,hr=>vI ak ak ak h hr
 | .ms _ _ _ _ _,_,_,h,hr=>vI ak ak ak h hr
 | .uf _,_,_,h,hr=>vI ak ak ak h hr
 | .ptr _ _ _,_,_,h,hr=>vI ak ak ak h hr
 | .cp _,_,_,h,hr=>vI ak ak ak h hr
 | .vW,_,_,h,hr=>vI ak ak ak h hr
 | .fn _ _,_,_,h,hr=>vI ak ak ak h hr
 | .ru,_,_,h,hr=>vI ak ak ak h hr
 | .mp _,_,_,h,hr=>vI ak ak ak h hr
 | .gs _ _,_,_,h,hr=>vI ak ak ak h hr
 | .bm _ _,_,_,h,hr=>vI ak ak ak h hr
 | .zq,_,_,h,hr=>vI ak ak ak h hr
 | .und,_,_,h,hr=>vI ak ak ak h hr
theorem a2u{w:World}{Im:Nat->Nat->Prop}:∀(l m:List AV) (cs:List Value),sS l m->DX w Im l cs->DX w Im m cs
 | [],[],_,_,hr=>hr
 | [],_::_,_,h,_=>by simp only[sS]at h
 |_::_,[],_,h,_=>by simp only[sS]at h
 |x::l,y::m,cs,h,hr=>by simp only[sS]at h;simp only[DX]at hr ⊢;obtain⟨a,d,h1,h2,h3⟩:=hr;exact⟨a,d,h1,WR x y a h.1 h2,a2u l m d h.2 h3⟩
theorem a2v{w:World}{Im:Nat->Nat->Prop}:∀(l m:List AV) (sz b off:Nat),sS l m->IV w Im sz b l off->IV w Im sz b m off
 | [],[],_,_,_,_,hr=>hr
 | [],_::_,_,_,_,h,_=>by simp only[sS]at h
 |_::_,[],_,_,_,h,_=>by simp only[sS]at h
 |x::l,y::m,sz,b,off,h,hr=>by simp only[sS]at h;simp only[IV]at hr ⊢;obtain⟨⟨a,h1,h2,h3⟩,h4⟩:=hr;exact⟨⟨a,h1,h2,WR x y a h.1 h3⟩,a2v l m sz b _ h.2 h4⟩
end
theorem MF{c:Cx}{sz:Nat}:∀{l m:List AV} {cs:List Value},sS l m->Pq c sz l cs->Pq c sz m cs
 | [],[],_,_,h=>h
 | [],_::_,_,h,_=>by simp only[sS]at h
 |_::_,[],_,h,_=>by simp only[sS]at h
 |x::l,y::m,cs,h,hr=>by simp only[sS]at h;obtain⟨a,d,h1,h2,h3,h4⟩:=hr;exact⟨a,d,h1,h2,WR x y _ h.1 h3,MF h.2 h4⟩
theorem a1e{w:World}{Im:Nat->Nat->Prop}{s:Nat}{l m:List AV}{cs:List Value}(h:sS l m)(hr:Rd w Im (.sl s l .no) cs):Rd w Im (.sl s m .no) cs :=
 WR _ _ _ (by simp only[IC];exact⟨trivial,h⟩) hr
set_option maxHeartbeats 1600000 in
theorem vg{c:Cx}{A B:AV}{cs:List Value}(hA:uz A=false)(hI:∀t x,A≠.uV t x)(h:le0 A B)(hr:VR c A cs):VR c B cs/\uz B=false:=by
 cases A with
 |ag l=>cases hA
 |uV t x=>exact absurd rfl (hI t x)
 | sl s l t =>
   cases B with
   | sl s' l' t' =>
     cases t' with
     | no =>
       have h':s=s'/\sS l l':=by cases t <;> simpa only[le0]using h
       obtain⟨e,h'⟩:=h';exact⟨by simp only[VR];exact e ▸ a1e h' (b5V hr),rfl⟩
     | full =>
       cases t with
       |full =>simp only[le0]at h;obtain⟨rfl,h⟩:=h;simp only[VR]at hr ⊢;exact⟨⟨a1e h hr.1,by rw[<- yQ h];exact hr.2⟩,rfl⟩
       |_=>simp only[le0]at h;cases h
     | own k' =>
       cases t with
       |own k =>simp only[le0]at h;obtain⟨rfl,h,rfl⟩:=h;simp only[VR]at hr ⊢;exact⟨⟨hr.1,a1e h hr.2.1,by rw[<- yQ h];exact hr.2.2⟩,rfl⟩
       |_=>simp only[le0]at h;cases h
   |_=>cases t <;> simp only[le0]at h <;> cases h
 | qW =>
   cases B with
   | sl s' l' t' =>
     cases t' with
     |no=>simp only[le0]at h;subst h;exact⟨by simp only[VR];exact a5B hr,rfl⟩
     |full =>simp only[le0]at h;subst h;refine⟨?_,rfl⟩;simp only[VR];refine⟨a5B hr,none,?_⟩;simp only[VR,Rd]at hr;simpa using hr
     |own k=>simp only[le0]at h;cases h
   |qW=>exact⟨hr,rfl⟩
   |_=>simp only[le0]at h;cases h
 | tt =>
   cases B <;> simp only[le0]at h <;> first
    |exact⟨hr,rfl⟩
    |(subst h;exact⟨hr,rfl⟩)
    |(cases h;done)
    |(refine⟨?_,rfl⟩;simp only[VR,Rd]at hr ⊢;exact⟨true,hr,by simpa using h⟩)
 | ff =>
   cases B <;> simp only[le0]at h <;> first
    |exact⟨hr,rfl⟩
    |(subst h;exact⟨hr,rfl⟩)
    |(cases h;done)
    |(refine⟨?_,rfl⟩;simp only[VR,Rd]at hr ⊢;exact⟨false,hr,by simpa using h⟩)
 | bool x =>
   cases B <;> simp only[le0]at h <;> first
    |(subst h;exact⟨hr,rfl⟩)
    |(cases h;done)
    |(refine⟨?_,rfl⟩;simp only[VR,Rd]at hr ⊢;exact⟨x,hr,h⟩)
 | dec p =>
   cases B with
   |bool b =>simp only[le0]at h;simp only[VR,Rd]at hr ⊢;obtain⟨b',h1,h2⟩:=hr;refine⟨?_,rfl⟩;rw[h1,jl.2 (h2.trans h)]
   |dec q =>simp only[le0]at h;simp only[VR,Rd]at hr ⊢;obtain⟨b',h1,h2⟩:=hr;exact⟨⟨b',h1,h2.trans h⟩,rfl⟩
   |tt =>simp only[le0]at h;simp only[VR,Rd]at hr ⊢;obtain⟨b',h1,h2⟩:=hr;exact⟨by rw[h1,h2.2 h],rfl⟩
   | ff =>
     simp only[le0]at h;simp only[VR,Rd]at hr ⊢;obtain⟨b',h1,h2⟩:=hr;refine⟨?_,rfl⟩;cases b' with
     |true=>exact absurd (h2.1 rfl) h
     |false=>exact h1
   |_=>simp only[le0]at h;cases h
 | int k n =>
   cases B with
   |int k' n'=>simp only[le0]at h;obtain⟨rfl,rfl⟩:=h;exact⟨hr,rfl⟩
   |_=>simp only[le0]at h;cases h
 | str k =>
   cases B with
   |str k'=>simp only[le0]at h;subst h;exact⟨hr,rfl⟩
   |_=>simp only[le0]at h;cases h
 |_=>cases B <;> simp only[le0]at h <;> first|exact⟨hr,rfl⟩|(cases h;exact⟨hr,rfl⟩)|(cases h;done)
mutual
theorem WU{c:Cx}:∀(A B:AV) (cs:List Value),le0 A B->VR c A cs->VR c B cs/\uz B=uz A
 | .ag l,B,cs,h,hr=>by
   cases B with
   |ag m =>simp only[le0]at h;simp only[VR]at hr ⊢;exact⟨a5Q l m cs h hr,rfl⟩
   |_=>simp only[le0]at h;cases h
 | .bool _,_,_,h,hr=>vg rfl ak h hr
 | .tt,_,_,h,hr=>vg rfl ak h hr
 | .ff,_,_,h,hr=>vg rfl ak h hr
 | .dec _,_,_,h,hr=>vg rfl ak h hr
 | .int _ _,_,_,h,hr=>vg rfl ak h hr
 | .str _,_,_,h,hr=>vg rfl ak h hr
 | .vJ,_,_,h,hr=>vg rfl ak h hr
 | .uV t x,B,cs,h,hr=>by
   cases B with
   |uV t' y =>simp only[le0]at h;simp only[VR]at hr ⊢;obtain⟨rfl,h⟩:=h;obtain⟨v,h1,h2,h3⟩:=hr;exact⟨⟨v,h1,Ze (a8W h) h2,(WU x y _ h h3).1⟩,rfl⟩
   |_=>simp only[le0]at h;cases h
 | .qW,_,_,h,hr=>vg rfl ak h hr
 | .sl _ _ _,_,_,h,hr=>vg rfl ak h hr
 | .ms _ _ _ _ _,_,_,h,hr=>vg rfl ak h hr
 | .uf _,_,_,h,hr=>vg rfl ak h hr
 | .ptr _ _ _,_,_,h,hr=>vg rfl ak h hr
 | .cp _,_,_,h,hr=>vg rfl ak h hr
 | .vW,_,_,h,hr=>vg rfl ak h hr
 | .fn _ _,_,_,h,hr=>vg rfl ak h hr
 | .ru,_,_,h,hr=>vg rfl ak h hr
 | .mp _,_,_,h,hr=>vg rfl ak h hr
 | .gs _ _,_,_,h,hr=>vg rfl ak h hr
 | .bm _ _,_,_,h,hr=>vg rfl ak h hr
 | .zq,_,_,h,hr=>vg rfl ak h hr
 | .und,_,_,h,hr=>vg rfl ak h hr
theorem a5Q{c:Cx}:∀(l m:List AV) (cs:List Value),Ll l m->Ea c l cs->Ea c m cs
 | [],[],_,_,hr=>hr
 | [],_::_,_,h,_=>by simp only[Ll]at h
 |_::_,[],_,h,_=>by simp only[Ll]at h
 |x::l,y::m,cs,h,hr=>by simp only[Ll]at h;simp only[Ea]at hr ⊢;obtain⟨a,d,h1,h2,h3⟩:=hr;exact⟨a,d,h1,(WU x y a h.1 h2).1,a5Q l m d h.2 h3⟩
end
theorem RS{c:Cx}{A B:AV}{v:Value}(h:le0 A B)(hv:VV c A v):VV c B v:=by obtain⟨h1,h2⟩:=WU A B _ h hv.2;exact⟨⟨λhb=>hv.1.1 (by rw[<- h2];exact hb),λhb=>hv.1.2 (by rw[<- h2];exact hb)⟩,h1⟩
theorem b0G{c:Cx}:∀{l m:List AV} {vs:List Value},Ll l m->VA c l vs->VA c m vs
 | [],[],_,_,hr=>hr
 | [],_::_,_,h,_=>by simp only[Ll]at h
 |_::_,[],_,h,_=>by simp only[Ll]at h
 |x::l,y::m,vs,h,hr=>by simp only[Ll]at h;simp only[VA]at hr ⊢;obtain⟨v,r,h1,h2,h3,h4⟩:=hr;have:=RS h.1 ⟨h2,h3⟩;exact⟨v,r,h1,this.1,this.2,b0G h.2 h4⟩
theorem b1Y{c:Cx}{A B:AV}{v:Value}(h:le A B)(hv:EV c A v):EV c B v:=by
 cases A with
 | uf l =>
   cases B with
   |und=>trivial
   |uf m =>obtain⟨vs,h1,h2⟩:=hv;exact⟨vs,h1,b0G h h2⟩
   |_=>simp only[le,le0]at h;cases h
 | und =>
   cases B with
   |und=>trivial
   |_=>simp only[le,le0]at h;cases h
 | _ =>
   have hv:VV c _ v:=hv;cases B with
   |und=>trivial
   |_=>exact rZ (RS h hv)
def Cx.cut(c:Cx)(G:Heap):Cx:={ c with nx:=nextId G,tp:=ug G }
mutual
theorem Yf{c:Cx}{G:Heap}(htp:∀k n,ug G k=some n->c.tp k=some n):∀(A:AV) (cs:List Value),tq (nextId G) A=true->VR c A cs->VR (c.cut G) A cs
 | .bool _,_,_,hr=>by simp only[VR]at hr ⊢;exact hr
 | .tt,_,_,hr=>by simp only[VR]at hr ⊢;exact hr
 | .ff,_,_,hr=>by simp only[VR]at hr ⊢;exact hr
 | .dec _,_,_,hr=>by simp only[VR]at hr ⊢;exact hr
 | .int _ _,_,_,hr=>by simp only[VR]at hr ⊢;exact hr
 | .str _,_,_,hr=>by simp only[VR]at hr ⊢;exact hr
 | .vJ,_,_,hr=>by simp only[VR]at hr ⊢;exact hr
 | .uV t x,cs,hb,hr=>by simp only[VR]at hr ⊢;obtain⟨v,h1,h2,h3⟩:=hr;exact⟨v,h1,h2,Yf htp x _ (by simpa only[tq]using hb) h3⟩
 | .qW,_,_,hr=>by simp only[VR]at hr ⊢;exact hr
 | .sl _ _ .no,_,_,hr=>by simp only[VR]at hr ⊢;exact hr
 | .sl _ _ .full,_,_,hr=>by simp only[VR]at hr ⊢;exact hr
 | .sl sz l (.own k),cs,hb,hr=>by simp only[VR]at hr ⊢;obtain⟨h1,h2,h3⟩:=hr;simp only[tq]at hb;exact⟨bI hb,h2,λn hn=>h3 n (htp k n hn)⟩
 | .ms k _ _ _ _,_,hb,hr=>by simp only[VR]at hr ⊢;simp only[tq]at hb;exact⟨bI hb,hr.2⟩
 | .ag l,cs,hb,hr=>by simp only[VR]at hr ⊢;exact a7Q htp l cs (by simpa only[tq]using hb) hr
 | .uf _,_,_,hr=>by simp only[VR]at hr ⊢;exact hr
 | .ptr k _ _,_,hb,hr=>by simp only[VR]at hr ⊢;simp only[tq]at hb;exact⟨bI hb,hr.2⟩
 | .cp x,cs,_,hr=>by simp only[VR]at hr ⊢;exact hr
 | .vW,_,_,hr=>by simp only[VR]at hr ⊢;exact hr
 | .fn f cap,cs,hb,hr=>by simp only[VR]at hr ⊢;obtain⟨vs,h1,h2⟩:=hr;exact⟨vs,h1,a7V htp cap vs (by simpa only[tq]using hb) h2⟩
 | .ru,_,_,hr=>by simp only[VR]at hr ⊢;exact hr
 | .mp k,_,hb,hr=>by simp only[VR]at hr ⊢;simp only[tq]at hb;exact⟨bI hb,hr.2⟩
 | .bm f k,_,hb,hr=>by simp only[VR]at hr ⊢;simp only[tq]at hb;exact⟨bI hb,hr.2⟩
 | .gs k len,_,hb,hr=>by simp only[VR]at hr ⊢;simp only[tq]at hb;exact⟨bI hb,hr.2.1,λn hn=>hr.2.2 n (htp k n hn)⟩
 | .zq,_,_,hr=>by simp only[VR]at hr ⊢;exact hr
 | .und,_,_,hr=>by simp only[VR]at hr ⊢;exact hr
theorem a7Q{c:Cx}{G:Heap}(htp:∀k n,ug G k=some n->c.tp k=some n):∀(l:List AV) (cs:List Value),vT (nextId G) l=true->Ea c l cs->Ea (c.cut G) l cs
 | [],_,_,hr=>by simpa only[Ea]using hr
 | x::l,cs,hb,hr=>by
   simp only[Ea]at hr ⊢;simp only[vT]at hb;obtain⟨a,e,h1,h2,h3⟩:=hr;cases hx:tq (nextId G) x with
   |false=>rw[hx]at hb;cases hb
   |true=>rw[hx]at hb;exact⟨a,e,h1,Yf htp x _ hx h2,a7Q htp l _ hb h3⟩
theorem a7V{c:Cx}{G:Heap}(htp:∀k n,ug G k=some n->c.tp k=some n):∀(l:List AV) (vs:List Value),vT (nextId G) l=true->VA c l vs->VA (c.cut G) l vs
 | [],_,_,hr=>by simpa only[VA]using hr
 | x::l,vs,hb,hr=>by
   simp only[VA]at hr ⊢;simp only[vT]at hb;obtain⟨v,r,h1,h2,h3,h4⟩:=hr;cases hx:tq (nextId G) x with
   |false=>rw[hx]at hb;cases hb
   |true=>rw[hx]at hb;exact⟨v,r,h1,h2,Yf htp x _ hx h3,a7V htp l _ hb h4⟩
end
theorem Yd{c:Cx}{G:Heap}(htp:∀k n,ug G k=some n->c.tp k=some n){A:AV}{v:Value}(hb:tq (nextId G) A=true)(h:VV c A v):VV (c.cut G) A v:=⟨h.1,Yf htp _ _ hb h.2⟩
theorem Tc{c:Cx}{G:Heap}(htp:∀k n,ug G k=some n->c.tp k=some n){A:AV}{v:Value}(hb:tq (nextId G) A=true)(h:EV c A v):EV (c.cut G) A v:=by
 cases A <;> first
  |exact Yd htp hb h
  |trivial
  |(obtain⟨vs,h1,h2⟩:=h;exact⟨vs,h1,a7V htp _ _ (by simpa only[tq]using hb) h2⟩)
theorem a7O{c:Cx}{G:Heap}(htp:∀k n,ug G k=some n->c.tp k=some n):∀{l:List (AV×AV)} {es:List MapEntry},EZ (nextId G) l=true->Py c l es->Py (c.cut G) l es
 | [],_,_,hr=>hr
 | (x,y)::l,es,hb,hr=>by
   obtain⟨e,r,h1,h2,h3,h4⟩:=hr;simp only[EZ]at hb;cases hx:tq (nextId G) x with
   |false=>rw[hx]at hb;cases hb
   | true =>
     cases hy:tq (nextId G) y with
     |false=>rw[hx,hy]at hb;cases hb
     |true=>rw[hx,hy]at hb;exact⟨e,r,h1,Yd htp hx h2,Yd htp hy h3,a7O htp hb h4⟩
theorem Ve{H:Heap}{n:Nat}:∀{G:Heap},WkH H n G->∀k o,(k,o)∈G->∃o',hget H k=some o'/\leO o' o/\(match o with | .tN _ es=>EZ n es=true|o=>Uz n o=true)
 | [],_,_,_,hm=>by simp at hm
 |(i,x)::G,h,k,o,hm=>by simp only[WkH]at h;rcases aT.1 hm with hm|hm;{simp at hm;obtain⟨rfl,rfl⟩:=hm;obtain⟨o',h1,h2⟩:=uh.1 h.1;exact⟨o',h1,h2⟩};exact Ve h.2 k o hm
theorem a1f{o:HO}{s n:Nat}(h:leO o (.tok s n)):o=.tok s n:=by cases o <;> simp only[leO]at h;obtain⟨rfl,rfl⟩:=h;rfl
theorem a2w{o:HO}{s:Nat}{l:List AV}(h:leO o (.uD s l)):∃l',o=.uD s l'/\sS l' l:=by cases o <;> simp only[leO]at h;obtain⟨rfl,h⟩:=h;exact⟨_,rfl,h⟩
theorem b3K.tp{H G:Heap}(h:b3K H G):∀k n,ug G k=some n->ug H k=some n:=by
 intro k n hn;unfold ug at hn ⊢;cases hg:hget G k with
 |none=>simp[hg]at hn
 |some o =>rw[hg]at hn;obtain⟨o',h1,h2,_⟩:=Ve h.get k _ (wS hg);cases o <;> simp at hn;{subst hn;obtain rfl:=a1f h2;rw[h1]};subst hn;obtain⟨l',rfl,h3⟩:=a2w h2;rw[h1];simp[yQ h3]
theorem a5P{c d:Cx}{k:Nat}{o' o:HO}(hρ:d.ρ=c.ρ)(ht:d.tk=c.tk)(h:leO o' o){b:Nat}(hb:qZ d (k,o)=some b):qZ c (k,o')=some b:=by
 cases o with
 |gone=>simp[qZ]at hb
 |glob _ _=>simp[qZ]at hb
 |tok s n =>obtain rfl:=a1f h;simp only[qZ,ht]at hb ⊢;exact hb
 |_=>cases o' <;> simp only[leO]at h <;> simp only[qZ,hρ,ht]at hb ⊢ <;> exact hb
theorem a1g{c:Cx}:∀{l m:List (AV×AV)} {es:List MapEntry},leM l m->Py c l es->Py c m es
 | [],[],_,_,h=>h
 | [],_::_,_,h,_=>by simp only[leM]at h
 |_::_,[],_,h,_=>by simp only[leM]at h
 |(x,v)::l,(y,u)::m,es,h,hr=>by simp only[leM]at h;obtain⟨rfl,h1,h2⟩:=h;obtain⟨e,r,g1,g2,g3,g4⟩:=hr;exact⟨e,r,g1,g2,RS h1 g3,a1g h2 g4⟩
theorem a1h{sh:AV}:∀{l m:List (AV×AV)},leM l m->KSh sh l->KSh sh m
 | [],[],_,h=>h
 | [],_::_,h,_=>by simp only[leM]at h
 |_::_,[],h,_=>by simp only[leM]at h
 |(x,v)::l,(y,u)::m,h,hr=>by simp only[leM]at h;obtain⟨rfl,h1,h2⟩:=h;exact⟨hr.1,a1h h2 hr.2⟩
theorem Tr.cut{c0 c:Cx}{H0 H G:Heap}(htr:Tr c0 H0 c H)(hw:b3K H G)(hn:c0.nx<=nextId G):Tr c0 H0 (c.cut G) G:=by
 have htp:∀k n,ug G k=some n->c.tp k=some n:=λk n h=>(by rw[htr.hr.tp];exact hw.tp k n h);have hmem:∀x∈G,∃o',(x.1,o')∈H/\leO o' x.2/\∀b,qZ (c.cut G) x=some b->qZ c (x.1,o')=some b:=(by rintro⟨k,o⟩ hx;obtain⟨o',h1,h2,_⟩:=Ve hw.get k o hx;exact⟨o',wS h1,h2,λb hb=>a5P (d:=c.cut G) rfl rfl h2 hb⟩);refine⟨⟨rfl,rfl,hw.ids,htr.hr.im,?_,?_⟩,⟨htr.le.im,hn,htr.le.ρ,λk n hk h=>htr.le.tk k n hk (htp k n h)⟩,htr.os,htr.tape,htr.output,htr.size,htr.fr,?_,htr.imb⟩
 ·rintro⟨k,o⟩ hx;obtain⟨o',h1,h2,h3⟩:=Ve hw.get k o hx;have hok:=htr.hr.EL h1;by_cases W9:o=.gone;{subst W9;trivial};cases o' <;> cases o <;> simp only[leO]at h2 <;> first|exact absurd rfl W9|skip
  ·obtain⟨cs,ty,g1,g2,g3⟩:=hok;simp only[Uz]at h3;exact⟨cs,ty,g1,Yf htp _ _ h3 (WU _ _ _ h2 g2).1,g3⟩
  ·obtain⟨rfl,rfl,h2⟩:=h2;obtain⟨cs,ty,g1,g2,g3,g4,g5,g6⟩:=hok;have hv:∀{sz:Nat} {l:List AV} {cs:List Value},Pq c sz l cs->Pq (c.cut G) sz l cs:=by
    intro sz l;induction l with
    |nil=>intros;trivial
    |cons x l ih=>rintro cs ⟨a,d,h1,h2,h3,h4⟩;exact⟨a,d,h1,h2,h3,ih h4⟩
   exact⟨cs,ty,g1,g2,by rw[<- yQ h2];exact g3,g4,hv (MF h2 g5),g6⟩
  ·obtain⟨rfl,rfl⟩:=h2;exact hok
  ·obtain⟨rfl,h2⟩:=h2;obtain⟨ents,clock,g1,g2,g3,g4⟩:=hok;exact⟨ents,clock,g1,a7O htp h3 (a1g h2 g2),a1h h2 g3,g4⟩
  ·obtain⟨rfl,h2⟩:=h2;have hv:∀{sz:Nat} {l:List AV} {cs:List Value},Pq c sz l cs->Pq (c.cut G) sz l cs:=by
    intro sz l;induction l with
    |nil=>intros;trivial
    |cons x l ih=>rintro cs ⟨a,d,h1,h2,h3,h4⟩;exact⟨a,d,h1,h2,h3,ih h4⟩
   have hl:=yQ h2;rcases hok with⟨g1,g2,g3⟩|⟨b,cs,ty,g1,g2,g3,g4,g5,g6,g7⟩;{subst g3;exact .inl ⟨g1,g2,jP.1 (by rw[<- hl];rfl)⟩};exact .inr ⟨b,cs,ty,g1,g2,g3,by rw[<- hl];exact g4,g5,hv (MF h2 g6),g7⟩
  obtain⟨rfl,rfl⟩:=h2;exact hok
 ·refine wH hw.ids λx hx y hy hne b hb hb'=>?_;obtain⟨o1,h1,_,e1⟩:=hmem x hx;obtain⟨o2,h2,_,e2⟩:=hmem y hy;exact htr.hr.apart' h1 h2 hne (e1 b hb) (e2 b hb')
 intro y hy b hb;obtain⟨o1,h1,_,e1⟩:=hmem y hy;exact htr.own _ h1 b (e1 b hb)
theorem a7K{e:Env}{n:Nat}:∀{E:Env},WkE e n E->∀t A,(t,A)∈E->∃A',uY e t=some A'/\le A' A/\tq n A=true
 | [],_,_,_,hm=>by simp at hm
 |(i,x)::E,h,t,A,hm=>by simp only[WkE]at h;rcases aT.1 hm with hm|hm;{simp at hm;obtain⟨rfl,rfl⟩:=hm;obtain⟨A',h1,h2⟩:=yB.1 h.1;exact⟨A',h1,h2⟩};exact a7K h.2 t A hm
theorem Qq:∀{e:Env} {t:Nat} {A:AV},uY e t=some A->(t,A)∈e
 | [],_,_,h=>by simp[uY]at h
 | (i,x)::e,t,A,h=>by
   simp only[uY]at h;cases hb:Nat.beq i t with
   |true =>rw[hb]at h;obtain rfl:=aK hb;simp at h;subst h;simp
   |false=>rw[hb]at h;exact dh _ (Qq h)
theorem QW{c:Cx}{e E:Env}{G H:Heap}{a:Act}(he:xR c e a)(hr:HR c H)(hw:b3K H G)(h:WkE e (nextId G) E):∀t A,(t,A)∈E->EV (c.cut G) A (a.tmps.getD t undef):=by intro t A hm;obtain⟨A',h1,h2,h3⟩:=a7K h t A hm;exact Tc (λk n hn=>by rw[hr.tp];exact hw.tp k n hn) h3 (b1Y h2 (he t A' h1))
mutual
theorem Lh:∀(A:AV),IC A A
 | .bool _ | .tt | .ff | .dec _ | .str _ | .vJ | .qW | .ms _ _ _ _ _ | .uf _ | .ptr _ _ _ | .cp _ | .vW | .fn _ _ | .ru | .mp _ | .gs _ _ | .bm _ _ | .zq | .und=>by simp[IC]
 | .uV t x=>⟨rfl,Lh x⟩
 | .int _ _=>⟨rfl,rfl⟩
 | .sl _ l .no=>⟨rfl,qU l⟩
 | .sl _ l .full=>by simp[IC]
 | .sl _ l (.own _)=>by simp[IC]
 | .ag l=>qU l
theorem qU:∀(l:List AV),sS l l
 | []=>trivial
 |x::l=>⟨Lh x,qU l⟩
end
mutual
theorem tV:∀(A:AV),le0 A A
 | .bool _ | .tt | .ff | .dec _ | .str _ | .vJ | .qW | .ms _ _ _ _ _ | .uf _ | .ptr _ _ _ | .cp _ | .vW | .fn _ _ | .ru | .mp _ | .gs _ _ | .bm _ _ | .zq | .und=>by simp[le0]
 | .uV t x=>⟨rfl,tV x⟩
 | .int _ _=>⟨rfl,rfl⟩
 | .sl _ l .no=>⟨rfl,qU l⟩
 | .sl _ l .full=>⟨rfl,qU l⟩
 | .sl _ l (.own _)=>⟨rfl,qU l,rfl⟩
 | .ag l=>rM l
theorem rM:∀(l:List AV),Ll l l
 | []=>trivial
 |x::l=>⟨tV x,rM l⟩
end
theorem le_refl(A:AV):le A A:=by cases A <;> first|exact tV _|exact rM _|trivial
mutual
theorem MB{c:Cx}:∀(A:AV) (cs:List Value),VR c A cs->tq c.nx A=true
 | .bool _,_,_ | .tt,_,_ | .ff,_,_ | .dec _,_,_ | .int _ _,_,_ | .str _,_,_ | .vJ,_,_ | .qW,_,_ | .cp _,_,_ | .vW,_,_ | .ru,_,_ | .zq,_,_ | .und,_,_
 | .sl _ _ .no,_,_ | .sl _ _ .full,_,_=>rfl
 | .uf _,_,h=>by simp only[VR,Rd]at h
 | .uV t x,_,h=>by simp only[VR]at h;obtain⟨v,_,_,h3⟩:=h;exact MB x _ h3
 | .sl _ _ (.own k),_,h=>by simp only[VR]at h;simpa[tq]using h.1
 | .ms _ _ _ _ _,_,h=>by simp only[VR]at h;simpa[tq]using h.1
 | .ptr _ _ _,_,h=>by simp only[VR]at h;simpa[tq]using h.1
 | .mp _,_,h=>by simp only[VR]at h;simpa[tq]using h.1
 | .gs _ _,_,h=>by simp only[VR]at h;simpa[tq]using h.1
 | .bm _ _,_,h=>by simp only[VR]at h;simpa[tq]using h.1
 | .ag l,_,h=>by simp only[VR]at h;exact a7R l _ h
 | .fn _ cap,_,h=>by simp only[VR]at h;obtain⟨vs,_,h2⟩:=h;exact b1c cap _ h2
theorem a7R{c:Cx}:∀(l:List AV) (cs:List Value),Ea c l cs->vT c.nx l=true
 | [],_,_=>rfl
 |x::l,_,h=>by simp only[Ea]at h;obtain⟨a,d,_,h2,h3⟩:=h;simp only[vT,MB x _ h2,a7R l _ h3]
theorem b1c{c:Cx}:∀(l:List AV) (vs:List Value),VA c l vs->vT c.nx l=true
 | [],_,_=>rfl
 |x::l,_,h=>by simp only[VA]at h;obtain⟨v,r,_,_,h2,h3⟩:=h;simp only[vT,MB x _ h2,b1c l _ h3]
end
theorem Vh{c:Cx}:∀{l:List (AV×AV)} {es:List MapEntry},Py c l es->EZ c.nx l=true
 | [],_,_=>rfl
 |(x,y)::l,_,h=>by obtain⟨e,r,_,h2,h3,h4⟩:=h;simp only[EZ,MB x _ h2.2,MB y _ h3.2,Vh h4]
theorem a3t{H:Heap}{n:Nat}:∀{G:Heap},(∀k o,(k,o)∈G->∃o',hget H k=some o'/\leO o' o/\(match o with | .tN _ es=>EZ n es=true|o=>Uz n o=true))->WkH H n G
 | [],_=>trivial
 |(i,x)::G,h=>⟨uh.2 (h i x ak),a3t λk o hm=>h k o (by simp[hm])⟩
theorem qO:∀(l:List (AV×AV)),leM l l
 | []=>trivial
 |(_,y)::l=>⟨rfl,tV y,qO l⟩
theorem Qc(o:HO):leO o o:=by
 cases o with
 |box A=>exact tV A
 |arr=>exact⟨rfl,rfl,qU _⟩
 |tok=>exact⟨rfl,rfl⟩
 |tN=>exact⟨rfl,qO _⟩
 |uD=>exact⟨rfl,qU _⟩
 |glob=>exact⟨rfl,rfl⟩
 |gone=>trivial
theorem HWk.to0{c:Cx}{H G:Heap}(h:HWk H G)(hr:HR c H):b3K H G:=by
 cases h with
 |mk h1 h2=>exact⟨h1,h2⟩
 | refl h =>
   subst h;refine⟨a3t λk o hm=>?_,hr.ids⟩;have hok:=hr.ok _ hm;refine⟨o,EN hr.ids hm,Qc o,?_⟩;rw[<- hr.nx];cases o with
   |box A=>obtain⟨cs,ty,_,h2,_⟩:=hok;exact MB _ _ h2
   |tN sh es=>obtain⟨ents,clock,_,h2,_⟩:=hok;exact Vh h2
   |_=>rfl
end Go.AL