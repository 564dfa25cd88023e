/-
  A logic for calls of Go functions: values, weakening. Nothing is assumed.
-/
import Derived.Calls
import Derived.Laws.Sem
import Derived.Laws.World
import Derived.Defers
import Derived.Maps.Keyed
import Derived.Laws.AppendOwn
import Derived.Laws.MakeOwn
namespace Go.AL
theorem aj{p:Prop}(h:p:=by omega):p:=h
theorem ak{p:Prop}(h:p:=by simp):p:=h
theorem au{p:Prop}(h:p:=by decide):p:=h
theorem ay{p:Prop}(h:p:=by decide +kernel):p:=h
theorem aA{p:Prop}(h:p:=by simp;omega):p:=h
abbrev aB:=@if_neg
abbrev aC:=@List.length_map
abbrev aF:=@List.getD_eq_getElem?_getD
abbrev aG:=@if_pos
abbrev aH:=@List.getElem?_eq_getElem
abbrev aJ:=@Nat.eq_of_beq_eq_true
abbrev aK:=@Bool.and_eq_true
abbrev aN:=@List.getElem_mem
abbrev aO:=@Int.toNat_natCast
abbrev aP:=@Nat.zero_le
abbrev aQ:=@And.intro
abbrev aS:=@Classical.byContradiction
abbrev aT:=@Nat.le_refl
abbrev aU:=@List.mem_cons
abbrev aV:=@List.map_append
abbrev aW:=@Option.some.inj
abbrev aX:=@List.drop_eq_nil_of_le
abbrev aY:=@List.getElem?_eq_some_iff
abbrev aZ:=@List.drop_eq_getElem_cons
abbrev bf:=@List.take_of_length_le
abbrev bg:=@List.mem_map
abbrev bn:=@List.take_length
abbrev bC:=@List.length_append
abbrev bD:=@List.all_eq_true
abbrev bF:=@Nat.le_of_ble_eq_true
abbrev bG:=@Array.getElem?_toList
abbrev bH:=@Nat.zero_add
abbrev bI:=@List.getElem?_append_left
abbrev bJ:=@Array.length_toList
abbrev bK:=@List.append_assoc
abbrev bM:=@decide_eq_false
abbrev bP:=@List.mem_of_getElem?
abbrev bQ:=@List.eq_nil_of_length_eq_zero
abbrev bT:=@decide_eq_true_eq
abbrev bU:=@Nat.pow_succ
abbrev bV:=@List.take_succ_eq_append_getElem
abbrev bW:=@Nat.mul_le_mul_right
abbrev bZ:=@Nat.pow_le_pow_right
abbrev cZ:=@List.mem_cons_of_mem
abbrev dh:=@List.length_take
abbrev dn:=@Nat.mul_le_mul_left
abbrev dw:=@Nat.add_mul
abbrev dA:=@Nat.mul_assoc
abbrev dB:=@Nat.mul_add
abbrev dD:=@List.mem_cons_self
abbrev dF:=@List.map_cons
abbrev dG:=@Array.getElem?_eq_some_iff
abbrev dH:=@Array.getD_eq_getD_getElem?
abbrev dI:=@Nat.le_trans
abbrev dJ:=@Nat.mul_comm
abbrev dK:=@List.getElem?_append_right
abbrev dM:=@List.mem_append
abbrev dN:=@List.getElem_of_mem
abbrev dO:=@Bool.false_eq_true
abbrev dP:=@List.map_set
abbrev dQ:=@Int.le_refl
abbrev dR:=@Nat.add_zero
abbrev dS:=@List.getElem?_map
abbrev dU:=@Bool.not_eq_true'
abbrev dV:=@List.getElem?_cons_succ
abbrev dW:=@Nat.mod_eq_of_lt
abbrev dX:=@List.getElem?_cons_zero
abbrev dY:=@List.length_cons
abbrev dZ:=@List.mem_filter
abbrev eu:=@List.mem_append_left
abbrev eF:=@of_decide_eq_true
abbrev eG:=@List.take_add_one
abbrev eH:=@List.getElem?_replicate
abbrev eP:=@List.cons_append
abbrev eU:=@Nat.div_lt_iff_lt_mul
abbrev eX:=@List.getElem?_toArray
abbrev eY:=@List.pairwise_cons
abbrev fA:=@List.foldl_cons
abbrev fB:=@Array.getElem?_eq_getElem
abbrev fC:=@decide_eq_true
abbrev fD:=@Bool.false_or
abbrev fE:=@List.nil_append
abbrev fF:=@List.mem_replicate
abbrev fG:=@List.drop_zero
abbrev fH:=@List.take_append_drop
abbrev fJ:=@Int.toNat_of_nonneg
abbrev fO:=@List.pairwise_iff_getElem
abbrev fP:=@Bool.or_eq_true
abbrev fQ:=@List.nodup_append
abbrev fU:=@Nat.lt_of_lt_of_le
abbrev fV:=@Bool.not_true
abbrev fZ:=@Nat.mul_lt_mul_of_pos_right
abbrev gq:=@List.getElem?_eq_none
abbrev gu:=@Nat.mul_zero
abbrev gy:=@Nat.mod_lt
abbrev gB:=@List.any_eq_true
abbrev gG:=@Nat.pow_pos
abbrev gI:=@Nat.ble_eq_true_of_le
abbrev gJ:=@Nat.sub_self
abbrev gK:=@List.foldl_append
abbrev gQ:=@Nat.one_mul
abbrev gU:=@Nat.mul_le_mul
abbrev gV:=@BitVec.toNat_ofNat
abbrev gW:=@Nat.not_lt_zero
abbrev gX:=@List.map_take
abbrev gY:=@Int.natCast_add
abbrev gZ:=@List.map_map
abbrev iq:=@List.take_append_of_le_length
abbrev iw:=@List.length_filter_le
abbrev iy:=@List.mem_range
abbrev iC:=@List.getElem?_drop
abbrev iD:=@List.length_drop
abbrev iE:=@List.countP_cons
abbrev iF:=@Rat.mkRat_self
abbrev iG:=@Nat.lt_of_mul_lt_mul_right
abbrev iH:=@Nat.div_div_eq_div_mul
abbrev iI:=@Option.map_some
abbrev iJ:=@Option.map_none
abbrev iK:=@Nat.mul_one
abbrev iM:=@List.append_nil
abbrev iO:=@Array.getElem?_setIfInBounds_ne
abbrev iP:=@List.getLastD_eq_getLast?
abbrev iQ:=@List.getLast?_eq_getElem?
abbrev iT:=@List.length_mergeSort
abbrev iU:=@List.drop_length
abbrev iV:=@Array.getElem?_setIfInBounds_self_of_lt
abbrev iW:=@Nat.add_assoc
abbrev iY:=@Nat.pow_add
abbrev iZ:=@List.getElem?_set_ne
abbrev jc:=@Array.toArray_toList
abbrev jd:=@Nat.or_lt_two_pow
abbrev je:=@Nat.gcd_pos_of_pos_left
abbrev jf:=@Bool.eq_false_iff
abbrev jg:=@Nat.min_eq_left
abbrev jh:=@List.length_nil
abbrev ji:=@Nat.div_mul_le_self
abbrev jk:=@List.take_succ_cons
abbrev jl:=@List.length_pos_iff
abbrev jm:=@Iff.rfl
abbrev jo:=@Bool.true_and
abbrev jq:=@Bool.and_self
abbrev jr:=@List.mem_singleton
abbrev jv:=@List.getElem?_take
abbrev jw:=@Int.fdiv_eq_ediv_of_nonneg
abbrev jy:=@Bool.not_false
abbrev jA:=@List.length_singleton
abbrev jB:=@Go.MapKept.run_getObj_map
abbrev jC:=@Nat.two_pow_pos
abbrev jD:=@Nat.div_add_mod
abbrev jE:=@Bool.eq_iff_iff
abbrev jF:=@Nat.pow_lt_pow_right
abbrev jG:=@List.size_toArray
abbrev jH:=@Nat.div_eq_of_lt
abbrev jI:=@Nat.add_sub_cancel_left
abbrev jJ:=@List.length_eq_zero_iff
abbrev jK:=@of_decide_eq_false
abbrev jL:=@List.set_cons_succ
abbrev jM:=@List.map_replicate
abbrev jO:=@List.getElem_cons_zero
abbrev jP:=@Int.natCast_nonneg
abbrev jQ:=@Nat.mul_ne_zero
abbrev jR:=@Nat.mod_add_div
abbrev jS:=@Nat.div_le_self
abbrev jT:=@List.append_inj
abbrev jU:=@Nat.le_div_iff_mul_le
abbrev jV:=@List.mem_iff_getElem?
abbrev jW:=@List.mem_append_right
abbrev jX:=@List.length_replicate
abbrev jY:=@List.getElem?_set
abbrev jZ:=@List.any_eq_false
abbrev ku:=@Nat.add_mul_div_left
abbrev kC:=@List.take_zero
abbrev kD:=@List.mem_of_mem_take
abbrev kE:=@List.drop_drop
abbrev kF:=@List.getElem_map
abbrev kG:=@List.filter_cons
abbrev kH:=@Nat.add_mul_mod_self_left
abbrev kJ:=@List.mem_or_eq_of_mem_set
abbrev kK:=@Array.toList_filter
abbrev kL:=@List.getElem_append_left
abbrev kM:=@Nat.gcd_le_left
abbrev kN:=@Nat.lt_div_mul_add
abbrev kP:=@List.countP_append
abbrev kQ:=@Option.bind_eq_some_iff
abbrev kR:=@congrArg
abbrev kS:=@Nat.testBit_eq_decide_div_mod_eq
abbrev kT:=@Nat.mul_left_comm
abbrev kU:=@Nat.add_comm
abbrev kV:=@List.mapM_cons
abbrev kW:=@List.getElem_take
abbrev kX:=@Bool.and_false
abbrev kY:=@List.set_append_right
abbrev kZ:=@BitVec.eq_of_toNat_eq
abbrev lu:=@List.le_antisymm
abbrev lD:=@List.ext_getElem
abbrev lF:=@Bool.not_eq_true
abbrev lG:=@Nat.shiftLeft_add_eq_or_of_lt
abbrev lH:=@List.drop_append_of_le_length
abbrev lI:=@Nat.div_lt_self
abbrev lJ:=@List.nodup_cons
abbrev lK:=@Int.natCast_mul
abbrev lM:=@Nat.testBit_two_pow
abbrev lN:=@List.mem_map_of_mem
abbrev lQ:=@List.map_congr_left
abbrev lS:=@List.getElem?_range
abbrev lT:=@Nat.lt_or_ge
abbrev lU:=@decide_eq_true_iff
abbrev lV:=@UInt8.toNat_ofNat'
abbrev lW:=@Nat.mul_lt_mul_of_le_of_lt
abbrev lX:=@List.filter_append
abbrev lY:=@Int.natAbs_mul
abbrev lZ:=@List.getElem_append_right
abbrev l7:=@List.getElem?_zip_eq_some
abbrev mg:=@Option.some.injEq
abbrev mD:=@Nat.lt_trichotomy
abbrev mF:=@Nat.le_succ
abbrev mG:=@Array.toList_push
abbrev mJ:=@Prod.mk.injEq
abbrev mM:=@List.sum_cons
abbrev mO:=@List.map_drop
abbrev mP:=@Option.getD_some
abbrev mQ:=@Array.toList_map
abbrev mV:=@Nat.testBit_lt_two_pow
abbrev mW:=@Nat.sub_le
abbrev mX:=@Nat.pow_zero
abbrev mY:=@Nat.gcd_comm
abbrev mZ:=@List.getElem_cons_succ
abbrev ng:=@List.range_succ
abbrev ni:=@List.length_set
abbrev nC:=@Nat.mul_mod_mul_right
abbrev nD:=@List.getElem_set_self
abbrev nG:=@List.pairwise_append
abbrev nH:=@List.mem_of_mem_drop
abbrev nI:=@List.toList_toArray
abbrev nJ:=@List.replicate_succ
abbrev nK:=@List.mergeSort_perm
abbrev nM:=@List.drop_succ_cons
abbrev nN:=@List.cons.inj
abbrev nO:=@List.all_cons
abbrev nP:=@List.getElem_range
abbrev nR:=@List.length_range
abbrev nS:=@List.flatMap_cons
abbrev nT:=@List.ext_getElem?
abbrev nU:=@Int.ofNat_lt
abbrev nV:=@Bool.true_or
abbrev nX:=@Array.size_append
abbrev nY:=@exists_eq_or_imp
abbrev nZ:=@Nat.shiftLeft_eq
abbrev oh:=@Nat.lt_succ_self
abbrev oq:=@Nat.le_add_right
abbrev ou:=@List.eq_nil_iff_forall_not_mem
abbrev oz:=@List.countP_map
abbrev oC:=@BitVec.toNat_or
end Go.AL
namespace Go.AL
def maxL:Nat:=9223372036854775807
inductive Tk where
 |no|full|own (k:Nat)
 deriving Inhabited
inductive AV where
 |bool (b:Bool)|tt|ff|dec (p:Prop)
 |int (k:IntKind) (n:Int)
 |str (s:List UInt8)
 |vK|uY (t:Nat) (x:AV)
 |qV|sl (sz:Nat) (l:List AV) (tok:Tk)
 |ms (k off len cap sz:Nat)
 |ag (l:List AV)|uy (l:List AV)
 |ptr (k:Nat) (path:List Nat) (off:Nat)|cp (x:AV)|wo
 |fn (f:Nat) (cap:List AV)|rC
 |mp (k:Nat)|zF
 |gs (k len:Nat)
 |bm (f k:Nat)
 |und
 deriving Inhabited
def uG:AV->Bool
 | .ag _=>true
 |_=>false
mutual
def flat:AV->Nat
 | .ag l=>zf l
 |_=>1
def zf:List AV->Nat
 | []=>0
 |x::l=>flat x+zf l
end
def AO(w:World)(Im:Nat->Nat->Prop)(b off:Nat)(cs:List Value):Prop :=
 ∀j v,cs[j]? = some v->w.cell? ⟨b,off+j,none⟩=some v/\Im b (off+j)
def KE(k:IntKind)(n:Int):Prop:=k.min<=n/\n<=k.max
def wG(A:AV)(v:Value):Prop :=
 (uG A=true->∃cs,v=.agg cs)/\(uG A=false->v.cells = #[v])
mutual
def Rd(w:World)(Im:Nat->Nat->Prop):AV->List Value->Prop
 | .bool b,cs=>cs=[.bool b]
 | .tt,cs=>cs=[.bool true]
 | .ff,cs=>cs=[.bool false]
 | .dec p,cs=>∃b,cs=[.bool b]/\(b=true↔p)
 | .int k n,cs=>cs=[.int k n]/\KE k n
 | .str s,cs=>cs=[.string ⟨s.toArray⟩]/\s.length<=maxL
 | .vK,cs=>cs=[.nilIface]
 | .uY t x,cs=>∃v,cs=[.iface t v]/\wG x v/\Rd w Im x v.cells.toList
 | .qV,cs=>cs=[.slice none 0 0]
 | .sl sz l .no,cs=>l.length<=maxL/\((l=[]/\cs=[.slice none 0 0]) \/
   ∃a cap,cs=[.slice (some a) l.length cap]/\l.length<=cap/\cap<=maxL/\(l≠[]->a.spot=none)/\IZ w Im sz a.block l a.off)
 | .cp x,cs=>∃a ds,cs=[.pointer (some a)]/\a.spot=none/\AO w Im a.block a.off ds/\Rd w Im x ds
 | .wo,cs=>cs=[.pointer none]
 | .fn f cap,cs=>∃vs,cs=[.func (.func f) #[] vs.toArray]/\RdA w Im cap vs
 | .rC,cs=>cs=[.nilFunc]
 | .zF,cs=>cs=[.map none]
 | .ag l,cs=>DY w Im l cs
 |_,_=>False
def DY(w:World)(Im:Nat->Nat->Prop):List AV->List Value->Prop
 | [],cs=>cs=[]
 |x::l,cs=>∃c d,cs=c++d/\Rd w Im x c/\DY w Im l d
def IZ(w:World)(Im:Nat->Nat->Prop)(sz b:Nat):List AV->Nat->Prop
 | [],_=>True
 |x::l,off=>(∃cs,cs.length=sz/\AO w Im b off cs/\Rd w Im x cs)/\IZ w Im sz b l (off+sz)
def RdA(w:World)(Im:Nat->Nat->Prop):List AV->List Value->Prop
 | [],vs=>vs=[]
 |x::l,vs=>∃v r,vs=v::r/\wG x v/\Rd w Im x v.cells.toList/\RdA w Im l r
end
structure Cx where
 w:World
 Im:Nat->Nat->Prop
 ρ:Nat->Nat
 nx:Nat
 tk:Nat->Option Addr×Nat
 tp:Nat->Option Nat
mutual
def VR(c:Cx):AV->List Value->Prop
 | .ptr k _ off,cs=>k<c.nx/\cs=[.pointer (some ⟨c.ρ k,off,none⟩)]
 | .ms k off len cap sz,cs=>k<c.nx/\cs=[.slice (some ⟨c.ρ k,off*sz,none⟩) len cap]/\len<=cap/\cap<=maxL
 | .sl sz l .full,cs=>Rd c.w c.Im (.sl sz l .no) cs/\∃a,cs=[.slice a l.length l.length]
 | .sl sz l (.own k),cs=>k<c.nx/\Rd c.w c.Im (.sl sz l .no) cs /\
   ∀n,c.tp k=some n->l.length<=n/\(l.length=n->cs=[.slice (c.tk k).1 n (c.tk k).2])
 | .mp k,cs=>k<c.nx/\cs=[.map (some (c.ρ k))]
 | .bm f k,cs=>k<c.nx/\cs=[.func (.func f) #[.pointer (some ⟨c.ρ k,0,none⟩)] #[]]
 | .gs k len,cs=>k<c.nx/\(∃a n m,cs=[.slice a n m])/\∀n,c.tp k=some n->len<=n/\(len=n->cs=[.slice (c.tk k).1 n (c.tk k).2])
 | .fn f cap,cs=>∃vs,cs=[.func (.func f) #[] vs.toArray]/\VA c cap vs
 | .ag l,cs=>Ea c l cs
 | .uY t x,cs=>∃v,cs=[.iface t v]/\wG x v/\VR c x v.cells.toList
 |A,cs=>Rd c.w c.Im A cs
def Ea(c:Cx):List AV->List Value->Prop
 | [],cs=>cs=[]
 |x::l,cs=>∃a d,cs=a++d/\VR c x a/\Ea c l d
def VA(c:Cx):List AV->List Value->Prop
 | [],vs=>vs=[]
 |x::l,vs=>∃v r,vs=v::r/\wG x v/\VR c x v.cells.toList/\VA c l r
end
def VV(c:Cx)(A:AV)(v:Value):Prop:=wG A v/\VR c A v.cells.toList
def EV(c:Cx):AV->Value->Prop
 | .und,_=>True
 | .uy l,v=>∃vs,v=.tuple vs/\VA c l vs.toList
 |A,v=>VV c A v
theorem QE{w w':World}{Im Im':Nat->Nat->Prop}(h:∀b o,Im b o->Im' b o/\w'.cell? ⟨b,o,none⟩=w.cell? ⟨b,o,none⟩)
  {b off:Nat} {cs:List Value} (hc:AO w Im b off cs):AO w' Im' b off cs:=by
 intro j v hj;obtain⟨h1,h2⟩:=hc j v hj;exact⟨(h _ _ h2).2.trans h1,(h _ _ h2).1⟩
mutual
theorem wC{w w':World}{Im Im':Nat->Nat->Prop}(h:∀b o,Im b o->Im' b o/\w'.cell? ⟨b,o,none⟩=w.cell? ⟨b,o,none⟩) :
  ∀(A:AV) (cs:List Value),Rd w Im A cs->Rd w' Im' A cs
 | .bool _,_,hr=>by simpa only[Rd]using hr
 | .tt,_,hr=>by simpa only[Rd]using hr
 | .ff,_,hr=>by simpa only[Rd]using hr
 | .dec _,_,hr=>by simpa only[Rd]using hr
 | .int _ _,_,hr=>by simpa only[Rd]using hr
 | .str _,_,hr=>by simpa only[Rd]using hr
 | .vK,_,hr=>by simpa only[Rd]using hr
 | .uY t x,cs,hr=>by simp only[Rd]at hr ⊢;obtain⟨v,h1,h2,h3⟩:=hr;exact⟨v,h1,h2,wC h x _ h3⟩
 | .qV,_,hr=>by simpa only[Rd]using hr
 | .sl sz l .no,cs,hr=>by simp only[Rd]at hr ⊢;obtain⟨h0,hr⟩:=hr;refine⟨h0,hr.imp id ?_⟩;rintro⟨a,cap,h1,h2,h3,h4,h5⟩;exact⟨a,cap,h1,h2,h3,h4,Yv h _ _ l _ h5⟩
 | .sl sz l .full,cs,hr=>by simp only[Rd]at hr
 | .sl sz l (.own _),cs,hr=>by simp only[Rd]at hr
 | .ms _ _ _ _ _,_,hr=>by simp only[Rd]at hr
 | .ag l,cs,hr=>by simp only[Rd]at hr ⊢;exact a3F h l cs hr
 | .uy _,_,hr=>by simp only[Rd]at hr
 | .ptr _ _ _,_,hr=>by simp only[Rd]at hr
 | .cp x,cs,hr=>by simp only[Rd]at hr ⊢;obtain⟨a,ds,h1,h2,h3,h4⟩:=hr;exact⟨a,ds,h1,h2,QE h h3,wC h x _ h4⟩
 | .wo,_,hr=>by simpa only[Rd]using hr
 | .fn f cap,cs,hr=>by simp only[Rd]at hr ⊢;obtain⟨vs,h1,h2⟩:=hr;exact⟨vs,h1,a3I h cap vs h2⟩
 | .rC,_,hr=>by simpa only[Rd]using hr
 | .mp _,_,hr=>by simp only[Rd]at hr
 | .zF,_,hr=>by simpa only[Rd]using hr
 | .gs _ _,_,hr=>by simp only[Rd]at hr
 | .bm _ _,_,hr=>by simp only[Rd]at hr
 | .und,_,hr=>by simp only[Rd]at hr
theorem a3F{w w':World}{Im Im':Nat->Nat->Prop}(h:∀b o,Im b o->Im' b o/\w'.cell? ⟨b,o,none⟩=w.cell? ⟨b,o,none⟩) :
  ∀(l:List AV) (cs:List Value),DY w Im l cs->DY w' Im' l cs
 | [],_,hr=>by simpa only[DY]using hr
 |x::l,cs,hr=>by simp only[DY]at hr ⊢;obtain⟨c,d,h1,h2,h3⟩:=hr;exact⟨c,d,h1,wC h x _ h2,a3F h l _ h3⟩
theorem Yv{w w':World}{Im Im':Nat->Nat->Prop}(h:∀b o,Im b o->Im' b o/\w'.cell? ⟨b,o,none⟩=w.cell? ⟨b,o,none⟩)(sz b:Nat) :
  ∀(l:List AV) (off:Nat),IZ w Im sz b l off->IZ w' Im' sz b l off
 | [],_,_=>by simp only[IZ]
 |x::l,off,hr=>by simp only[IZ]at hr ⊢;obtain⟨⟨cs,h1,h2,h3⟩,h4⟩:=hr;exact⟨⟨cs,h1,QE h h2,wC h x _ h3⟩,Yv h sz b l _ h4⟩
theorem a3I{w w':World}{Im Im':Nat->Nat->Prop}(h:∀b o,Im b o->Im' b o/\w'.cell? ⟨b,o,none⟩=w.cell? ⟨b,o,none⟩) :
  ∀(l:List AV) (vs:List Value),RdA w Im l vs->RdA w' Im' l vs
 | [],_,hr=>by simpa only[RdA]using hr
 |x::l,vs,hr=>by simp only[RdA]at hr ⊢;obtain⟨v,r,h1,h2,h3,h4⟩:=hr;exact⟨v,r,h1,h2,wC h x _ h3,a3I h l _ h4⟩
end
structure Cx.Le(c d:Cx):Prop where
 im:∀b o,c.Im b o->d.Im b o/\d.w.cell? ⟨b,o,none⟩=c.w.cell? ⟨b,o,none⟩
 nx:c.nx<=d.nx
 ρ:∀k,k<c.nx->d.ρ k=c.ρ k
 tk:∀k n,k<c.nx->d.tp k=some n->(c.tp k=some n/\d.tk k=c.tk k)\/∃m,c.tp k=some m/\m<n
mutual
theorem DX{c d:Cx}(h:c.Le d):∀(A:AV) (cs:List Value),VR c A cs->VR d A cs
 | .bool _,cs,hr=>by simp only[VR]at hr ⊢;exact wC h.im _ _ hr
 | .tt,_,hr=>by simp only[VR]at hr ⊢;exact wC h.im _ _ hr
 | .ff,_,hr=>by simp only[VR]at hr ⊢;exact wC h.im _ _ hr
 | .dec _,_,hr=>by simp only[VR]at hr ⊢;exact wC h.im _ _ hr
 | .int _ _,_,hr=>by simp only[VR]at hr ⊢;exact wC h.im _ _ hr
 | .str _,_,hr=>by simp only[VR]at hr ⊢;exact wC h.im _ _ hr
 | .vK,_,hr=>by simp only[VR]at hr ⊢;exact wC h.im _ _ hr
 | .uY t x,cs,hr=>by simp only[VR]at hr ⊢;obtain⟨v,h1,h2,h3⟩:=hr;exact⟨v,h1,h2,DX h x _ h3⟩
 | .qV,_,hr=>by simp only[VR]at hr ⊢;exact wC h.im _ _ hr
 | .sl _ _ .no,_,hr=>by simp only[VR]at hr ⊢;exact wC h.im _ _ hr
 | .sl _ _ .full,_,hr=>by simp only[VR]at hr ⊢;exact⟨wC h.im _ _ hr.1,hr.2⟩
 | .sl sz l (.own k),cs,hr=>by simp only[VR]at hr ⊢;obtain⟨h1,h2,h3⟩:=hr;refine⟨fU h1 h.nx,wC h.im _ _ h2,λn hn=>?_⟩;rcases h.tk k n h1 hn with⟨h4,h5⟩|⟨m,h4,h5⟩;{rw[h5];exact h3 n h4};have:=(h3 m h4).1;exact⟨aj,λe=>aj⟩
 | .ms k _ _ _ _,_,hr=>by simp only[VR]at hr ⊢;rw[h.ρ k hr.1];exact⟨fU hr.1 h.nx,hr.2⟩
 | .ag l,cs,hr=>by simp only[VR]at hr ⊢;exact a3E h l cs hr
 | .uy _,_,hr=>by simp only[VR]at hr ⊢;exact wC h.im _ _ hr
 | .ptr k _ _,_,hr=>by simp only[VR]at hr ⊢;rw[h.ρ k hr.1];exact⟨fU hr.1 h.nx,hr.2⟩
 | .cp x,cs,hr=>by simp only[VR]at hr ⊢;exact wC h.im _ _ hr
 | .wo,_,hr=>by simp only[VR]at hr ⊢;exact wC h.im _ _ hr
 | .fn f cap,cs,hr=>by simp only[VR]at hr ⊢;obtain⟨vs,h1,h2⟩:=hr;exact⟨vs,h1,a1Z h cap vs h2⟩
 | .rC,_,hr=>by simp only[VR]at hr ⊢;exact wC h.im _ _ hr
 | .mp k,_,hr=>by simp only[VR]at hr ⊢;rw[h.ρ k hr.1];exact⟨fU hr.1 h.nx,hr.2⟩
 | .bm f k,_,hr=>by simp only[VR]at hr ⊢;rw[h.ρ k hr.1];exact⟨fU hr.1 h.nx,hr.2⟩
 | .gs k len,_,hr=>by simp only[VR]at hr ⊢;obtain⟨h1,h2,h3⟩:=hr;refine⟨fU h1 h.nx,h2,λn hn=>?_⟩;rcases h.tk k n h1 hn with⟨h4,h5⟩|⟨m,h4,h5⟩;{rw[h5];exact h3 n h4};have:=(h3 m h4).1;exact⟨aj,λe=>aj⟩
 | .zF,_,hr=>by simp only[VR]at hr ⊢;exact wC h.im _ _ hr
 | .und,_,hr=>by simp only[VR]at hr ⊢;exact wC h.im _ _ hr
theorem a3E{c d:Cx}(h:c.Le d):∀(l:List AV) (cs:List Value),Ea c l cs->Ea d l cs
 | [],_,hr=>by simpa only[Ea]using hr
 |x::l,cs,hr=>by simp only[Ea]at hr ⊢;obtain⟨a,e,h1,h2,h3⟩:=hr;exact⟨a,e,h1,DX h x _ h2,a3E h l _ h3⟩
theorem a1Z{c d:Cx}(h:c.Le d):∀(l:List AV) (vs:List Value),VA c l vs->VA d l vs
 | [],_,hr=>by simpa only[VA]using hr
 |x::l,vs,hr=>by simp only[VA]at hr ⊢;obtain⟨v,r,h1,h2,h3,h4⟩:=hr;exact⟨v,r,h1,h2,DX h x _ h3,a1Z h l _ h4⟩
end
theorem Cm{c d:Cx}(h:c.Le d){A:AV}{v:Value}(hv:VV c A v):VV d A v:=⟨hv.1,DX h _ _ hv.2⟩
theorem CB{c d:Cx}(h:c.Le d):∀{A:AV} {v:Value},EV c A v->EV d A v:=by
 intro A v hv;cases A <;> first
  |exact Cm h hv
  |trivial
  |(obtain⟨vs,h1,h2⟩:=hv;exact⟨vs,h1,a1Z h _ _ h2⟩)
end Go.AL
namespace Go.AL
mutual
theorem uJ{w:World}{Im:Nat->Nat->Prop}:∀(A:AV) (cs:List Value),Rd w Im A cs->cs.length=flat A
 | .bool _,_,hr=>by simp only[Rd]at hr;subst hr;rfl
 | .tt,_,hr=>by simp only[Rd]at hr;subst hr;rfl
 | .ff,_,hr=>by simp only[Rd]at hr;subst hr;rfl
 | .dec _,_,hr=>by simp only[Rd]at hr;obtain⟨b,rfl,_⟩:=hr;rfl
 | .int _ _,_,hr=>by simp only[Rd]at hr;obtain⟨rfl,_⟩:=hr;rfl
 | .str _,_,hr=>by simp only[Rd]at hr;obtain⟨rfl,_⟩:=hr;rfl
 | .vK,_,hr=>by simp only[Rd]at hr;subst hr;rfl
 | .uY t x,cs,hr=>by simp only[Rd]at hr;obtain⟨v,rfl,_⟩:=hr;rfl
 | .qV,_,hr=>by simp only[Rd]at hr;subst hr;rfl
 | .sl sz l .no,cs,hr=>by simp only[Rd]at hr;obtain⟨_,⟨_,rfl⟩|⟨a,cap,rfl,_⟩⟩:=hr <;> rfl
 | .sl sz l .full,cs,hr=>by simp only[Rd]at hr
 | .sl sz l (.own _),cs,hr=>by simp only[Rd]at hr
 | .ms _ _ _ _ _,_,hr=>by simp only[Rd]at hr
 | .ag l,cs,hr=>by simp only[Rd]at hr;simp only[flat];exact Yr l cs hr
 | .uy _,_,hr=>by simp only[Rd]at hr
 | .ptr _ _ _,_,hr=>by simp only[Rd]at hr
 | .cp x,cs,hr=>by simp only[Rd]at hr;obtain⟨a,ds,rfl,_⟩:=hr;rfl
 | .wo,_,hr=>by simp only[Rd]at hr;subst hr;rfl
 | .fn _ _,_,hr=>by simp only[Rd]at hr;obtain⟨_,rfl,_⟩:=hr;rfl
 | .rC,_,hr=>by simp only[Rd]at hr;subst hr;rfl
 | .mp _,_,hr=>by simp only[Rd]at hr
 | .gs _ _,_,hr=>by simp only[Rd]at hr
 | .bm _ _,_,hr=>by simp only[Rd]at hr
 | .zF,_,hr=>by simp only[Rd]at hr;subst hr;rfl
 | .und,_,hr=>by simp only[Rd]at hr
theorem Yr{w:World}{Im:Nat->Nat->Prop}:∀(l:List AV) (cs:List Value),DY w Im l cs->cs.length=zf l
 | [],_,hr=>by simp only[DY]at hr;subst hr;rfl
 |x::l,cs,hr=>by simp only[DY]at hr;obtain⟨c,d,rfl,h2,h3⟩:=hr;simp only[zf,bC,uJ x _ h2,Yr l _ h3]
end
mutual
theorem xW{c:Cx}:∀(A:AV) (cs:List Value),VR c A cs->cs.length=flat A
 | .bool _,_,hr=>by simp only[VR]at hr;exact uJ _ _ hr
 | .tt,_,hr=>by simp only[VR]at hr;exact uJ _ _ hr
 | .ff,_,hr=>by simp only[VR]at hr;exact uJ _ _ hr
 | .dec _,_,hr=>by simp only[VR]at hr;exact uJ _ _ hr
 | .int _ _,_,hr=>by simp only[VR]at hr;exact uJ _ _ hr
 | .str _,_,hr=>by simp only[VR]at hr;exact uJ _ _ hr
 | .vK,_,hr=>by simp only[VR]at hr;exact uJ _ _ hr
 | .uY t x,cs,hr=>by simp only[VR]at hr;obtain⟨v,rfl,_⟩:=hr;rfl
 | .qV,_,hr=>by simp only[VR]at hr;exact uJ _ _ hr
 | .sl sz l .no,cs,hr=>by simp only[VR]at hr;exact uJ _ _ hr
 | .sl sz l .full,cs,hr=>by simp only[VR]at hr;exact uJ (.sl sz l .no) _ hr.1
 | .sl sz l (.own _),cs,hr=>by simp only[VR]at hr;exact uJ (.sl sz l .no) _ hr.2.1
 | .ms _ _ _ _ _,_,hr=>by simp only[VR]at hr;obtain⟨_,rfl,_⟩:=hr;rfl
 | .ag l,cs,hr=>by simp only[VR]at hr;simp only[flat];exact Yi l cs hr
 | .uy _,_,hr=>by simp only[VR]at hr;exact uJ _ _ hr
 | .ptr _ _ _,_,hr=>by simp only[VR]at hr;obtain⟨_,rfl⟩:=hr;rfl
 | .cp x,cs,hr=>by simp only[VR]at hr;exact uJ _ _ hr
 | .wo,_,hr=>by simp only[VR]at hr;exact uJ _ _ hr
 | .fn _ _,_,hr=>by simp only[VR]at hr;obtain⟨_,rfl,_⟩:=hr;rfl
 | .rC,_,hr=>by simp only[VR]at hr;exact uJ _ _ hr
 | .mp _,_,hr=>by simp only[VR]at hr;obtain⟨_,rfl⟩:=hr;rfl
 | .gs _ _,_,hr=>by simp only[VR]at hr;obtain⟨_,⟨_,_,_,rfl⟩,_⟩:=hr;rfl
 | .bm _ _,_,hr=>by simp only[VR]at hr;obtain⟨_,rfl⟩:=hr;rfl
 | .zF,_,hr=>by simp only[VR]at hr;exact uJ _ _ hr
 | .und,_,hr=>by simp only[VR]at hr;exact uJ _ _ hr
theorem Yi{c:Cx}:∀(l:List AV) (cs:List Value),Ea c l cs->cs.length=zf l
 | [],_,hr=>by simp only[Ea]at hr;subst hr;rfl
 |x::l,cs,hr=>by simp only[Ea]at hr;obtain⟨a,d,rfl,h2,h3⟩:=hr;simp only[zf,bC,xW x _ h2,Yi l _ h3]
end
def mkV(A:AV)(cs:List Value):Value:=match A with
 | .ag _=>.agg cs.toArray
 |_=>cs.getD 0 default
theorem Aq{c:Cx}{A:AV}{cs:List Value}(h:VR c A cs)(hA:uG A=false):∃v,cs=[v]/\v.cells = #[v]:=by
 cases A with
 |ag l=>simp[uG]at hA
 |dec p=>simp only[VR,Rd]at h;obtain⟨b,rfl,_⟩:=h;exact⟨_,rfl,rfl⟩
 | sl sz l tok =>
   cases tok with
   |no=>simp only[VR,Rd]at h;obtain⟨_,⟨_,rfl⟩|⟨a,cap,rfl,_⟩⟩:=h <;> exact⟨_,rfl,rfl⟩
   |full=>simp only[VR,Rd]at h;obtain⟨⟨_,⟨_,rfl⟩|⟨a,cap,rfl,_⟩⟩,_⟩:=h <;> exact⟨_,rfl,rfl⟩
   |own k=>simp only[VR,Rd]at h;obtain⟨_,⟨_,⟨_,rfl⟩|⟨a,cap,rfl,_⟩⟩,_⟩:=h <;> exact⟨_,rfl,rfl⟩
 |uY t x=>simp only[VR]at h;obtain⟨v,rfl,_⟩:=h;exact⟨_,rfl,rfl⟩
 |cp x=>simp only[VR,Rd]at h;obtain⟨a,ds,rfl,_⟩:=h;exact⟨_,rfl,rfl⟩
 |fn f cap=>simp only[VR]at h;obtain⟨vs,rfl,_⟩:=h;exact⟨_,rfl,rfl⟩
 |uy l=>simp only[VR,Rd]at h
 |und=>simp only[VR,Rd]at h
 |ptr=>simp only[VR]at h;obtain⟨_,rfl⟩:=h;exact⟨_,rfl,rfl⟩
 |ms=>simp only[VR]at h;obtain⟨_,rfl,_⟩:=h;exact⟨_,rfl,rfl⟩
 |mp=>simp only[VR]at h;obtain⟨_,rfl⟩:=h;exact⟨_,rfl,rfl⟩
 |gs=>simp only[VR]at h;obtain⟨_,⟨_,_,_,rfl⟩,_⟩:=h;exact⟨_,rfl,rfl⟩
 |bm=>simp only[VR]at h;obtain⟨_,rfl⟩:=h;exact⟨_,rfl,rfl⟩
 |int=>simp only[VR,Rd]at h;obtain⟨rfl,_⟩:=h;exact⟨_,rfl,rfl⟩
 |str=>simp only[VR,Rd]at h;obtain⟨rfl,_⟩:=h;exact⟨_,rfl,rfl⟩
 |_=>simp only[VR,Rd]at h;subst h;exact⟨_,rfl,rfl⟩
theorem a5T{c:Cx}{A:AV}{cs:List Value}(h:VR c A cs):(mkV A cs).cells.toList=cs:=by
 cases hA:uG A with
 |true=>cases A <;> simp[uG]at hA;simp[mkV,Value.cells]
 | false =>
   obtain⟨v,rfl,hv⟩:=Aq h hA;have:mkV A [v]=v:=by cases A <;> simp[uG]at hA <;> rfl
   rw[this,hv]
theorem a3B{c:Cx}{A:AV}{cs:List Value}(h:VR c A cs):VV c A (mkV A cs):=by
 refine⟨⟨λhA=>?_,λhA=>?_⟩,by rw[a5T h];exact h⟩;{cases A <;> simp[uG]at hA;exact⟨_,rfl⟩};obtain⟨v,rfl,hv⟩:=Aq h hA;have:mkV A [v]=v:=by cases A <;> simp[uG]at hA <;> rfl
 rw[this,hv]
theorem Gh{c:Cx}{A:AV}{v:Value}(h:VR c A [v])(hA:uG A=false):VV c A v:=by obtain⟨u,hu,hv⟩:=Aq h hA;obtain rfl:v=u:=(by simpa using hu);exact⟨⟨λh=>by simp[h]at hA,λ_=>hv⟩,by rw[hv];exact h⟩
theorem SX{c:Cx}{A:AV}{v:Value}(h:VV c A v)(hA:uG A=false):VR c A [v]:=by have:=h.2;rw[h.1.2 hA]at this;exact this
mutual
def FQ:AV->Bool
 | .ptr _ _ _ | .ms _ _ _ _ _ | .mp _ | .gs _ _ | .bm _ _ | .uy _ | .und=>false
 | .fn _ cap=>OA cap
 | .ag l=>OA l
 | .uY _ x=>FQ x
 |_=>true
def OA:List AV->Bool
 | []=>true
 |x::l=>match FQ x with|true=>OA l|false=>false
end
mutual
def strip:AV->AV
 | .sl sz l _=>.sl sz l .no
 | .ag l=>.ag (stripL l)
 | .uY t x=>.uY t (strip x)
 | .fn f cap=>.fn f (stripL cap)
 |A=>A
def stripL:List AV->List AV
 | []=>[]
 |x::l=>strip x::stripL l
end
theorem a4g(A:AV):uG (strip A)=uG A:=by cases A <;> rfl
theorem PN{A:AV}{v:Value}(h:wG A v):wG (strip A) v:=by unfold wG at *;rw[a4g];exact h
mutual
theorem Hr{c:Cx}:∀(A:AV) (cs:List Value),FQ A=true->VR c A cs->Rd c.w c.Im (strip A) cs
 | .bool _,_,_,hr=>by simpa only[VR,strip]using hr
 | .tt,_,_,hr=>by simpa only[VR,strip]using hr
 | .ff,_,_,hr=>by simpa only[VR,strip]using hr
 | .dec _,_,_,hr=>by simpa only[VR,strip]using hr
 | .int _ _,_,_,hr=>by simpa only[VR,strip]using hr
 | .str _,_,_,hr=>by simpa only[VR,strip]using hr
 | .vK,_,_,hr=>by simpa only[VR,strip]using hr
 | .uY t x,cs,hp,hr=>by simp only[VR]at hr;obtain⟨v,rfl,h2,h3⟩:=hr;simp only[strip,Rd];exact⟨v,rfl,PN h2,Hr x _ hp h3⟩
 | .qV,_,_,hr=>by simpa only[VR,strip]using hr
 | .sl sz l .no,cs,_,hr=>by simpa only[VR,strip]using hr
 | .sl sz l .full,cs,_,hr=>by simp only[VR]at hr;simpa only[strip]using hr.1
 | .sl sz l (.own _),cs,_,hr=>by simp only[VR]at hr;simpa only[strip]using hr.2.1
 | .ms _ _ _ _ _,_,hp,_=>by simp[FQ]at hp
 | .ag l,cs,hp,hr=>by simp only[VR]at hr;simp only[strip,Rd];exact a0T l cs hp hr
 | .uy _,_,hp,_=>by simp[FQ]at hp
 | .ptr _ _ _,_,hp,_=>by simp[FQ]at hp
 | .cp x,cs,_,hr=>by simpa only[VR,strip]using hr
 | .wo,_,_,hr=>by simpa only[VR,strip]using hr
 | .fn f cap,cs,hp,hr=>by simp only[VR]at hr;obtain⟨vs,h1,h2⟩:=hr;simp only[strip,Rd];exact⟨vs,h1,a0W cap vs hp h2⟩
 | .rC,_,_,hr=>by simpa only[VR,strip]using hr
 | .mp _,_,hp,_=>by simp[FQ]at hp
 | .gs _ _,_,hp,_=>by simp[FQ]at hp
 | .bm _ _,_,hp,_=>by simp[FQ]at hp
 | .zF,_,_,hr=>by simpa only[VR,strip]using hr
 | .und,_,hp,_=>by simp[FQ]at hp
theorem a0T{c:Cx}:∀(l:List AV) (cs:List Value),OA l=true->Ea c l cs->DY c.w c.Im (stripL l) cs
 | [],_,_,hr=>by simpa only[Ea,stripL,DY]using hr
 | x::l,cs,hp,hr=>by
   simp only[Ea]at hr;obtain⟨a,d,h1,h2,h3⟩:=hr;simp only[stripL,DY];simp only[OA]at hp;cases hx:FQ x with
   |false=>simp[hx]at hp
   |true=>rw[hx]at hp;exact⟨a,d,h1,Hr x _ hx h2,a0T l _ hp h3⟩
theorem a0W{c:Cx}:∀(l:List AV) (vs:List Value),OA l=true->VA c l vs->RdA c.w c.Im (stripL l) vs
 | [],_,_,hr=>by simpa only[VA,stripL,RdA]using hr
 | x::l,vs,hp,hr=>by
   simp only[VA]at hr;obtain⟨v,r,h1,h2,h3,h4⟩:=hr;simp only[stripL,RdA];simp only[OA]at hp;cases hx:FQ x with
   |false=>simp[hx]at hp
   |true=>rw[hx]at hp;exact⟨v,r,h1,PN h2,Hr x _ hx h3,a0W l _ hp h4⟩
end
mutual
theorem yP{c:Cx}:∀(A:AV) (cs:List Value),Rd c.w c.Im A cs->VR c A cs
 | .bool _,_,hr=>by simpa only[VR]using hr
 | .tt,_,hr=>by simpa only[VR]using hr
 | .ff,_,hr=>by simpa only[VR]using hr
 | .dec _,_,hr=>by simpa only[VR]using hr
 | .int _ _,_,hr=>by simpa only[VR]using hr
 | .str _,_,hr=>by simpa only[VR]using hr
 | .vK,_,hr=>by simpa only[VR]using hr
 | .uY t x,cs,hr=>by simp only[Rd]at hr;obtain⟨v,h1,h2,h3⟩:=hr;simp only[VR];exact⟨v,h1,h2,yP x _ h3⟩
 | .qV,_,hr=>by simpa only[VR]using hr
 | .sl sz l .no,cs,hr=>by simpa only[VR]using hr
 | .sl sz l .full,cs,hr=>by simp only[Rd]at hr
 | .sl sz l (.own _),cs,hr=>by simp only[Rd]at hr
 | .ms _ _ _ _ _,_,hr=>by simp only[Rd]at hr
 | .ag l,cs,hr=>by simp only[Rd]at hr;simp only[VR];exact Yh l cs hr
 | .uy _,_,hr=>by simp only[Rd]at hr
 | .ptr _ _ _,_,hr=>by simp only[Rd]at hr
 | .cp x,cs,hr=>by simpa only[VR]using hr
 | .wo,_,hr=>by simpa only[VR]using hr
 | .fn f cap,cs,hr=>by simp only[Rd]at hr;obtain⟨vs,h1,h2⟩:=hr;simp only[VR];exact⟨vs,h1,a0R cap vs h2⟩
 | .rC,_,hr=>by simpa only[VR]using hr
 | .gs _ _,_,hr=>by simp only[Rd]at hr
 | .bm _ _,_,hr=>by simp only[Rd]at hr
 | .mp _,_,hr=>by simp only[Rd]at hr
 | .zF,_,hr=>by simpa only[VR]using hr
 | .und,_,hr=>by simp only[Rd]at hr
theorem Yh{c:Cx}:∀(l:List AV) (cs:List Value),DY c.w c.Im l cs->Ea c l cs
 | [],_,hr=>by simpa only[Ea,DY]using hr
 |x::l,cs,hr=>by simp only[DY]at hr;obtain⟨a,d,h1,h2,h3⟩:=hr;simp only[Ea];exact⟨a,d,h1,yP x _ h2,Yh l _ h3⟩
theorem a0R{c:Cx}:∀(l:List AV) (vs:List Value),RdA c.w c.Im l vs->VA c l vs
 | [],_,hr=>by simpa only[VA,RdA]using hr
 |x::l,vs,hr=>by simp only[RdA]at hr;obtain⟨v,r,h1,h2,h3,h4⟩:=hr;simp only[VA];exact⟨v,r,h1,h2,yP x _ h3,a0R l _ h4⟩
end
theorem b0x{c:Cx}{A:AV}{v:Value}(hs:wG A v)(h:Rd c.w c.Im A v.cells.toList):VV c A v:=⟨hs,yP _ _ h⟩
theorem a8l{w:World}{Im:Nat->Nat->Prop}{sz b:Nat}:∀{l:List AV} {off i:Nat} {x:AV},IZ w Im sz b l off->l[i]? = some x ->
  ∃cs,cs.length=sz/\AO w Im b (off+i*sz) cs/\Rd w Im x cs
 | [],_,_,_,_,h=>by simp at h
 | y::l,off,0,x,hr,h=>by
   simp only[IZ]at hr;obtain rfl:y=x:=by simpa using h
   simpa using hr.1
 | y::l,off,i+1,x,hr,h=>by
   simp only[IZ]at hr;obtain⟨cs,h1,h2,h3⟩:=a8l (i:=i) hr.2 (by simpa using h);refine⟨cs,h1,?_,h3⟩;have:off+(i+1)*sz=off+sz+i*sz:=by rw[dw];omega
   rw[this];exact h2
theorem Yw{w:World}{Im:Nat->Nat->Prop}{sz b:Nat}:∀{l m:List AV} {off:Nat},IZ w Im sz b l off->IZ w Im sz b m (off+l.length*sz) ->
  IZ w Im sz b (l++m) off
 | [],m,off,_,h=>by simpa using h
 | x::l,m,off,h,hm=>by
   simp only[IZ,eP]at h ⊢;refine⟨h.1,Yw h.2 ?_⟩;have:off+sz+l.length*sz=off+(x::l).length*sz:=by simp[dw];omega
   rw[this];exact hm
theorem a3H{w:World}{Im:Nat->Nat->Prop}{sz b:Nat}:∀{l:List AV} {off:Nat} (n:Nat),IZ w Im sz b l off->n<=l.length->IZ w Im sz b (l.drop n) (off+n*sz)
 |l,off,0,h,_=>by simpa using h
 | [],off,n+1,_,hn=>by simp at hn
 | x::l,off,n+1,h,hn=>by
   simp only[IZ]at h;have:=a3H (l:=l) (off:=off+sz) n h.2 (by simpa using hn);have e:off+(n+1)*sz=off+sz+n*sz:=by rw[dw];omega
   rw[e];exact this
theorem Yu{w:World}{Im:Nat->Nat->Prop}{sz b:Nat}:∀{l:List AV} {off:Nat} (n:Nat),IZ w Im sz b l off->IZ w Im sz b (l.take n) off
 |l,off,0,h=>by simp[IZ]
 | [],off,n+1,h=>by simp[IZ]
 |x::l,off,n+1,h=>by simp only[IZ]at h;simp only[jk,IZ];exact⟨h.1,Yu n h.2⟩
end Go.AL
namespace Go.AL
abbrev Env:=List (Nat×AV)
inductive HO where
 |box (A:AV)
 |arr (sz cap:Nat) (l:List AV)
 |tok (sz top:Nat)
 |tY (sh:AV) (es:List (AV×AV))
 |uH (sz:Nat) (l:List AV)
 |glob (g:Nat) (cs:List Value)
 |gone
 deriving Inhabited
abbrev Heap:=List (Nat×HO)
def Ob:Env->Nat->(AV->Prop)->Prop
 | [],_,_=>False
 |(i,A)::e,t,k=>match Nat.beq i t with|true=>k A|false=>Ob e t k
def vk:Env->Nat->Option AV
 | [],_=>none
 |(i,A)::e,t=>match Nat.beq i t with|true=>some A|false=>vk e t
theorem yC{k:AV->Prop}:∀{e:Env} {t:Nat},Ob e t k↔∃A,vk e t=some A/\k A
 | [],t=>by simp[Ob,vk]
 | (i,A)::e,t=>by
   simp only[Ob,vk];cases Nat.beq i t with
   |true=>simp
   |false=>exact yC
def yt:Heap->Nat->(HO->Prop)->Prop
 | [],_,_=>False
 |(i,o)::H,n,k=>match Nat.beq i n with|true=>k o|false=>yt H n k
def hget:Heap->Nat->Option HO
 | [],_=>none
 |(i,o)::H,n=>match Nat.beq i n with|true=>some o|false=>hget H n
theorem uo{k:HO->Prop}:∀{H:Heap} {n:Nat},yt H n k↔∃o,hget H n=some o/\k o
 | [],n=>by simp[yt,hget]
 | (i,o)::H,n=>by
   simp only[yt,hget];cases Nat.beq i n with
   |true=>simp
   |false=>exact uo
def G5:Heap->Nat->HO->(Heap->Prop)->Prop
 | [],_,_,_=>False
 |(i,o)::H,n,o',k=>match Nat.beq i n with|true=>k ((i,o')::H)|false=>G5 H n o' λH'=>k ((i,o)::H')
def hset:Heap->Nat->HO->Heap
 | [],_,_=>[]
 |(i,o)::H,n,o'=>match Nat.beq i n with|true=>(i,o')::H|false=>(i,o)::hset H n o'
theorem yB:∀{H:Heap} {n:Nat} {o':HO} {k:Heap->Prop},G5 H n o' k↔(∃o,hget H n=some o)/\k (hset H n o')
 | [],n,o',k=>by simp[G5,hget]
 | (i,o)::H,n,o',k=>by
   simp only[G5,hget,hset];cases Nat.beq i n with
   |true=>simp
   |false=>exact yB
def nextId:Heap->Nat
 | []=>0
 |(i,_)::_=>i+1
def a5h(n:Nat)(k:Nat->Prop):Prop :=
 match n with
 | 0=>k 1|1=>k 2|2=>k 3|3=>k 4|4=>k 5|5=>k 6|6=>k 7|7=>k 8|8=>k 9|9=>k 10
 | 10=>k 11|11=>k 12|12=>k 13|13=>k 14|14=>k 15|15=>k 16|16=>k 17|17=>k 18|18=>k 19|19=>k 20
 |n+20=>k (n+21)
theorem Zb{n:Nat}{k:Nat->Prop}:a5h n k↔k (n+1):=by unfold a5h;split <;> exact jm
def GH(H:Heap)(o:HO)(k:Nat->Heap->Prop):Prop :=
 match H with
 | []=>k 0 [(0,o)]
 |(i,x)::H=>a5h i λj=>k j ((j,o)::(i,x)::H)
theorem wF{H:Heap}{o:HO}{k:Nat->Heap->Prop}:GH H o k↔k (nextId H) ((nextId H,o)::H):=by
 cases H with
 |nil=>exact jm
 |cons x H=>obtain⟨i,x⟩:=x;simp only[GH,Zb,nextId]
def uj(H:Heap)(k:Nat):Option Nat:=match hget H k with|some (.tok _ n)=>some n|some (.uH _ l)=>some l.length|_=>none
def Pq(c:Cx)(sz:Nat):List AV->List Value->Prop
 | [],_=>True
 |x::l,cs=>∃a d,cs=a++d/\a.length=sz/\Rd c.w c.Im x a/\Pq c sz l d
def Py(c:Cx):List (AV×AV)->List MapEntry->Prop
 | [],es=>es=[]
 |(x,y)::l,es=>∃e r,es=e::r/\VV c x e.key/\VV c y e.val/\Py c l r
def Hw:IntKind->IntKind->Bool
 | .i8,.i8 | .i16,.i16 | .i32,.i32 | .i64,.i64 | .u8,.u8 | .u16,.u16 | .u32,.u32 | .u64,.u64=>true
 |_,_=>false
theorem x9{a b:IntKind}(h:Hw a b=true):a=b:=by cases a <;> cases b <;> first|rfl|simp[Hw]at h
mutual
def qU:AV->AV->Bool
 | .int k _,.int k' _=>Hw k k'
 | .str _,.str _=>true
 | .ag l,.ag m=>uF l m
 |_,_=>false
def uF:List AV->List AV->Bool
 | [],[]=>true
 |x::l,y::m=>qU x y&&uF l m
 |_,_=>false
end
def KSh(sh:AV):List (AV×AV)->Prop
 | []=>True
 |(x,_)::l=>qU sh x=true/\KSh sh l
def HO.Ok(c:Cx)(k:Nat):HO->Prop
 | .box A=>∃cs ty,c.w.heap[c.ρ k]? = some (.cells cs.toArray ty)/\VR c A cs/\∀o,¬c.Im (c.ρ k) o
 | .arr sz cap l=>∃cs ty,c.w.heap[c.ρ k]? = some (.cells cs.toArray ty)/\cs.length=cap*sz/\l.length<=cap/\cap<=maxL/\Pq c sz l cs/\∀o,¬c.Im (c.ρ k) o
 | .tok sz top=>(c.tk k).2=top\/∃b cs ty,(c.tk k).1=some ⟨b,0,none⟩/\c.w.heap[b]? = some (.cells cs ty)/\cs.size=(c.tk k).2*sz /\
   top<=(c.tk k).2/\(c.tk k).2<=maxL/\∀o,top*sz<=o->¬c.Im b o
 | .tY sh es=>∃ents clock,c.w.heap[c.ρ k]? = some (.map ents clock)/\Py c es ents.toList/\KSh sh es/\((∀e∈ents.toList,e.born<clock)/\(ents.toList.map (·.born)).Nodup)/\ents.toList.Pairwise λa b=>a.key≠b.key
 | .uH sz l=>((c.tk k).1=none/\(c.tk k).2=0/\l=[])\/∃b cs ty,(c.tk k).1=some ⟨b,0,none⟩/\c.w.heap[b]? = some (.cells cs.toArray ty)/\cs.length=(c.tk k).2*sz /\
   l.length<=(c.tk k).2/\(c.tk k).2<=maxL/\Pq c sz l cs/\∀o,¬c.Im b o
 | .glob g cs=>∀(j:Nat) (v:Value),cs[j]? = some v->c.Im g j/\c.w.cell? ⟨g,j,none⟩=some v
 | .gone=>True
def ru(c:Cx)(x:Nat×HO):Option Nat :=
 match x.2 with
 | .tok _ top=>if(c.tk x.1).2=top then none else(c.tk x.1).1.map (·.block)
 | .uH _ _=>(c.tk x.1).1.map (·.block)
 | .glob _ _=>none
 | .gone=>none
 |_=>some (c.ρ x.1)
def uS:Heap->Prop
 | []=>True
 |(i,_)::H=>(∀x∈H,x.1<i)/\uS H
structure HR(c:Cx)(H:Heap):Prop where
 nx:c.nx=nextId H
 tp:c.tp=uj H
 ids:uS H
 im:∀b o,c.Im b o->b<c.w.heap.size
 ok:∀x∈H,x.2.Ok c x.1
 apart:H.Pairwise λx y=>∀b:Nat,ru c x=some b->ru c y≠some b
structure Tr(c:Cx)(H:Heap)(d:Cx)(H':Heap):Prop where
 hr:HR d H'
 le:c.Le d
 os:d.w.os=c.w.os
 tape:d.w.tape=c.w.tape
 output:d.w.output=c.w.output
 size:c.w.heap.size<=d.w.heap.size
 fr:∀b,b<c.w.heap.size->(∀x∈H,ru c x≠some b)->d.w.heap[b]? = c.w.heap[b]?
 own:∀y∈H',∀b,ru d y=some b->c.w.heap.size<=b\/∃x∈H,ru c x=some b
 imb:∀b o,d.Im b o->c.Im b o\/c.w.heap.size<=b\/∃x∈H,ru c x=some b
theorem Cx.Le.refl(c:Cx):c.Le c:=⟨λ_ _ h=>⟨h,rfl⟩,aT _,λ_ _=>rfl,λ_ _ _ h=>.inl ⟨h,rfl⟩⟩
theorem Cx.Le.trans{a b c:Cx}(h:a.Le b)(g:b.Le c):a.Le c:=by refine⟨λx o hx=>?_,dI h.nx g.nx,λk hk=>?_,λk n hk hn=>?_⟩;{have h1:=h.im x o hx;have h2:=g.im x o h1.1;exact⟨h2.1,h2.2.trans h1.2⟩};{exact(g.ρ k (fU hk h.nx)).trans (h.ρ k hk)};rcases g.tk k n (fU hk h.nx) hn with⟨h1,h2⟩|⟨m,h1,h2⟩;{rcases h.tk k n hk h1 with⟨h3,h4⟩|h3;{exact .inl ⟨h3,h2.trans h4⟩};exact .inr h3};rcases h.tk k m hk h1 with⟨h3,h4⟩|⟨m',h3,h4⟩;{exact .inr ⟨m,h3,h2⟩};exact .inr ⟨m',h3,aj⟩
theorem Tr.refl{c:Cx}{H:Heap}(h:HR c H):Tr c H c H :=
 ⟨h,.refl c,rfl,rfl,rfl,aT _,λ_ _ _=>rfl,λy hy _ hb=>.inr ⟨y,hy,hb⟩,λ_ _ h=>.inl h⟩
theorem Tr.trans{a b c:Cx}{H H' QY:Heap}(h:Tr a H b H')(g:Tr b H' c QY):Tr a H c QY:=by refine⟨g.hr,h.le.trans g.le,g.os.trans h.os,g.tape.trans h.tape,g.output.trans h.output,dI h.size g.size,λx hx hn=>?_,λy hy x hx=>?_,λx o hx=>?_⟩;{rw[g.fr x (fU hx h.size) ?_,h.fr x hx hn];intro y hy hb;rcases h.own y hy x hb with h1|⟨z,h1,h2⟩;{omega};exact hn z h1 h2};{rcases g.own y hy x hx with h1|⟨z,h1,h2⟩;{exact .inl (dI h.size h1)};exact h.own z h1 x h2};rcases g.imb x o hx with h1|h1|⟨z,h1,h2⟩;{exact h.imb x o h1};{exact .inr (.inl (dI h.size h1))};exact .inr (h.own z h1 x h2)
theorem xw{i n:Nat}(h:Nat.beq i n=false):i≠n:=by intro e;subst e;simp at h
theorem wV:∀{H:Heap} {n:Nat} {o:HO},hget H n=some o->(n,o)∈H
 | [],_,_,h=>by simp[hget]at h
 | (i,x)::H,n,o,h=>by
   simp only[hget]at h;cases hb:Nat.beq i n with
   |true =>rw[hb]at h;obtain rfl:=aJ hb;simp at h;subst h;simp
   |false=>rw[hb]at h;exact cZ _ (wV h)
theorem EO:∀{H:Heap} {n:Nat} {o:HO},uS H->(n,o)∈H->hget H n=some o
 | [],_,_,_,h=>by simp at h
 | (i,x)::H,n,o,hi,h=>by
   simp only[uS]at hi;simp only[hget];rcases aU.1 h with h|h;{simp at h;obtain⟨rfl,rfl⟩:=h;simp};have:=hi.1 _ h;have hb:Nat.beq i n=false:=by
    cases hb:Nat.beq i n with
    |false=>rfl
    |true=>have:=aJ hb;simp at *;omega
   rw[hb];exact EO hi.2 h
theorem sK:∀{H:Heap},uS H->∀x∈H,x.1<nextId H
 | [],_,x,h=>by simp at h
 |(i,y)::H,hi,x,h=>by simp only[uS]at hi;simp only[nextId];rcases aU.1 h with h|h;{subst h;exact oh _};have:=hi.1 _ h;omega
theorem HR.lt{c:Cx}{H:Heap}(h:HR c H){k:Nat}{o:HO}(hk:hget H k=some o):k<c.nx:=by rw[h.nx];exact sK h.ids _ (wV hk)
theorem HR.EM{c:Cx}{H:Heap}(h:HR c H){k:Nat}{o:HO}(hk:hget H k=some o):o.Ok c k:=h.ok _ (wV hk)
end Go.AL
namespace Go.AL
inductive TD where
 |rJ|bool|int (k:IntKind)|str|slice (e:Nat)|struct (fs:List (Nat×Nat×Nat))|arr (n e:Nat)|map (k e:Nat)|iface|ptr (e:Nat)|other
 deriving Inhabited
structure TI where
 desc:TD
 bytes:Nat
 zero:AV
 key:Option AV:=none
 cmp:Bool:=false
 deriving Inhabited
inductive Lay where
 |nil
 |node (l:Lay) (t:Nat) (i:TI) (r:Lay)
def Lay.sQ:Lay->Nat->(TI->Prop)->Prop
 | .nil,_,_=>False
 | .node l t i r,n,k=>match Nat.beq n t with
   |true=>k i
   | false=>match Nat.ble n t with
     |true=>l.sQ n k
     |false=>r.sQ n k
def descOf(P:Program):TypeDesc->TD
 | .bool=>.bool
 | .int k=>.int k
 | .string=>.str
 | .slice e=>.slice e
 | .struct fs=>.struct (fs.toList.map λf=>(f.offset,P.cellsOf f.type,f.type))
 | .array n e=>.arr n e
 | .map k e=>.map k e
 | .interface _=>.iface
 | .pointer e=>.ptr e
 | .func ..=>.rJ
 |_=>.other
def b0X:TD->Bool
 | .struct _ | .arr _ _=>true
 |_=>false
def KX(n:Nat):List AV->List (Nat×Nat)
 | []=>[]
 |x::l=>(n,flat x)::KX (n+flat x) l
structure b0B(P:Program)(k:Nat)(sh:AV):Prop where
 law:Go.Maps.Keyed P k
 rd:∀w Im A v,qU sh A=true->wG A v->Rd w Im A v.cells.toList->∃l,keyOf P k v=some l
def Aw:AV->AV->Bool
 | .int k _,.int k' _=>Hw k k'
 | .str _,.str _=>true
 | .ff,.tt | .ff,.ff | .ff,.bool _ | .ff,.dec _=>true
 |_,_=>false
def yG:List AV->List AV->Bool
 | [],[]=>true
 |x::l,y::m=>match Aw x y with|true=>yG l m|false=>false
 |_,_=>false
def isT:AV->Prop
 | .tt=>True
 | .bool b=>b=true
 | .dec p=>p
 |_=>False
def eqP:AV->AV->Prop
 | .int _ a,.int _ b=>a=b
 | .str a,.str b=>a=b
 |A,B=>(isT A↔isT B)
def Xk:List AV->List AV->Prop
 | [],[]=>True
 |x::l,y::m=>eqP x y/\Xk l m
 |_,_=>False
structure b7W(P:Program)(t:Nat)(zs:List AV):Prop where
 run:∀w Im l m cs ds,yG zs l=true->yG zs m=true->DY w Im l cs.toList->DY w Im m ds.toList->∃r,(Op.equal t (.agg cs) (.agg ds)).run P w=.ok r w/\(r=true↔cs=ds)
 grd:P.eqGuardType P.depth t=false
structure Gi(P:Program)(t:Nat)(i:TI):Prop where
 b8w:i.cmp=true->∀zs,i.zero=.ag zs->b7W P t zs
 keyed:∀k e sh,i.desc=.map k e->i.key=some sh->b0B P k sh
 info:∃x v,P.info? t=some x/\x.size=flat i.zero/\x.bytes=i.bytes/\x.zero=some v/\wG i.zero v/\∀w Im,Rd w Im i.zero v.cells.toList
 desc:(P.underlying t).map (descOf P)=some i.desc
 agg:b0X i.desc=uG i.zero
 b7N:∀fs,i.desc=.struct fs->∃zs,i.zero=.ag zs/\fs.map (λf=>(f.1,f.2.1))=KX 0 zs
 inf:∀fs,i.desc=.struct fs->∀f∈fs,∃x,P.info? f.2.2=some x
def uz(P:Program):Lay->Prop
 | .nil=>True
 | .node l t i r=>Gi P t i/\uz P l/\uz P r
theorem Lay.su{P:Program}{k:TI->Prop}:∀{L:Lay} {t:Nat},uz P L->L.sQ t k->∃i,Gi P t i/\k i
 | .nil,_,_,h=>h.elim
 | .node l t' i r,t,hL,h=>by
   simp only[Lay.sQ]at h;cases hb:Nat.beq t t' with
   |true=>rw[hb]at h;obtain rfl:=aJ hb;exact⟨i,hL.1,h⟩
   | false =>
     rw[hb]at h;cases hc:Nat.ble t t' with
     |true=>rw[hc]at h;exact Lay.su hL.2.1 h
     |false=>rw[hc]at h;exact Lay.su hL.2.2 h
def XC(v:Value)(k:AV->Prop):Prop :=
 match v with
 | .bool true=>k .tt
 | .bool false=>k .ff
 | .int kd n=>k (.int kd n)
 | .string s=>k (.str s.data.toList)
 | .slice none 0 0=>k .qV
 | .nilIface=>k .vK
 | .pointer none=>k .wo
 | .map none=>k .zF
 | .nilFunc=>k .rC
 |_=>False
def uw(e:Env)(x:Operand)(k:AV->Prop):Prop :=
 match x with
 | .tmp t=>Ob e t k
 | .const v=>XC v k
 | .func f=>k (.fn f [])
 | .global _=>False
def FD(e:Env):List Operand->(List AV->Prop)->Prop
 | [],k=>k []
 |x::l,k=>uw e x λA=>FD e l λAs=>k (A::As)
def Hu{α:Type}:List α->Nat->(α->Prop)->Prop
 | [],_,_=>False
 |x::_,0,k=>k x
 |_::l,n+1,k=>Hu l n k
def Aa:List AV->Nat->AV->(List AV->Prop)->Prop
 | [],_,_,_=>False
 |_::l,0,y,k=>k (y::l)
 |x::l,n+1,y,k=>Aa l n y λl'=>k (x::l')
def Ze:List Nat->Nat->(List Nat->Prop)->Prop
 | [],x,k=>k [x]
 |y::l,x,k=>Ze l x λl'=>k (y::l')
def Y1:List AV->List AV->(List AV->Prop)->Prop
 | [],m,k=>k m
 |x::l,m,k=>Y1 l m λl'=>k (x::l')
def KA:AV->List Nat->(AV->Prop)->Prop
 |A,[],k=>k A
 | .ag l,i::p,k=>Hu l i λx=>KA x p k
 |_,_::_,_=>False
def I8:AV->List Nat->AV->(AV->Prop)->Prop
 |_,[],y,k=>k y
 | .ag l,i::p,y,k=>Hu l i λx=>I8 x p y λx'=>Aa l i x' λl'=>k (.ag l')
 |_,_::_,_,_=>False
def Wj:AV->List Nat->Nat
 | .ag l,i::p=>zf (l.take i)+(match l[i]? with|some x=>Wj x p|none=>0)
 |_,_=>0
def isVal:AV->Bool
 | .uy _ | .und=>false
 |_=>true
def Vt(A:AV)(k:Prop):Prop:=match isVal A with|true=>k|false=>False
def Ti:List AV->Prop->Prop
 | [],k=>k
 |A::l,k=>Vt A (Ti l k)
def OZ (L:Lay) (t:Nat) (x:AV) (k:Prop):Prop :=
 Vt x <| L.sQ t λi=>match Nat.beq (flat x) (flat i.zero)with
  |false=>False
  | true=>match uG x,uG i.zero with
    |true,true=>k
    |false,false=>k
    |_,_=>False
def BP(a b:Nat)(k:Prop):Prop:=match Nat.beq a b with|true=>k|false=>False
def SE(a b:Nat)(k:Prop):Prop:=match Nat.ble a b with|true=>k|false=>False
def br(A:AV)(kt kf:Prop):Prop :=
 match A with
 | .tt=>kt
 | .ff=>kf
 | .bool b=>(b=true->kt)/\(b=false->kf)
 | .dec p=>(p->kt)/\(¬p->kf)
 |_=>False
def arith(kd:IntKind)(z:Int)(k:AV->Prop):Prop :=
 match kd with
 | .i64=>KE .i64 z/\k (.int .i64 z)
 |kd=>k (.int kd (kd.wrap z))
def BN(op:BinOp)(k:IntKind)(x y:Int):Int :=
 match op with
 | .and=>k.wrap (BitVec.ofInt k.bits x&&&BitVec.ofInt k.bits y).toNat
 | .or=>k.wrap (BitVec.ofInt k.bits x|||BitVec.ofInt k.bits y).toNat
 | .xor=>k.wrap (BitVec.ofInt k.bits x ^^^ BitVec.ofInt k.bits y).toNat
 |_=>k.wrap (BitVec.ofInt k.bits x &&& ~~~ (BitVec.ofInt k.bits y)).toNat
def VK(k:IntKind)(x y:Int):Int:=k.wrap (x*2^min y.toNat k.bits)
def Ox(k:IntKind)(x y:Int):Int:=x.fdiv (2^min y.toNat k.bits)
def KG:AV->(AV->Prop)->Prop
 | .tt,k=>k .ff
 | .ff,k=>k .tt
 | .bool b,k=>k (.bool (!b))
 | .dec p,k=>k (.dec (¬p))
 |_,_=>False
def XY(x:AV)(k:AV->Prop):Prop :=
 match x with
 | .tt=>k .tt | .ff=>k .ff | .bool b=>k (.bool b) | .dec p=>k (.dec p)|_=>False
def eqB(A B:AV)(k:AV->Prop):Prop :=
 match A,B with
 | .tt,x=>XY x k
 |x,.tt=>XY x k
 | .ff,x=>KG x k
 |x,.ff=>KG x k
 | .bool a,.bool b=>k (.dec (a=b))
 | .dec p,.dec q=>k (.dec (p↔q))
 | .dec p,.bool b=>k (.dec (p↔b=true))
 | .bool b,.dec p=>k (.dec (b=true↔p))
 |_,_=>False
def TJ(A B:AV)(k:AV->Prop):Prop :=
 match A,B with
 | .vK,.vK=>k .tt
 | .vK,.uY _ _=>k .ff
 | .uY _ _,.vK=>k .ff
 |_,_=>False
def KY(A B:AV)(k:AV->Prop):Prop :=
 match A,B with
 | .wo,.wo=>k .tt
 | .cp _,.wo=>k .ff
 | .ptr _ _ _,.wo=>k .ff
 |_,_=>False
def b5U(d:TD)(op:BinOp)(hc:Bool)(A B:AV)(k:AV->Prop):Prop :=
 match d,op with
 | .bool,.eql=>eqB A B k
 | .bool,.neq=>eqB A B λR=>KG R k
 | .iface,.eql=>(match hc with|true=>TJ A B k|false=>False)
 | .iface,.neq=>(match hc with|true=>TJ A B λR=>KG R k|false=>False)
 | .ptr _,.eql=>KY A B k
 | .ptr _,.neq=>KY A B λR=>KG R k
 |_,_=>False
def SV (d:TD) (op:BinOp) (hc:Bool) (A B:AV) (k:AV->Prop):Prop :=
 match A,B with
 | .int ka a,.int kb b =>
   (match op with
   | .shl=>0<=b/\k (.int ka (VK ka a b))
   | .shr=>0<=b/\k (.int ka (Ox ka a b))
   | op=>match Hw ka kb with
     |false=>False
     | true=>match op with
       | .add=>arith ka (a+b) k
       | .sub=>arith ka (a-b) k
       | .mul=>arith ka (a*b) k
       | .quo=>b≠0/\arith ka (a.tdiv b) k
       | .rem=>b≠0/\k (.int ka (a.tmod b))
       | .eql=>k (.dec (a=b))
       | .neq=>k (.dec (a≠b))
       | .lss=>k (.dec (a<b))
       | .leq=>k (.dec (a<=b))
       | .gtr=>k (.dec (b<a))
       | .geq=>k (.dec (b<=a))
       |op=>k (.int ka (BN op ka a b)))
 | .str a,.str b =>
   (match op with
   | .add=>a.length+b.length<=maxL/\k (.str (a++b))
   | .eql=>k (.dec (a=b))
   | .neq=>k (.dec (a≠b))
   | .lss=>k (.bool (Op.bytesLess a b))
   |_=>False)
 |A,B=>b5U d op hc A B k
def b1o(i:TI)(op:BinOp)(A B:AV)(k:AV->Prop):Prop :=
 match i.cmp,i.zero,A,B with
 | true,.ag zs,.ag l,.ag m=>match yG zs l,yG zs m with
   | true,true=>(match op with
     | .eql=>k (.dec (Xk l m))
     | .neq=>k (.dec (¬Xk l m))
     |_=>False)
   |_,_=>False
 |_,_,_,_=>False
structure Ce{α:Type}(l:List α)(n:Int)(k:α->Prop):Prop where
 ex:∃x,(0<=n/\l[n.toNat]? = some x)/\k x
structure b1C{α:Type}(l:List α)(lo hi:Int)(k:List α->Prop):Prop where
 ex:(0<=lo/\lo<=hi/\hi<=(l.length:Int))/\k ((l.drop lo.toNat).take (hi.toNat-lo.toNat))
inductive YC(e n:Nat)(sz:Nat)(z:AV)(H:Heap)(k:AV->Heap->Prop):Prop where
 |pure (h:n=e/\k (.sl sz (List.replicate n z) .full) H)
 |wr (h:k (.ms (nextId H) 0 n e sz) ((nextId H,.arr sz e (List.replicate n z))::H))
def NT(A:AV)(k:AV->Prop):Prop:=match FQ A with|true=>k (strip A)|false=>False
def Ov(H:Heap)(sz:Nat)(B:AV)(k:List AV->Prop):Prop :=
 match B with
 | .qV=>k []
 | .sl sz' m _=>BP sz' sz (k m)
 | .ms j off len _ sz'=>yt H j λo=>match o with
   | .arr b4q _ l=>BP sz' sz (BP b4q sz (off+len<=l.length/\k ((l.drop off).take len)))
   |_=>False
 | .str s=>BP sz 1 (k (s.map λb=>.int .u8 b.toNat))
 |_=>False
structure b38(sz bytes:Nat)(l m:List AV)(k:Prop):Prop where
 len:l.length+m.length<=maxL
 room:(l.length+m.length)*bytes<=140737488355328
 next:k
inductive Oq(sz bytes:Nat)(l m:List AV)(H:Heap)(k:AV->Heap->Prop):Prop where
 |tok (len:l.length+m.length<=maxL) (room:(l.length+m.length)*bytes<=140737488355328) (next:GH H (.tok sz (l.length+m.length)) λj H'=>k (.sl sz (l++m) (.own j)) H')
 |pure (len:l.length+m.length<=maxL) (room:(l.length+m.length)*bytes<=140737488355328) (next:k (.sl sz (l++m) .no) H)
inductive b37(sz bytes:Nat)(l m:List AV)(H:Heap)(k:AV->Heap->Prop):Prop where
 |tok (len:l.length+m.length<=maxL) (room:(l.length+m.length)*bytes<=140737488355328) (next:GH H (.tok sz (l.length+m.length)) λj H'=>k (.sl sz (l++m) (.own j)) H')
 |pure (len:l.length+m.length<=maxL) (room:(l.length+m.length)*bytes<=140737488355328) (next:k (.sl sz (l++m) .no) H)
 | wr (ne:m≠[]) (len:l.length+m.length<=maxL) (room:(l.length+m.length)*bytes<=140737488355328)
   (next:∀cp,l.length+m.length<=cp->cp<=maxL->k (.ms (nextId H) 0 (l.length+m.length) cp sz) ((nextId H,.arr sz cp (l++m))::H))
mutual
def IY:AV->AV->Prop
 | .tt,.bool b=>b=true
 | .tt,.dec p=>p
 | .ff,.bool b=>b=false
 | .ff,.dec p=>¬p
 | .bool a,.bool b=>a=b
 | .bool a,.dec p=>(a=true↔p)
 | .bool a,.tt=>a=true
 | .bool a,.ff=>a=false
 | .dec p,.bool b=>(p↔b=true)
 | .dec p,.dec q=>(p↔q)
 | .dec p,.tt=>p
 | .dec p,.ff=>¬p
 | .int k a,.int k' b=>k=k'/\a=b
 | .str a,.str b=>a=b
 | .qV,.sl _ l .no=>l=[]
 | .sl s l .no,.sl s' l' .no=>s=s'/\tV l l'
 | .ag l,.ag m=>tV l m
 | .uY t x,.uY t' y=>t=t'/\IY x y
 |A,B=>A=B
def tV:List AV->List AV->Prop
 | [],[]=>True
 |x::l,y::m=>IY x y/\tV l m
 |_,_=>False
end
mutual
def le0:AV->AV->Prop
 | .tt,.bool b=>b=true
 | .tt,.dec p=>p
 | .ff,.bool b=>b=false
 | .ff,.dec p=>¬p
 | .bool a,.bool b=>a=b
 | .bool a,.dec p=>(a=true↔p)
 | .bool a,.tt=>a=true
 | .bool a,.ff=>a=false
 | .dec p,.bool b=>(p↔b=true)
 | .dec p,.dec q=>(p↔q)
 | .dec p,.tt=>p
 | .dec p,.ff=>¬p
 | .int k a,.int k' b=>k=k'/\a=b
 | .str a,.str b=>a=b
 | .qV,.sl _ l .no=>l=[]
 | .qV,.sl _ l .full=>l=[]
 | .sl s l _,.sl s' l' .no=>s=s'/\tV l l'
 | .sl s l .full,.sl s' l' .full=>s=s'/\tV l l'
 | .sl s l (.own k),.sl s' l' (.own k')=>s=s'/\tV l l'/\k=k'
 | .uY t x,.uY t' y=>t=t'/\le0 x y
 | .ag l,.ag m=>Ld l m
 |A,B=>A=B
def Ld:List AV->List AV->Prop
 | [],[]=>True
 |x::l,y::m=>le0 x y/\Ld l m
 |_,_=>False
end
def le(A B:AV):Prop:=match A,B with|_,.und=>True | .uy l,.uy m=>Ld l m|A,B=>le0 A B
mutual
def tH(n:Nat):AV->Bool
 | .ptr k _ _=>Nat.blt k n
 | .ms k _ _ _ _=>Nat.blt k n
 | .mp k=>Nat.blt k n
 | .gs k _=>Nat.blt k n
 | .bm _ k=>Nat.blt k n
 | .sl _ _ (.own k)=>Nat.blt k n
 | .fn _ cap=>vW n cap
 | .ag l=>vW n l
 | .uy l=>vW n l
 | .uY _ x=>tH n x
 |_=>true
def vW(n:Nat):List AV->Bool
 | []=>true
 |x::l=>match tH n x with|true=>vW n l|false=>false
end
structure FT where
 h:Nat->List AV->Heap->AV->Heap->Prop
 q:Nat->List AV->Heap->(AV->Heap->Prop)->Prop
 /-- b8S may wrap. -/
 w:Bool:=false
instance:CoeFun FT λ_=>Nat->List AV->Heap->AV->Heap->Prop:=⟨FT.h⟩
inductive IB(F:FT)(vV:AV->Prop)(f:Nat)(args:List AV)(H:Heap)(k:AV->Heap->Prop):Prop where
 |gen (R:AV) (H':Heap) (h:F f args H R H') (h':vV R->k R H')
 |pure (Bs:List AV) (R:AV) (hle:Ld args Bs) (hb:vW 0 Bs=true/\tH 0 R=true) (h:F f Bs [] R []) (h':vV R->k R H)
inductive IW(F:FT)(vV:AV->Prop)(f:Nat)(args:List AV)(H:Heap)(k:AV->Heap->Prop):Prop where
 |gen (R:AV) (H':Heap) (h:F f args H R H') (h':vV R->k R H')
 |pure (Bs:List AV) (R:AV) (hle:Ld args Bs) (hb:vW 0 Bs=true/\tH 0 R=true) (h:F f Bs [] R []) (h':vV R->k R H)
 |rel (Q:AV->Heap->Prop) (h:F.q f args H Q) (h':∀R H',Q R H'->vV R->k R H')
 |b71 (Bs:List AV) (Q:AV->Prop) (hle:Ld args Bs) (hb:vW 0 Bs=true) (h:F.q f Bs [] λR H'=>H'=[]/\tH 0 R=true/\Q R) (h':∀R,Q R->vV R->k R H)
def Ah:Operand->Bool
 | .const _=>true
 |_=>false
mutual
def Ut:AV->List Value
 | .int k n=>[.int k n]
 | .str s=>[.string ⟨s.toArray⟩]
 | .ag l=>b6a l
 |_=>[]
def b6a:List AV->List Value
 | []=>[]
 |x::l=>Ut x++b6a l
end
def a4I(es:List (AV×AV))(K:AV):Option AV->Prop
 |none=>∀x∈es,Ut x.1≠Ut K
 |some v=>∃x∈es,Ut x.1=Ut K/\x.2=v
structure FW(es:List (AV×AV))(K:AV)(k:Option AV->Prop):Prop where
 ex:∃r,a4I es K r/\k r
def b7T(es:List (AV×AV))(K V:AV)(es':List (AV×AV)):Prop :=
 ((∀x∈es,Ut x.1≠Ut K)/\es'=es++[(K,V)])\/∃j x,es[j]? = some x/\Ut x.1=Ut K/\es'=es.set j (K,V)
structure b1B(es:List (AV×AV))(K V:AV)(k:List (AV×AV)->Prop):Prop where
 ex:∃es',b7T es K V es'/\k es'
def Zy(b:Bool)(k:Prop):Prop:=match b with|true=>k|false=>False
def DI(ok:Bool)(z:AV)(r:Option AV)(k:AV->Prop):Prop :=
 match ok,r with
 |true,some v=>k (.uy [v,.tt])
 |true,none=>k (.uy [z,.ff])
 |false,some v=>k v
 |false,none=>k z
def b0s(z:AV)(s:Nat)(A:AV)(ok:Bool)(k:AV->Prop):Prop :=
 match A,ok with
 | .vK,true=>k (.uy [z,.ff])
 | .uY t y,true=>(match Nat.beq t s with|true=>k (.uy [y,.tt])|false=>k (.uy [z,.ff]))
 | .uY t y,false=>(match Nat.beq t s with|true=>k y|false=>False)
 |_,_=>False
def b4h(op:BinOp)(A:AV)(k:AV->Prop):Prop :=
 match op,A with
 | .eql,.qV=>k .tt
 | .neq,.qV=>k .ff
 | .eql,.ms _ _ _ _ _=>k .ff
 | .neq,.ms _ _ _ _ _=>k .tt
 | .eql,.sl _ l _=>∀b:Bool,(b=true->l=[])->k (.bool b)
 | .neq,.sl _ l _=>∀b:Bool,(b=false->l=[])->k (.bool b)
 |_,_=>False
def F5:Op->Bool
 | .binOp _ _ _ (.const (.slice none 0 0)) _=>true
 |_=>false
def noNil(op:Op)(k:Prop):Prop:=match F5 op with|true=>False|false=>k
def zq(e:Env):List (Nat×Operand)->List AV->(List AV->Prop)->Prop
 | [],zs,k=>k zs
 | (i,x)::ps,zs,k=>uw e x λA=>Vt A <| Hu zs i λz=>BP (flat A) (flat z) (match uG A,uG z with
   |true,true=>Aa zs i A λzs'=>zq e ps zs' k
   |false,false=>Aa zs i A λzs'=>zq e ps zs' k
   |_,_=>False)
def Qo:List AV->Bool
 | []=>true
 |x::l=>match Nat.beq (flat x) 1 with|true=>Qo l|false=>false
def zO(e:Env):List (Nat×Operand)->List AV->(List AV->Prop)->Prop
 | [],zs,k=>k zs
 | (i,x)::ps,zs,k=>uw e x λA=>Hu zs i λz=>BP (flat A) (flat z) (match uG A,uG z with
   |true,true=>NT A λB=>Aa zs i B λzs'=>zO e ps zs' k
   |false,false=>NT A λB=>Aa zs i B λzs'=>zO e ps zs' k
   |_,_=>False)
def a8K(z:AV):Nat->(List AV->Prop)->Prop
 | 0,k=>k []
 |n+1,k=>a8K z n λl=>k (z::l)
section
variable(F:FT)(vV:AV->Prop)(L:Lay)
def Ap(t:Nat)(A:AV)(H:Heap)(k:AV->Prop):Prop :=
 match A with
 | .cp x=>OZ L t x (k x)
 | .ptr i p off=>yt H i λo=>match o with
   | .box A=>KA A p λx=>BP (Wj A p) off (OZ L t x (k x))
   | .arr sz _ l=>(match p with
     | [j]=>Ce l (j:Int) λx=>off=j*sz/\OZ L t x (k x)
     |j::q=>Ce l (j:Int) λx=>KA x q λy=>off=j*sz+Wj x q/\OZ L t y (k y)
     |_=>False)
   |_=>False
 |_=>False
def X7(t:Nat)(A B:AV)(H:Heap)(k:Heap->Prop):Prop :=
 match A with
 | .ptr i p off=>yt H i λo=>match o with
   | .box A=>KA A p λx=>BP (Wj A p) off (OZ L t B (BP (flat x) (flat B) (I8 A p B λA'=>G5 H i (.box A') k)))
   | .arr sz cap l=>(match p with
     | [j]=>NT B λB'=>BP (flat B) sz (OZ L t B (j<l.length/\off=j*sz/\G5 H i (.arr sz cap (l.set j B')) k))
     |j::q=>Ce l (j:Int) λx=>KA x q λy=>off=j*sz+Wj x q/\OZ L t B (BP (flat y) (flat B) (I8 x q B λA'=>NT A' λA''=>G5 H i (.arr sz cap (l.set j A'')) k))
     |_=>False)
   |_=>False
 |_=>False
def QT (t:Nat) (A K V:AV) (H:Heap) (ks:Heap->Prop):Prop :=
 L.sQ t λi=>(match i.desc,i.key with
  | .map _ et,some sh=>Zy (qU sh K) <| OZ L et V <| (match A with
    | .mp j=>yt H j λo=>(match o with
      | .tY sh' es=>Zy (qU sh' sh) <| b1B es K V λes'=>G5 H j (.tY sh' es') ks
      |_=>False)
    |_=>False)
  |_,_=>False)
def SN (t:Nat) (A:AV) (f:Nat) (k:AV->Prop):Prop :=
 L.sQ t λi=>match i.desc,i.zero with
  | .struct _,.ag zs=>(match A with
    | .cp (.ag l)=>BP (zf (l.take f)) (zf (zs.take f)) (Hu zs f λz=>(match flat z with
      | 0=>False
      |_+1=>Hu l f λx=>k (.cp x)))
    | .ptr j p off=>Hu zs f λz=>(match flat z with
      | 0=>False
      |_+1=>Ze p f λp'=>k (.ptr j p' (off+zf (zs.take f))))
    |_=>False)
  |_,_=>False
def a1U (t:Nat) (A:AV) (f:Nat) (k:AV->Prop):Prop :=
 L.sQ t λi=>match i.desc,i.zero,A with
  | .struct fs,.ag zs,.ag l=>Hu zs f λ_=>Hu fs f λfd=>L.sQ fd.2.2 λj=>(match uG j.zero with
    |false=>BP (zf (l.take f)) (zf (zs.take f)) (Hu l f λy=>(match uG y with|false=>k y|true=>False))
    |true=>False)
  |_,_,_=>False
def Es(t:Nat)(A I:AV)(k:AV->Prop):Prop :=
 match I with
 | .int _ n=>L.sQ t λi=>(match i.desc,A with
   | .slice e,.sl sz l _=>L.sQ e λei=>BP sz (flat ei.zero) (Ce l n λx=>k (.cp x))
   | .slice e,.ms j off len _ sz=>L.sQ e λei=>BP sz (flat ei.zero) ((0<=n/\n<(len:Int))/\k (.ptr j [off+n.toNat] ((off+n.toNat)*sz)))
   | .arr m e,.ptr j p off=>L.sQ e λei=>(0<=n/\n<(m:Int))/\Ze p n.toNat λp'=>k (.ptr j p' (off+n.toNat*flat ei.zero))
   |_,_=>False)
 |_=>False
def SL(t:Nat)(A I:AV)(k:AV->Prop):Prop :=
 match A,I with
 | .str s,.int _ n=>L.sQ t λi=>(match i.desc with
   | .str=>Ce s n λb=>k (.int .u8 b.toNat)
   |_=>False)
 |_,_=>False
def LM(e:Env)(x:Option Operand)(d:Int)(k:Int->Prop):Prop :=
 match x with
 |none=>k d
 |some x=>uw e x λA=>match A with | .int _ n=>k n|_=>False
def aslice (t:Nat) (e:Env) (A:AV) (lo hi:Option Operand) (k:AV->Prop):Prop :=
 L.sQ t λi=>match i.desc,A with
  | .str,.str s=>LM e lo 0 λl=>LM e hi s.length λh=>b1C s l h λs'=>k (.str s')
  | .slice el,.sl sz l _=>L.sQ el λei=>BP sz (flat ei.zero) (LM e lo 0 λa=>LM e hi l.length λb=>b1C l a b λl'=>k (.sl sz l' .no))
  | .slice el,.ms j off len cap sz=>L.sQ el λei=>BP sz (flat ei.zero) (LM e lo 0 λa=>LM e hi len λb =>
    (0<=a/\a<=b/\b<=(len:Int))/\a<(cap:Int)/\k (.ms j (off+a.toNat) (b.toNat-a.toNat) (cap-a.toNat) sz))
  | .slice el,.qV=>L.sQ el λ_=>LM e lo 0 λa=>LM e hi 0 λb=>(a=0/\b=0)/\k .qV
  |_,_=>False
def AP (t:Nat) (A B:AV) (H:Heap) (k:AV->Heap->Prop):Prop :=
 L.sQ t λi=>match i.desc with
  | .slice e=>L.sQ e λei=>(match A with
    | .qV=>Ov H (flat ei.zero) B λm=>Oq (flat ei.zero) ei.bytes [] m H k
    | .sl sz l .full=>BP sz (flat ei.zero) (Ov H sz B λm=>Oq sz ei.bytes l m H k)
    | .sl sz l (.own j)=>BP sz (flat ei.zero) (Ov H sz B λm=>yt H j λo=>match o with
      | .tok sz' top=>BP sz' sz (top=l.length/\b38 sz ei.bytes l m (G5 H j (.tok sz (l.length+m.length)) λH'=>k (.sl sz (l++m) (.own j)) H'))
      |_=>False)
    |_=>False)
  |_=>False
def QU (t:Nat) (A B:AV) (H:Heap) (k:AV->Heap->Prop):Prop :=
 L.sQ t λi=>match i.desc with
  | .slice e=>L.sQ e λei=>(match A with
    | .qV=>Ov H (flat ei.zero) B λm=>b37 (flat ei.zero) ei.bytes [] m H k
    | .sl sz l .full=>BP sz (flat ei.zero) (Ov H sz B λm=>b37 sz ei.bytes l m H k)
    | .sl sz l (.own j)=>BP sz (flat ei.zero) (Ov H sz B λm=>yt H j λo=>match o with
      | .tok sz' top=>BP sz' sz (top=l.length/\b38 sz ei.bytes l m (G5 H j (.tok sz (l.length+m.length)) λH'=>k (.sl sz (l++m) (.own j)) H'))
      |_=>False)
    | .gs j len=>Ov H (flat ei.zero) B λm=>yt H j λo=>match o with
      | .uH sz l=>BP sz (flat ei.zero) (l.length=len/\m≠[]/\b38 sz ei.bytes l m (G5 H j (.uH sz (l++m)) λH'=>k (.gs j (len+m.length)) H'))
      |_=>False
    | .ms j off len cap 1=>BP (flat ei.zero) 1 (Ov H 1 B λm=>yt H j λo=>match o with
      | .arr 1 cp l=>(off+len<=l.length/\off+len+m.length<=cp/\len+m.length<=cap)/\G5 H j (.arr 1 cp (l.take (off+len)++m++l.drop (off+len+m.length))) λH'=>k (.ms j off (len+m.length) cap 1) H'
      |_=>False)
    |_=>False)
  |_=>False
def Yb (t:Nat) (A B:AV) (H:Heap) (k:AV->Heap->Prop):Prop :=
 L.sQ t λi=>match i.desc with
  | .slice e=>L.sQ e λei=>Zy (!uG ei.zero) (match A,B with
    | .qV,.int _ n=>(0<n/\n<=9223372036854775807/\n*ei.bytes<=140737488355328) /\
      ∀cp,n.toNat<=cp->cp<=maxL->k (.ms (nextId H) 0 n.toNat cp 1) ((nextId H,.arr 1 cp (List.replicate n.toNat ei.zero))::H)
    |_,_=>False)
  |_=>False
def b0t(d:TD)(A:AV)(_:Heap)(k:AV->Prop):Prop :=
 match d,A with
 | .slice _,.qV=>k (.int .i64 0)
 | .slice _,.sl _ l _=>k (.int .i64 l.length)
 | .slice _,.ms _ _ len _ _=>k (.int .i64 len)
 | .str,.str s=>k (.int .i64 s.length)
 | .map _ _,.zF=>k (.int .i64 0)
 |_,_=>False
def b2q(A B:AV)(k:AV->Prop):Prop :=
 match A,B with
 | .int ka a,.int kb b=>(match Hw ka kb with|true=>k (.int ka (max a b))|false=>False)
 |_,_=>False
def Us(A B:AV)(k:AV->Prop):Prop :=
 match A,B with
 | .int ka a,.int kb b=>(match Hw ka kb with|true=>k (.int ka (min a b))|false=>False)
 |_,_=>False
def xP(b:Builtin)(argTypes:List Nat)(args:List AV)(H:Heap)(k:AV->Heap->Prop):Prop :=
 match b,argTypes,args with
 | .len,t::_,[A]=>L.sQ t λi=>b0t i.desc A H λR=>k R H
 | .append,t::u::_,[A,B]=>L.sQ u λi=>(match i.desc with
   | .slice _=>AP L t A B H k
   | .str=>AP L t A B H k
   |_=>False)
 | .max,_,[A,B]=>b2q A B λR=>k R H
 | .min,_,[A,B]=>Us A B λR=>k R H
 |_,_,_=>False
def SQ(b:Builtin)(argTypes:List Nat)(args:List AV)(H:Heap)(k:AV->Heap->Prop):Prop :=
 match b,argTypes,args with
 | .len,t::_,[A]=>L.sQ t λi=>(match i.desc,A with
   | .map _ _,.mp j=>yt H j λo=>(match o with
     | .tY _ es=>es.length<=9223372036854775807/\k (.int .i64 es.length) H
     |_=>False)
   | .slice _,.gs j n=>yt H j λo=>(match o with
     | .uH _ l=>l.length=n/\k (.int .i64 n) H
     |_=>False)
   |d,A=>b0t d A H λR=>k R H)
 | .append,t::u::_,[A,B]=>L.sQ u λi=>(match i.desc with
   | .slice _=>QU L t A B H k
   | .str=>QU L t A B H k
   | .int _=>Yb L t A B H k
   |_=>False)
 | .cap,t::_,[A]=>L.sQ t λi=>(match i.desc,A with
   | .slice _,.qV=>k (.int .i64 0) H
   |_,_=>False)
 | .max,_,[A,B]=>b2q A B λR=>k R H
 | .min,_,[A,B]=>Us A B λR=>k R H
 | .min,_,[A,B,C]=>Us A B λR=>Us R C λR=>k R H
 | .clear,t::_,[A]=>L.sQ t λi=>(match i.desc,A with
   | .slice el,.ms j off len _ 1=>L.sQ el λei=>Zy (!uG ei.zero) <| yt H j λo=>(match o with
     | .arr 1 cp l=>(0<len/\off+len<=l.length)/\G5 H j (.arr 1 cp (l.take off++List.replicate len ei.zero++l.drop (off+len))) λH'=>k (.uy []) H'
     |_=>False)
   |_,_=>False)
 |_,_,_=>False
def xI (op:Op) (e:Env) (H:Heap) (k:AV->Heap->Prop) (ks:Heap->Prop):Prop :=
 match op with
 | .move x=>uw e x λA=>k A H
 | .assign x=>uw e x λA=>k A H
 | .pick c a b=>uw e c λC=>(match C with
   | .tt=>uw e a λA=>k A H
   | .ff=>uw e b λA=>k A H
   | .bool x=>(x=true->uw e a λA=>k A H)/\(x=false->uw e b λA=>k A H)
   | .dec p=>(p->uw e a λA=>k A H)/\(¬p->uw e b λA=>k A H)
   |_=>False)
 | .alloc t=>L.sQ t λi=>GH H (.box i.zero) λj H'=>k (.ptr j [] 0) H'
 | .box t x=>uw e x λA=>OZ L t A (GH H (.box A) λj H'=>k (.ptr j [] 0) H')
 | .build t ps=>L.sQ t λi=>(match i.desc,i.zero with
   | .struct _,.ag zs=>zq e ps.toList zs λl=>k (.ag l) H
   | .arr _ el,.ag zs=>L.sQ el λei=>BP (flat ei.zero) 1 (Zy (Qo zs) (zq e ps.toList zs λl=>k (.ag l) H))
   |_,_=>False)
 | .buildSlice t n ps=>L.sQ t λi=>(match i.desc with
   | .slice el=>L.sQ el λei=>SE (n*flat ei.zero) 16777216 <| SE n 16777216 <| a8K ei.zero n λzs=>zO e ps.toList zs λl=>k (.sl (flat ei.zero) l .full) H
   |_=>False)
 | .load t x=>uw e x λA=>Ap L t A H λR=>k R H
 | .store t a x=>uw e a λA=>uw e x λB=>X7 L t A B H ks
 | .nilCheck x=>uw e x λA=>(match A with
   | .ptr _ _ _=>k A H
   | .cp _=>k A H
   | .fn _ _=>k A H
   |_=>False)
 | .binOp op t x y ty=>(match F5 (.binOp op t x y ty)with
   |true=>uw e x λA=>L.sQ t λi=>(match i.desc with | .slice _=>b4h op A λR=>k R H|_=>False)
   | false=>uw e x λA=>uw e y λB=>L.sQ t λi=>match uG A with
     |true=>b1o i op A B λR=>k R H
     |false=>SV i.desc op (Ah x||Ah y) A B λR=>k R H)
 | .typeAssert x _ s ok=>uw e x λA=>L.sQ s λi=>(match i.desc with
   | .iface=>False
   |_=>b0s i.zero s A ok λR=>k R H)
 | .makeMap t r=>(match r with
   |none=>L.sQ t λi=>(match i.key with|some sh=>GH H (.tY sh []) λj H'=>k (.mp j) H'|none=>False)
   |some _=>False)
 | .lookup t x ix ok=>uw e x λA=>uw e ix λK=>L.sQ t λi=>(match i.desc,i.key with
   | .map _ et,some sh=>Zy (qU sh K) <| L.sQ et λei=>(match A with
     | .mp j=>yt H j λo=>(match o with
       | .tY sh' es=>Zy (qU sh' sh) <| FW es K λr=>DI ok ei.zero r λR=>k R H
       |_=>False)
     |_=>False)
   |_,_=>False)
 | .mapUpdate t x ix y=>uw e x λA=>uw e ix λK=>uw e y λV=>QT L t A K V H ks
 | .unOp op _ x=>uw e x λA=>(match op,A with
   | .not,A=>KG A λR=>k R H
   | .neg,.int ka a=>arith ka (0-a) λR=>k R H
   |_,_=>False)
 | .convert s d x=>uw e x λA=>L.sQ s λ_=>L.sQ d λi=>(match i.desc,A with
   | .int kd,.int _ n=>k (.int kd (kd.wrap n)) H
   | .str,.str s=>k (.str s) H
   |_,_=>False)
 | .makeInterface t x=>uw e x λA=>L.sQ t λi=>(match i.desc with
   | .iface=>False
   |_=>Vt A (k (.uY t A) H))
 | .makeFunc f first cap=>(match f,first.toList with
   | .func g,[]=>FD e cap.toList λAs=>Ti As (k (.fn g As) H)
   |_,_=>False)
 | .makeSlice t l c=>uw e l λA=>uw e c λB=>L.sQ t λi=>(match i.desc,A,B with
   | .slice el,.int _ n,.int _ m=>L.sQ el λei=>(0<=n/\n<=m/\m*(ei.bytes:Int)<=281474976710656/\m<=9223372036854775807) /\
     YC m.toNat n.toNat (flat ei.zero) ei.zero H k
   |_,_,_=>False)
 | .slice t x lo hi mx=>(match mx with
   |none=>uw e x λA=>aslice L t e A lo hi λR=>k R H
   |some _=>False)
 | .fieldAddr t x f=>uw e x λA=>SN L t A f λR=>k R H
 | .indexAddr t x i=>uw e x λA=>uw e i λI=>Es L t A I λR=>k R H
 | .index t x i=>uw e x λA=>uw e i λI=>SL L t A I λR=>k R H
 | .extract x i=>uw e x λA=>(match A with
   | .uy l=>Hu l i λR=>k R H
   |_=>False)
 | .call c=>(match c.callee with
   | .value f=>uw e f λA=>(match A with
     | .fn g cap=>FD e c.args.toList λAs=>Y1 As cap λBs=>IB F vV g Bs H k
     |_=>False)
   | .builtin b=>FD e c.args.toList λAs=>xP L b c.argTypes.toList As H k
   | .invoke _ _=>False)
 |_=>False
def O6 (op:Op) (e:Env) (H:Heap) (k:AV->Heap->Prop) (ks:Heap->Prop):Prop :=
 match op with
 | .call c=>(match c.callee with
   | .builtin b=>FD e c.args.toList λAs=>SQ L b c.argTypes.toList As H k
   | .value f=>uw e f λA=>(match A with
     | .bm g j=>FD e c.args.toList λAs=>IB F vV g (.ptr j [] 0::As) H k
     | .fn g cap=>FD e c.args.toList λAs=>Y1 As cap λBs=>IW F vV g Bs H k
     |_=>xI F vV L (.call c) e H k ks)
   |_=>xI F vV L (.call c) e H k ks)
 | .makeFunc f first cap=>(match first.toList with
   | [x]=>(match f,cap.toList with
     | .func g,[]=>uw e x λA=>(match A with
       | .ptr j [] 0=>k (.bm g j) H
       |_=>False)
     |_,_=>False)
   |_=>xI F vV L (.makeFunc f first cap) e H k ks)
 | .insert t x ix y=>uw e x λA=>uw e ix λK=>uw e y λV=>QT L t A K V H ks
 | .field t x f=>uw e x λA=>a1U L t A f λR=>k R H
 | .binOp .add t x y ty=>(match F.w with
   |false=>xI F vV L (.binOp .add t x y ty) e H k ks
   | true=>uw e x λA=>uw e y λB=>(match A,B with
     | .int .i64 m,.int .i64 n=>k (.int .i64 (IntKind.i64.wrap (m+n))) H
     |_,_=>False))
 |op=>xI F vV L op e H k ks
end
inductive AX where
 |normal
 |exit (id:Nat)
 |ret
def rX:List Oper->List Nat
 | []=>[]
 |o::l=>match o.dst with|some d=>d::rX l|none=>rX l
def writes:Code->List Nat
 | .region _ ops _=>rX ops.toList
 | .seq a b=>writes a++writes b
 | .cond _ a b=>writes a++writes b
 | .block _ b=>writes b
 | .loop b=>writes b
 | .scope b=>writes b
 | .rangeFunc _ _ a b=>writes a++writes b
 |_=>[]
def leM:List (AV×AV)->List (AV×AV)->Prop
 | [],[]=>True
 |(x,v)::l,(y,u)::m=>x=y/\le0 v u/\leM l m
 |_,_=>False
def leO:HO->HO->Prop
 | .box A,.box B=>le0 A B
 | .arr s c l,.arr s' c' l'=>s=s'/\c=c'/\tV l l'
 | .tok s n,.tok s' n'=>s=s'/\n=n'
 | .tY s a,.tY s' b=>s=s'/\leM a b
 | .uH s l,.uH s' l'=>s=s'/\tV l l'
 | .glob g l,.glob g' l'=>g=g'/\l=l'
 |_,.gone=>True
 |_,_=>False
def Uw(n:Nat):HO->Bool
 | .box A=>tH n A
 |_=>true
def EZ(n:Nat):List (AV×AV)->Bool
 | []=>true
 |(x,y)::l=>match tH n x,tH n y with|true,true=>EZ n l|_,_=>false
def WkE(e:Env)(n:Nat):Env->Prop
 | []=>True
 |(t,A)::E=>Ob e t (λA'=>le A' A/\tH n A=true)/\WkE e n E
def WkH(H:Heap)(n:Nat):Heap->Prop
 | []=>True
 |(k,o)::G=>yt H k (λo'=>leO o' o/\(match o with | .tY _ es=>EZ n es=true|o=>Uw n o=true))/\WkH H n G
structure b31(H:Heap)(G:Heap):Prop where
 get:WkH H (nextId G) G
 ids:uS G
inductive HWk(H:Heap)(G:Heap):Prop where
 |refl (h:H=G)
 |mk (get:WkH H (nextId G) G) (ids:uS G)
inductive Cv:Env->Heap->Env->Heap->Prop where
 |refl (e:Env) (H:Heap):Cv e H e H
 | grow {e:Env} {H:Heap} {e':Env} {H':Heap} (t sz:Nat) (l:List AV) (A:AV) (h:vk e t=some A) (hA:(A=.qV/\l=[])\/A=.sl sz l .full)
   (h':Cv ((t,.sl sz l (.own (nextId H)))::e) ((nextId H,.tok sz l.length)::H) e' H'):Cv e H e' H'
 | freeze {e:Env} {H:Heap} {e':Env} {H':Heap} (t j off len cap cp sz:Nat) (l:List AV) (h:vk e t=some (.ms j off len cap sz)) (ho:hget H j=some (.arr sz cp l)) (hl:off+len<=l.length)
   (h':Cv ((t,.sl sz ((l.drop off).take len) .no)::e) (hset H j .gone) e' H'):Cv e H e' H'
 | keep {e:Env} {H:Heap} {e':Env} {H':Heap} (t j len cp sz:Nat) (l:List AV) (h:vk e t=some (.ms j 0 len cp sz)) (ho:hget H j=some (.arr sz cp l)) (hl:len<=l.length)
   (h':Cv ((t,.sl sz (l.take len) (.own (nextId H)))::e) ((nextId H,.tok sz len)::hset H j .gone) e' H'):Cv e H e' H'
 | FU {e:Env} {H:Heap} {e':Env} {H':Heap} (j:Nat) (p:List Nat) (sz:Nat) (l:List AV) (A B A':AV) (ho:hget H j=some (.box A)) (hp:KA A p (λx=>x=B)) (hB:(B=.qV/\l=[])\/B=.sl sz l .full)
   (hs:I8 A p (.sl sz l (.own (nextId H))) (λx=>x=A')) (h':Cv e (hset ((nextId H,.tok sz l.length)::H) j (.box A')) e' H'):Cv e H e' H'
 | b6Y {e:Env} {H:Heap} {e':Env} {H':Heap} (t sz:Nat) (h:vk e t=some .qV)
   (h':Cv ((t,.gs (nextId H) 0)::e) ((nextId H,.uH sz [])::H) e' H'):Cv e H e' H'
 | Nk {e:Env} {H:Heap} {e':Env} {H':Heap} (t j sz:Nat) (l:List AV) (h:vk e t=some (.gs j l.length)) (ho:hget H j=some (.uH sz l)) (hl:l.length<=maxL)
   (h':Cv ((t,.sl sz l .no)::e) (hset H j .gone) e' H'):Cv e H e' H'
structure qN(vV:AV->Prop)(ws:List Nat)(body:(AX->Env->Heap->Prop)->Env->Heap->Prop)(Q:AX->Env->Heap->Prop)(e:Env)(H:Heap):Prop where
 ex:∃(e₁:Env) (H₁:Heap) (ι:Type) (E:ι->Env) (kept:Env) (HS:ι->Heap) (μ:ι->Nat) (i₀:ι) (R:ι->Env->Heap->Prop),
  (∀i e' H',R i e' H'->∃i' e₂ H₂,Cv e' H' e₂ H₂/\(WkE e₂ (nextId (HS i')) (E i')/\HWk H₂ (HS i'))/\μ i'<μ i) /\
  Cv e H e₁ H₁ /\
  (∀t A,(t,A)∈kept->vk e₁ t=some A/\ws.contains t=false) /\
  (∀i,nextId (HS i)=nextId H₁) /\
  (WkE e₁ (nextId H₁) (E i₀)/\HWk H₁ (HS i₀)) /\
  ∀ i,(∀t A,(t,A)∈E i->vV A) ->
    body (λx e' H'=>match x with
     | .normal=>R i e' H'
     |x=>Q x e' H') (E i++kept) (HS i)
def LoopN(vV:AV->Prop)(ws:List Nat)(body:(AX->Env->Heap->Prop)->Env->Heap->Prop)(Q:AX->Env->Heap->Prop):Nat->Env->Heap->Prop
 | 0,e,H=>qN vV ws body Q e H
 |n+1,e,H=>body (λx e' H'=>match x with | .normal=>LoopN vV ws body Q n e' H'|x=>Q x e' H') e H
structure a0X(vV:AV->Prop)(ws:List Nat)(body:(AX->Env->Heap->Prop)->Env->Heap->Prop)(Q:AX->Env->Heap->Prop)(e:Env)(H:Heap):Prop where
 ex:∃(e₁:Env) (H₁:Heap) (ι:Type) (E:ι->Env) (kept:Env) (HS:ι->Heap) (μ:ι->Nat) (i₀:ι) (R:ι->Env->Heap->Prop),
  (∀i e' H',R i e' H'->∃i' e₂ H₂,Cv e' H' e₂ H₂/\(WkE e₂ (nextId (HS i')) (E i')/\HWk H₂ (HS i'))/\μ i'<μ i) /\
  Cv e H e₁ H₁ /\
  (∀t A,(t,A)∈kept->vk e₁ t=some A/\ws.contains t=false) /\
  (∀i,nextId (HS i)=nextId H₁) /\
  (WkE e₁ (nextId H₁) (E i₀)/\HWk H₁ (HS i₀)) /\
  ∀ i,(∀t A,(t,A)∈E i->vV A) ->
    body (λx e' H'=>match x with
     | .normal=>R i e' H'\/∃n,LoopN vV ws body Q n e' H'
     |x=>Q x e' H') (E i++kept) (HS i)
inductive qW(vV:AV->Prop)(ws:List Nat)(body:(AX->Env->Heap->Prop)->Env->Heap->Prop)(Q:AX->Env->Heap->Prop)(e:Env)(H:Heap):Prop where
 |ex (h:∃n,LoopN vV ws body Q n e H)
 /-- What has grown by appends is written from now on. -/
 | thaw (t j sz:Nat) (l:List AV) (h:vk e t=some (.gs j l.length)) (ho:hget H j=some (.uH sz l)) (ne:l≠[])
   (next:∀cp,l.length<=cp->cp<=maxL->∃n,LoopN vV ws body Q n ((t,.ms (nextId H) 0 l.length cp sz)::e) ((nextId H,.arr sz cp l)::hset H j .gone))
 |esc (h:a0X vV ws body Q e H)
section
variable(F:FT)(vV:AV->Prop)(L:Lay)
def CO(dst:Option Nat)(A:AV)(e:Env)(k:Env->Prop):Prop :=
 match dst with
 |some d=>k ((d,A)::e)
 |none=>k e
def b6f:List Oper->Nat->(Nat->Prop)->Prop
 | [],_,_=>False
 |o::_,0,k=>match o.dst with|some d=>k d|none=>False
 |_::l,n+1,k=>b6f l n k
def zX(ops:List Oper)(g:Option (Nat×Bool))(e:Env)(yes no:Env->Prop):Prop :=
 match g with
 |none=>yes e
 | some (j,b)=>b6f ops j λd=>Ob e d λA=>match A,b with
   | .tt,true=>yes e
   | .tt,false=>no e
   | .ff,true=>no e
   | .ff,false=>yes e
   | .bool x,true=>(x=true->yes ((d,.tt)::e))/\(x=false->no ((d,.ff)::e))
   | .bool x,false=>(x=true->no ((d,.tt)::e))/\(x=false->yes ((d,.ff)::e))
   | .dec p,true=>(p->yes ((d,.tt)::e))/\(¬p->no ((d,.ff)::e))
   | .dec p,false=>(p->no ((d,.tt)::e))/\(¬p->yes ((d,.ff)::e))
   | .uy [],_=>no e
   |_,_=>False
def Hy (ops:List Oper):List Oper->Env->Heap->(Env->Heap->Prop)->Prop
 | [],e,H,k=>k e H
 |o::l,e,H,k=>zX ops o.guard e
    (λe=>O6 F vV L o.op e H (λA H'=>CO o.dst A e λe'=>Hy ops l e' H' k) (λH'=>match o.dst with|none=>Hy ops l e H' k|some _=>False))
    (λe=>CO o.dst (.uy []) e λe'=>Hy ops l e' H k)
end
def Wi:List Operand->List Nat
 | []=>[]
 | .tmp t::l=>t::Wi l
 |_::l=>Wi l
def tK:Op->List Operand
 | .move x | .assign x | .load _ x | .nilCheck x | .unOp _ _ x | .convert _ _ x | .makeInterface _ x | .box _ x | .extract x _ | .fieldAddr _ x _=>[x]
 | .pick a b d=>[a,b,d]
 | .store _ x y | .binOp _ _ x y _ | .makeSlice _ x y | .indexAddr _ x y | .index _ x y | .lookup _ x y _=>[x,y]
 | .typeAssert x _ _ _=>[x]
 | .mapUpdate _ x y z=>[x,y,z]
 | .build _ ps | .buildSlice _ _ ps=>ps.toList.map (·.2)
 | .makeFunc _ _ cap=>cap.toList
 | .slice _ x lo hi _=>x::(lo.toList++hi.toList)
 | .call cl=>(match cl.callee with | .value f=>[f]|_=>[])++cl.args.toList
 |_=>[]
def Jj(acc:List Nat):List Edge->Nat->Nat
 | [],s=>s
 |e::l,s=>Jj acc l (match Region.binds .any e with|true=>s|||2^e.on|||acc.getD e.on 0|false=>s)
def LQ:List Oper->List Nat->List Nat
 | [],acc=>acc
 |o::l,acc=>LQ l (acc++[Jj acc o.after.toList 0])
def Qc:Op->Bool
 | .move _ | .assign _ | .pick .. | .build .. | .buildSlice .. | .nilCheck _ | .binOp .. | .unOp .. | .convert .. | .makeInterface .. | .makeFunc .. | .makeSlice .. | .slice .. | .fieldAddr .. | .indexAddr .. | .index .. | .extract .. | .typeAssert ..=>true
 | .call c=>(match c.callee with | .builtin .len=>true | .builtin .max=>true | .builtin .min=>true | .builtin .append=>true | .value _=>true|_=>false)
 |_=>false
def tu:Op->Bool
 | .load _ _=>true
 |_=>false
def ZB(op:Op):Bool:=Qc op||tu op
def b4f(op:Op):Bool:=match op with
 | .call c=>(match c.callee with | .builtin .append=>false|_=>Qc op)
 |op=>Qc op
def Pm:Op->Bool
 | .alloc _=>true
 | .makeMap _ _=>true
 | .call c=>(match c.callee with | .builtin .append=>true|_=>false)
 |_=>false
def BF:Op->Bool
 | .alloc _=>true
 | .makeMap _ none=>true
 |_=>false
def Uy:Op->Bool
 | .call c=>(match c.callee with | .builtin .append=>true|_=>false)
 |_=>false
def uM(ops:List Oper)(o:Oper):List Nat :=
 o.dst.toList++Wi (tK o.op)++(match o.guard with|some (g,_)=>(match ops[g]? with|some og=>og.dst.toList|none=>[])|none=>[])
def Eo(ops:List Oper)(x y:Oper×Bool):Bool :=
 (!x.2 && !y.2 && !BF y.1.op && !(tu x.1.op&&(tu y.1.op||Pm y.1.op)) && !(Uy x.1.op&&tu y.1.op&&ops.all λo=>!BF o.op)) ||
 (match x.1.dst with|some d=>(uM ops y.1).contains d|none=>false) ||
 (match y.1.dst with|some d=>(uM ops x.1).contains d|none=>false)
def b2u (ops:List Oper) (zm:List (Oper×Bool)):Bool :=
 zm.zipIdx.all λy=>!(BF y.1.1.op && !y.1.2)||((match y.1.1.guard with|none=>true|some _=>false)&&(match y.1.1.dst with
  |none=>false
  | some d=>zm.zipIdx.all λx=>!Nat.blt x.2 y.2||x.1.2||tu x.1.1.op||((LQ ops []).getD y.2 0).testBit x.2 ||
    zm.zipIdx.all λz=>!Nat.blt y.2 z.2 || !(uM ops z.1.1).contains d||((LQ ops []).getD z.2 0).testBit x.2))
def TV(ops:List Oper)(mask:List Bool):Bool :=
 Nat.beq mask.length ops.length&&((ops.zip mask).all λx=>!x.2||ZB x.1.op) &&
 (ops.zipIdx.all λy=>y.1.after.toList.all λe=>!Region.binds .any e||Nat.blt e.on y.2)&&b2u ops (ops.zip mask) &&
 (let b:=LQ ops []
 (ops.zip mask).zipIdx.all λy=>(ops.zip mask).zipIdx.all λx=>!Nat.blt x.2 y.2 || !Eo ops x.1 y.1||(b.getD y.2 0).testBit x.2)
def b4m:Op->Bool
 | .call c=>(match c.callee with | .value _=>true|_=>false)
 |_=>false
def IJ:List Nat->Nat->Bool
 | [],_=>false
 |x::l,n=>match Nat.beq x n with|true=>true|false=>IJ l n
def JX(fl:List Nat)(op:Op):Bool:=b4m op||(match IJ fl 999,op with|false,.store _ _ _=>true|_,_=>false)
def b04(ops:List Oper)(fl:List Nat)(x y:(Oper×Bool)×Nat):Bool :=
 IJ fl x.2&&tu x.1.1.op && !x.1.2&&JX fl y.1.1.op && !y.1.2&&(match x.1.1.dst with|some d=>!(uM ops y.1.1).contains d|none=>true)&&(match y.1.1.dst with|some d=>!(uM ops x.1.1).contains d|none=>true)
def a6y(ops:List Oper)(mask:List Bool)(fl:List Nat):Bool :=
 Nat.beq mask.length ops.length&&((ops.zip mask).all λx=>!x.2||ZB x.1.op) &&
 (ops.zipIdx.all λy=>y.1.after.toList.all λe=>!Region.binds .any e||Nat.blt e.on y.2)&&b2u ops (ops.zip mask) &&
 (let b:=LQ ops []
 (ops.zip mask).zipIdx.all λy=>(ops.zip mask).zipIdx.all λx=>!Nat.blt x.2 y.2 || !Eo ops x.1 y.1||(b.getD y.2 0).testBit x.2||b04 ops fl x y)
def b6b(ops:List Oper)(gl:List Nat)(x y:(Oper×Bool)×Nat):Bool :=
 IJ gl y.2&&tu y.1.1.op && !y.1.2 && !x.1.2 && !tu x.1.1.op&&(ops.all λo=>!BF o.op)&&(match x.1.1.dst with|some d=>!(uM ops y.1.1).contains d|none=>true)&&(match y.1.1.dst with|some d=>!(uM ops x.1.1).contains d|none=>true)
def a6A(ops:List Oper)(mask:List Bool)(fl gl:List Nat):Bool :=
 Nat.beq mask.length ops.length&&((ops.zip mask).all λx=>!x.2||ZB x.1.op) &&
 (ops.zipIdx.all λy=>y.1.after.toList.all λe=>!Region.binds .any e||Nat.blt e.on y.2)&&b2u ops (ops.zip mask) &&
 (let b:=LQ ops []
 (ops.zip mask).zipIdx.all λy=>(ops.zip mask).zipIdx.all λx=>!Nat.blt x.2 y.2 || !Eo ops x.1 y.1||(b.getD y.2 0).testBit x.2||b04 ops fl x y||b6b ops gl x y)
def b6r(ops:List Oper)(ls:List Nat)(i:Nat):Bool :=
 !ls.any (Nat.beq i)&&(match ops[i]? with|some o=>o.after.toList.all λe=>!Region.binds .any e||ls.any (Nat.beq e.on)|none=>false)
def b3K(ops:List Oper):Bool:=ops.zipIdx.all λy=>y.1.after.toList.all λe=>!Region.binds .any e||Nat.blt e.on y.2
def a7U:List Nat->(Nat->Prop)->Prop
 | [],_=>True
 |i::l,f=>f i/\a7U l f
inductive IX(F:FT)(f:Nat)(args:List AV)(k:AV->Prop):Prop where
 |pure (Bs:List AV) (R:AV) (hle:Ld args Bs) (hb:vW 0 Bs=true/\tH 0 R=true) (h:F f Bs [] R []) (h':k R)
section
variable(F:FT)(vV:AV->Prop)(L:Lay)
def O7(op:Op)(e:Env)(k:AV->Prop):Prop :=
 match op with
 | .call c=>(match c.callee with
   | .value f=>uw e f λA=>(match A with
     | .fn g cap=>FD e c.args.toList λAs=>Y1 As cap λBs=>IX F g Bs k
     |_=>False)
   | .builtin .append=>FD e c.args.toList λAs=>xP L .append c.argTypes.toList As [] λA H'=>H'=[]/\k A
   | .builtin b=>FD e c.args.toList λAs=>xP L b c.argTypes.toList As [] λA _=>k A
   |_=>False)
 | .makeSlice t l c=>uw e l λA=>uw e c λB=>L.sQ t λi=>(match i.desc,A,B with
   | .slice el,.int _ n,.int _ m=>L.sQ el λei=>(0<=n/\n<=m/\m*(ei.bytes:Int)<=281474976710656/\m<=9223372036854775807) /\
     (n.toNat=m.toNat/\k (.sl (flat ei.zero) (List.replicate n.toNat ei.zero) .full))
   |_,_,_=>False)
 |op=>noNil op <| xI F (λ_=>True) L op e [] (λA _=>k A) (λ_=>False)
def FH (ops:List Oper):List (Oper×Bool)->Env->Heap->(Env->Heap->Prop)->Prop
 | [],e,H,k=>k e H
 | (o,nb)::l,e,H,k=>zX ops o.guard e
   (λe=>match nb with
    |true=>O7 F L o.op e λA=>CO o.dst A e λe'=>FH ops l e' H k
    |false=>noNil o.op <| xI F (λ_=>True) L o.op e H (λA H'=>CO o.dst A e λe'=>FH ops l e' H' k) (λH'=>match o.dst with|none=>FH ops l e H' k|some _=>False))
   (λe=>CO o.dst (.uy []) e λe'=>FH ops l e' H k)
def b07(H:Heap):List (Nat×AV×AV)->Prop->Prop
 | [],k=>k
 |(t,A,R)::pl,k=>(Ap L t A H λR'=>R'=R)/\b07 H pl k
def b5V(fl:List Nat)(i:Nat)(op:Op)(e:Env)(A:AV)(pl:List (Nat×AV×AV))(k:List (Nat×AV×AV)->Prop):Prop :=
 match IJ fl i,op with
 |true,.load t x=>uw e x λB=>k ((t,B,A)::pl)
 |_,_=>k pl
def Iw (ops:List Oper) (fl:List Nat):Nat->List (Oper×Bool)->List (Nat×AV×AV)->Env->Heap->(Env->Heap->Prop)->Prop
 |_,[],_,e,H,k=>k e H
 | i,(o,nb)::l,pl,e,H,k=>zX ops o.guard e
   (λe=>match nb with
    |true=>O7 F L o.op e λA=>CO o.dst A e λe'=>Iw ops fl (i+1) l pl e' H k
    | false=>noNil o.op <| xI F (λ_=>True) L o.op e H
      (λA H'=>b07 L H' (match JX fl o.op with|true=>pl|false=>[]) <| b5V fl i o.op e A pl λUr=>CO o.dst A e λe'=>Iw ops fl (i+1) l Ur e' H' k)
      (λH'=>match o.dst with|none=>b07 L H' (match JX fl o.op with|true=>pl|false=>[]) <| Iw ops fl (i+1) l pl e H' k|some _=>False))
   (λe=>CO o.dst (.uy []) e λe'=>Iw ops fl (i+1) l pl e' H k)
def b5p(t:Nat)(A R:AV):List Heap->Prop->Prop
 | [],k=>k
 |G::hs,k=>(Ap L t A G λR'=>R'=R)/\b5p t A R hs k
def b7S(gl:List Nat)(i:Nat)(op:Op)(e:Env)(A:AV)(hs:List Heap)(k:Prop):Prop :=
 match IJ gl i,op with
 |true,.load t x=>uw e x λB=>b5p L t B A hs k
 |_,_=>k
def Gg (ops:List Oper) (fl gl:List Nat):Nat->List (Oper×Bool)->List (Nat×AV×AV)->List Heap->Env->Heap->(Env->Heap->Prop)->Prop
 |_,[],_,_,e,H,k=>k e H
 | i,(o,nb)::l,pl,hs,e,H,k=>zX ops o.guard e
   (λe=>match nb with
    |true=>O7 F L o.op e λA=>CO o.dst A e λe'=>Gg ops fl gl (i+1) l pl hs e' H k
    | false=>noNil o.op <| xI F (λ_=>True) L o.op e H
      (λA H'=>b07 L H' (match JX fl o.op with|true=>pl|false=>[]) <| b7S L gl i o.op e A hs <| b5V fl i o.op e A pl λUr=>CO o.dst A e λe'=>Gg ops fl gl (i+1) l Ur (match tu o.op with|true=>hs|false=>H::hs) e' H' k)
      (λH'=>match o.dst with|none=>b07 L H' (match JX fl o.op with|true=>pl|false=>[]) <| Gg ops fl gl (i+1) l pl (H::hs) e H' k|some _=>False))
   (λe=>CO o.dst (.uy []) e λe'=>Gg ops fl gl (i+1) l pl hs e' H k)
def Ya(ops:List Oper):Nat->List Nat->Env->Heap->(Env->Heap->Prop)->Prop
 | 0,_,e,H,k=>k e H
 | n+1,ls,e,H,k=>a7U ((List.range ops.length).filter (b6r ops ls)) λi=>(match ops[i]? with
   | some o=>zX ops o.guard e
     (λe=>xI F (λ_=>True) L o.op e H (λA H'=>CO o.dst A e λe'=>Ya ops n (i::ls) e' H' k) (λH'=>match o.dst with|none=>Ya ops n (i::ls) e H' k|some _=>False))
     (λe=>CO o.dst (.uy []) e λe'=>Ya ops n (i::ls) e' H k)
   |none=>False)
mutual
def b0Z(j:Nat):AV->Bool
 | .ptr k _ _=>Nat.beq k j
 | .fn _ cap=>a9n j cap
 | .ag l=>a9n j l
 | .uy l=>a9n j l
 | .uY _ x=>b0Z j x
 |_=>false
def a9n(j:Nat):List AV->Bool
 | []=>false
 |x::l=>match b0Z j x with|true=>true|false=>a9n j l
end
mutual
def Fz(j:Nat)(B:AV):AV->AV
 | .ptr k p off=>match Nat.beq k j,p,off with|true,[],0=>.cp B|_,p,off=>.ptr k p off
 | .fn f cap=>.fn f (NY j B cap)
 | .ag l=>.ag (NY j B l)
 | .uy l=>.uy (NY j B l)
 | .uY t x=>.uY t (Fz j B x)
 |A=>A
def NY(j:Nat)(B:AV):List AV->List AV
 | []=>[]
 |x::l=>Fz j B x::NY j B l
end
mutual
def Xe(j:Nat)(B:AV):AV->(AV->Prop)->Prop
 | .ptr k p off,c=>(match Nat.beq k j,p,off with|true,[],0=>c (.cp B)|_,p,off=>c (.ptr k p off))
 | .fn f cap,c=>Z9 j B cap λl=>c (.fn f l)
 | .ag l,c=>Z9 j B l λl=>c (.ag l)
 | .uy l,c=>Z9 j B l λl=>c (.uy l)
 | .uY t x,c=>Xe j B x λy=>c (.uY t y)
 |A,c=>c A
def Z9(j:Nat)(B:AV):List AV->(List AV->Prop)->Prop
 | [],c=>c []
 |x::l,c=>Xe j B x λy=>Z9 j B l λm=>c (y::m)
end
def a9s(j:Nat)(B:AV):Env->(Env->Prop)->Prop
 | [],k=>k []
 | (t,A)::e,k=>match b0Z j A with
   |false=>a9s j B e λm=>k ((t,A)::m)
   |true=>Xe j B A λA'=>a9s j B e λm=>k ((t,A')::m)
def YM (j:Nat) (B:AV):Heap->(Heap->Prop)->Prop
 | [],k=>k []
 | (i,o)::H,k=>match Nat.beq i j with
   |true=>YM j B H λG=>k ((i,.gone)::G)
   | false=>match o with
     | .box A=>(match b0Z j A with
       |false=>YM j B H λG=>k ((i,.box A)::G)
       |true=>Xe j B A λA'=>YM j B H λG=>k ((i,.box A')::G))
     |o=>YM j B H λG=>k ((i,o)::G)
def YL:List Nat->Env->Heap->(Env->Heap->Prop)->Prop
 | [],e,H,k=>k e H
 | j::js,e,H,k=>yt H j λo=>match o with
   | .box A=>(FQ A=true/\strip A=A)/\a9s j A e λe'=>YM j A H λH'=>YL js e' H' k
   |_=>False
inductive xG(ops:List Oper)(e:Env)(H:Heap)(k:Env->Heap->Prop):Prop where
 |mk (ex:∃mask:List Bool,TV ops mask=true/\FH F L ops (ops.zip mask) e H k)
 |all (hb:b3K ops=true) (h:Ya F L ops ops.length [] e H k)
 |late (fl:List Nat) (ex:∃mask:List Bool,a6y ops mask fl=true/\Iw F L ops fl 0 (ops.zip mask) [] e H k)
 |both (fl gl:List Nat) (ex:∃mask:List Bool,a6A ops mask fl gl=true/\Gg F L ops fl gl 0 (ops.zip mask) [] [] e H k)
 |YN (js:List Nat) (h:YL js e H λe' H'=>∃mask:List Bool,TV ops mask=true/\FH F L ops (ops.zip mask) e' H' k)
end
section
variable(F:FT)(vV:AV->Prop)(L:Lay)
def Ux:Code->(AX->Env->Heap->Prop)->Env->Heap->Prop
 | .skip,Q,e,H=>Q .normal e H
 | .region _ ops d,Q,e,H=>(match d with
   |false=>Hy F vV L ops.toList ops.toList e H λe' H'=>Q .normal e' H'
   |true=>xG F L ops.toList e H λe' H'=>Q .normal e' H')
 | .seq a b,Q,e,H=>Ux a (λx e' H'=>match x with | .normal=>Ux b Q e' H'|x=>Q x e' H') e H
 | .cond c a b,Q,e,H=>uw e c λA=>br A (Ux a Q e H) (Ux b Q e H)
 | .block i b,Q,e,H=>Ux b (λx e' H'=>match x with
   | .exit j=>(match Nat.beq j i with|true=>Q .normal e' H'|false=>Q (.exit j) e' H')
   |x=>Q x e' H') e H
 | .loop b,Q,e,H=>qW vV (writes b) (Ux b) Q e H
 | .exit i,Q,e,H=>Q (.exit i) e H
 | .ret,Q,e,H=>Q .ret e H
 | .label _,Q,e,H=>Q .normal e H
 |_,_,_,_=>False
end
end Go.AL
namespace Go.AL
mutual
def Ok:AV->Prop
 | .int k n=>KE k n
 | .str s=>s.length<=maxL
 | .sl _ l _=>l.length<=maxL/\KH l
 | .ag l=>KH l
 | .uy l=>KH l
 | .cp x=>Ok x
 | .uY _ x=>Ok x
 |_=>True
def KH:List AV->Prop
 | []=>True
 |x::l=>Ok x/\KH l
end
mutual
theorem Ol{w:World}{Im:Nat->Nat->Prop}:∀(A:AV) (cs:List Value),Rd w Im A cs->Ok A
 | .bool _,_,_=>by simp only[Ok]
 | .tt,_,_=>by simp only[Ok]
 | .ff,_,_=>by simp only[Ok]
 | .dec _,_,_=>by simp only[Ok]
 | .int _ _,_,hr=>by simp only[Rd]at hr;simp only[Ok];exact hr.2
 | .str _,_,hr=>by simp only[Rd]at hr;simp only[Ok];exact hr.2
 | .vK,_,_=>by simp only[Ok]
 | .uY t x,cs,hr=>by simp only[Rd]at hr;obtain⟨v,rfl,h2,h3⟩:=hr;simp only[Ok];exact Ol x _ h3
 | .qV,_,_=>by simp only[Ok]
 | .sl sz l .no,cs,hr=>by simp only[Rd]at hr;simp only[Ok];obtain⟨h0,⟨rfl,rfl⟩|⟨a,cap,rfl,_,_,_,h⟩⟩:=hr;{exact⟨h0,by simp only[KH]⟩};exact⟨h0,b1u l _ h⟩
 | .sl sz l .full,cs,hr=>by simp only[Rd]at hr
 | .sl sz l (.own _),cs,hr=>by simp only[Rd]at hr
 | .ms _ _ _ _ _,_,_=>by simp only[Ok]
 | .ag l,cs,hr=>by simp only[Rd]at hr;simp only[Ok];exact b1t l cs hr
 | .uy _,_,hr=>by simp only[Rd]at hr
 | .ptr _ _ _,_,_=>by simp only[Ok]
 | .cp x,cs,hr=>by simp only[Rd]at hr;obtain⟨a,ds,rfl,_,_,h⟩:=hr;simp only[Ok];exact Ol x _ h
 | .wo,_,_=>by simp only[Ok]
 | .fn _ _,_,_=>by simp only[Ok]
 | .rC,_,_=>by simp only[Ok]
 | .mp _,_,_=>by simp only[Ok]
 | .gs _ _,_,_=>by simp only[Ok]
 | .bm _ _,_,_=>by simp only[Ok]
 | .zF,_,_=>by simp only[Ok]
 | .und,_,_=>by simp only[Ok]
theorem b1t{w:World}{Im:Nat->Nat->Prop}:∀(l:List AV) (cs:List Value),DY w Im l cs->KH l
 | [],_,_=>by simp only[KH]
 |x::l,cs,hr=>by simp only[DY]at hr;obtain⟨c,d,rfl,h2,h3⟩:=hr;simp only[KH];exact⟨Ol x _ h2,b1t l _ h3⟩
theorem b1u{w:World}{Im:Nat->Nat->Prop}{sz b:Nat}:∀(l:List AV) (off:Nat),IZ w Im sz b l off->KH l
 | [],_,_=>by simp only[KH]
 |x::l,off,hr=>by simp only[IZ]at hr;obtain⟨⟨cs,h1,h2,h3⟩,h4⟩:=hr;simp only[KH];exact⟨Ol x _ h3,b1u l _ h4⟩
end
mutual
theorem b0z{c:Cx}:∀(A:AV) (cs:List Value),VR c A cs->Ok A
 | .bool _,_,_=>by simp only[Ok]
 | .tt,_,_=>by simp only[Ok]
 | .ff,_,_=>by simp only[Ok]
 | .dec _,_,_=>by simp only[Ok]
 | .int _ _,_,hr=>by simp only[VR]at hr;exact Ol _ _ hr
 | .str _,_,hr=>by simp only[VR]at hr;exact Ol _ _ hr
 | .vK,_,_=>by simp only[Ok]
 | .uY t x,cs,hr=>by simp only[VR]at hr;obtain⟨v,rfl,h2,h3⟩:=hr;simp only[Ok];exact b0z x _ h3
 | .qV,_,_=>by simp only[Ok]
 | .sl sz l .no,cs,hr=>by simp only[VR]at hr;exact Ol _ _ hr
 | .sl sz l .full,cs,hr=>by simp only[VR]at hr;exact Ol (.sl sz l .no) _ hr.1
 | .sl sz l (.own _),cs,hr=>by simp only[VR]at hr;exact Ol (.sl sz l .no) _ hr.2.1
 | .ms _ _ _ _ _,_,_=>by simp only[Ok]
 | .ag l,cs,hr=>by simp only[VR]at hr;simp only[Ok];exact b1q l cs hr
 | .uy _,_,hr=>by simp only[VR,Rd]at hr
 | .ptr _ _ _,_,_=>by simp only[Ok]
 | .cp x,cs,hr=>by simp only[VR]at hr;exact Ol _ _ hr
 | .wo,_,_=>by simp only[Ok]
 | .fn _ _,_,_=>by simp only[Ok]
 | .rC,_,_=>by simp only[Ok]
 | .mp _,_,_=>by simp only[Ok]
 | .gs _ _,_,_=>by simp only[Ok]
 | .bm _ _,_,_=>by simp only[Ok]
 | .zF,_,_=>by simp only[Ok]
 | .und,_,_=>by simp only[Ok]
theorem b1q{c:Cx}:∀(l:List AV) (cs:List Value),Ea c l cs->KH l
 | [],_,_=>by simp only[KH]
 |x::l,cs,hr=>by simp only[Ea]at hr;obtain⟨a,d,rfl,h2,h3⟩:=hr;simp only[KH];exact⟨b0z x _ h2,b1q l _ h3⟩
end
theorem b5Y{c:Cx}:∀(l:List AV) (vs:List Value),VA c l vs->KH l
 | [],_,_=>by simp only[KH]
 |x::l,vs,hr=>by simp only[VA]at hr;obtain⟨v,r,rfl,h2,h3,h4⟩:=hr;simp only[KH];exact⟨b0z x _ h3,b5Y l _ h4⟩
theorem Me{c:Cx}{A:AV}{v:Value}(h:EV c A v):Ok A:=by
 cases A <;> first
  |exact b0z _ _ h.2
  |(simp only[Ok];done)
  |(obtain⟨vs,rfl,h2⟩:=h;simp only[Ok];exact b5Y _ _ h2)
theorem cells_one{v x:Value}(hs:v.cells = #[v])(h:v.cells.toList=[x]):v=x:=by rw[hs]at h;injection h
section
variable{c:Cx}{v:Value}
theorem yF{b:Bool}(h:VV c (.bool b) v):v=.bool b:=by have:=h.2;simp only[VR,Rd]at this;exact cells_one (h.1.2 rfl) this
theorem LY(h:VV c .tt v):v=.bool true:=by have:=h.2;simp only[VR,Rd]at this;exact cells_one (h.1.2 rfl) this
theorem LZ(h:VV c .ff v):v=.bool false:=by have:=h.2;simp only[VR,Rd]at this;exact cells_one (h.1.2 rfl) this
theorem CZ{p:Prop}(h:VV c (.dec p) v):∃b,v=.bool b/\(b=true↔p):=by have:=h.2;simp only[VR,Rd]at this;obtain⟨b,h1,h2⟩:=this;exact⟨b,cells_one (h.1.2 rfl) h1,h2⟩
theorem b5X{k:IntKind}{n:Int}(h:VV c (.int k n) v):v=.int k n/\KE k n:=by have:=h.2;simp only[VR,Rd]at this;exact⟨cells_one (h.1.2 rfl) this.1,this.2⟩
theorem a7W{s:List UInt8}(h:VV c (.str s) v):v=.string ⟨s.toArray⟩/\s.length<=maxL:=by have:=h.2;simp only[VR,Rd]at this;exact⟨cells_one (h.1.2 rfl) this.1,this.2⟩
theorem QW(h:VV c .vK v):v=.nilIface:=by have:=h.2;simp only[VR,Rd]at this;exact cells_one (h.1.2 rfl) this
theorem DW(h:VV c .qV v):v=.slice none 0 0:=by have:=h.2;simp only[VR,Rd]at this;exact cells_one (h.1.2 rfl) this
theorem Vd(h:VV c .wo v):v=.pointer none:=by have:=h.2;simp only[VR,Rd]at this;exact cells_one (h.1.2 rfl) this
theorem b3S(h:VV c .zF v):v=.map none:=by have:=h.2;simp only[VR,Rd]at this;exact cells_one (h.1.2 rfl) this
theorem a7X{t:Nat}{x:AV}(h:VV c (.uY t x) v):∃u,v=.iface t u/\VV c x u:=by have:=h.2;simp only[VR]at this;obtain⟨u,h1,h2,h3⟩:=this;exact⟨u,cells_one (h.1.2 rfl) h1,h2,h3⟩
theorem Po{k off:Nat}{p:List Nat}(h:VV c (.ptr k p off) v):k<c.nx/\v=.pointer (some ⟨c.ρ k,off,none⟩):=by have:=h.2;simp only[VR]at this;exact⟨this.1,cells_one (h.1.2 rfl) this.2⟩
theorem Oj{k off len cap sz:Nat}(h:VV c (.ms k off len cap sz) v):k<c.nx/\v=.slice (some ⟨c.ρ k,off*sz,none⟩) len cap/\len<=cap/\cap<=maxL:=by have:=h.2;simp only[VR]at this;exact⟨this.1,cells_one (h.1.2 rfl) this.2.1,this.2.2⟩
theorem b5W{k:Nat}(h:VV c (.mp k) v):k<c.nx/\v=.map (some (c.ρ k)):=by have:=h.2;simp only[VR]at this;exact⟨this.1,cells_one (h.1.2 rfl) this.2⟩
theorem b7d{f k:Nat}(h:VV c (.bm f k) v):k<c.nx/\v=.func (.func f) #[.pointer (some ⟨c.ρ k,0,none⟩)] #[]:=by have:=h.2;simp only[VR]at this;exact⟨this.1,cells_one (h.1.2 rfl) this.2⟩
theorem b7c{k len:Nat}(h:VV c (.gs k len) v):k<c.nx/\(∃a n m,v=.slice a n m)/\∀n,c.tp k=some n->len<=n/\(len=n->v=.slice (c.tk k).1 n (c.tk k).2):=by have:=h.2;simp only[VR]at this;obtain⟨h1,⟨a,n,m,h2⟩,h3⟩:=this;exact⟨h1,⟨a,n,m,cells_one (h.1.2 rfl) h2⟩,λn hn=>⟨(h3 n hn).1,λe=>cells_one (h.1.2 rfl) ((h3 n hn).2 e)⟩⟩
theorem b0y{x:AV}(h:VV c (.cp x) v):∃a ds,v=.pointer (some a)/\a.spot=none/\AO c.w c.Im a.block a.off ds/\Rd c.w c.Im x ds:=by have:=h.2;simp only[VR,Rd]at this;obtain⟨a,ds,h1,h2⟩:=this;exact⟨a,ds,cells_one (h.1.2 rfl) h1,h2⟩
theorem b3T{f:Nat}{cap:List AV}(h:VV c (.fn f cap) v):∃vs:List Value,v=.func (.func f) #[] vs.toArray/\VA c cap vs:=by have:=h.2;simp only[VR]at this;obtain⟨vs,h1,h2⟩:=this;exact⟨vs,cells_one (h.1.2 rfl) h1,h2⟩
theorem Yc{sz:Nat}{l:List AV}{tok:Tk}(h:VV c (.sl sz l tok) v):l.length<=maxL/\((l=[]/\v=.slice none 0 0) \/
  ∃a cap,v=.slice (some a) l.length cap/\l.length<=cap/\cap<=maxL/\(l≠[]->a.spot=none)/\IZ c.w c.Im sz a.block l a.off):=by
 have hv:=h.1.2 rfl;have key:Rd c.w c.Im (.sl sz l .no) v.cells.toList:=by
  have:=h.2;cases tok with
  |no=>simpa only[VR]using this
  |full=>simp only[VR]at this;exact this.1
  |own k=>simp only[VR]at this;exact this.2.1
 simp only[Rd]at key;refine⟨key.1,?_⟩;rcases key.2 with(⟨h1,h2⟩|⟨a,cap,h1,h2⟩);{exact .inl ⟨h1,cells_one hv h2⟩};exact .inr ⟨a,cap,cells_one hv h1,h2⟩
end
theorem vG{c:Cx}{A:AV}{v:Value}(hA:uG A=false)(hv:v.cells = #[v])(h:VR c A [v]):VV c A v :=
 ⟨⟨(λh=>by rw[hA]at h;cases h),λ_=>hv⟩,by rw[hv];exact h⟩
theorem sD{c:Cx}{A:AV}{v:Value}(h:VV c A v):EV c A v:=by
 cases A <;> first
  |exact h
  |trivial
  |(have:=h.2;simp only[VR,Rd]at this)
def sU:Operand->Bool
 | .const (.int k n)=>decide (k.min<=n)&&decide (n<=k.max)
 | .const (.string s)=>decide (s.data.size<=1000000)
 |_=>true
def xU(c:Cx)(e:Env)(a:Act):Prop:=∀t A,vk e t=some A->EV c A (a.tmps.getD t undef)
theorem a0s{c:Cx}{v:Value}{k:AV->Prop}(hv:sU (.const v)=true)(h:XC v k):∃A,VV c A v/\k A:=by unfold XC at h;split at h;{exact⟨_,vG rfl rfl (by simp only[VR,Rd]),h⟩};{exact⟨_,vG rfl rfl (by simp only[VR,Rd]),h⟩};{refine⟨_,vG rfl rfl ?_,h⟩;simp only[VR,Rd];simp only[sU,aK,bT]at hv;exact⟨trivial,hv⟩};{refine⟨_,vG rfl rfl ?_,h⟩;simp only[VR,Rd];simp only[sU,bT]at hv;refine⟨ak,?_⟩;rw[bJ];unfold maxL;omega};{exact⟨_,vG rfl rfl (by simp only[VR,Rd]),h⟩};{exact⟨_,vG rfl rfl (by simp only[VR,Rd]),h⟩};{exact⟨_,vG rfl rfl (by simp only[VR,Rd]),h⟩};{exact⟨_,vG rfl rfl (by simp only[VR,Rd]),h⟩};{exact⟨_,vG rfl rfl (by simp only[VR,Rd]),h⟩};exact h.elim
theorem rO{c:Cx}{e:Env}{a:Act}{x:Operand}{k:AV->Prop}(he:xU c e a)(hx:sU x=true)(h:uw e x k):∃A,EV c A (a.eval x)/\k A:=by unfold uw at h;split at h;{obtain⟨A,h1,h2⟩:=yC.1 h;exact⟨A,he _ _ h1,h2⟩};{obtain⟨A,h1,h2⟩:=a0s (c:=c) hx h;exact⟨A,sD h1,h2⟩};{refine⟨_,sD (vG (v:=.func (.func _) #[] #[]) rfl rfl ?_),h⟩;simp only[VR,VA];exact⟨[],rfl,rfl⟩};exact h.elim
def Oo(c:Cx):List AV->List Value->Prop
 | [],vs=>vs=[]
 |x::l,vs=>∃v r,vs=v::r/\EV c x v/\Oo c l r
theorem CY{c:Cx}{e:Env}{a:Act}(he:xU c e a):∀{l:List Operand} {k:List AV->Prop},l.all sU=true->FD e l k ->
  ∃As,Oo c As (l.map a.eval)/\k As
 | [],k,_,h=>⟨[],rfl,h⟩
 |x::l,k,hl,h=>by simp only[nO,aK]at hl;obtain⟨A,h1,h2⟩:=rO he hl.1 h;obtain⟨As,h3,h4⟩:=CY he hl.2 h2;exact⟨A::As,⟨_,_,rfl,h1,h3⟩,h4⟩
end Go.AL
namespace Go.AL
theorem EI(k:IntKind)(n:Int):KE k (k.wrap n):=by unfold KE IntKind.wrap IntKind.min IntKind.max;have h0:=Int.emod_nonneg n (b:=(2^k.bits:Int)) (by cases k <;> simp[IntKind.bits]);have h1:=Int.emod_lt_of_pos n (b:=(2^k.bits:Int)) (by cases k <;> simp[IntKind.bits]);cases k <;> simp[IntKind.bits,IntKind.signed]at * <;> first|omega|(split <;> omega)
theorem a00{k:IntKind}{n:Int}(h:KE k n):k.wrap n=n:=by unfold KE IntKind.min IntKind.max at h;unfold IntKind.wrap;cases k <;> simp[IntKind.bits,IntKind.signed]at * <;> first|omega|(split <;> omega)
theorem a0Z{k:IntKind}{a:Int}(h:KE k a)(n:Nat):KE k (a.fdiv (2^n)):=by
 have hp:(0:Int)<2^n:=Int.pow_pos aj;have h1:a.fdiv (2^n)=a / (2^n):=jw a (Int.le_of_lt hp);rw[h1];unfold KE at *;have hmin:k.min<=0:=by cases k <;> simp[IntKind.min,IntKind.signed,IntKind.bits]
 have hmax:0<=k.max:=by cases k <;> simp[IntKind.max,IntKind.signed,IntKind.bits]
 by_cases ha:0<=a;{have h2:0<=a / 2^n:=Int.ediv_nonneg ha (Int.le_of_lt hp);have h3:a / 2^n<=a:=Int.ediv_le_self _ ha;omega};have h2:a / 2^n<0:=Int.ediv_neg_of_neg_of_pos aj hp;have h3:a<=a / 2^n:=by
  have:=Int.le_ediv_of_mul_le hp (a:=a) (b:=a) (by
   have h5:(1:Int)<=2^n:=hp;have:a*2^n<=a*1:=Int.mul_le_mul_of_nonpos_left aj h5;omega)
  exact this
 omega
theorem b0C{k:IntKind}{a b:Int}(h:KE k a):KE k (a.tmod b):=by
 unfold KE at *;have hmin:k.min<=0:=by cases k <;> simp[IntKind.min,IntKind.signed,IntKind.bits]
 have hmax:0<=k.max:=by cases k <;> simp[IntKind.max,IntKind.signed,IntKind.bits]
 have h1:(a.tmod b).natAbs<=a.natAbs:=(by rw[Int.natAbs_tmod];exact Nat.mod_le _ _);rcases Int.le_total 0 a with ha|ha;{have:0<=a.tmod b:=Int.tmod_nonneg _ ha;omega};have:a.tmod b<=0:=(by have h2:=Int.tmod_nonneg b (a:=-a) aj;rw[Int.neg_tmod]at h2;omega);omega
section
variable{c:Cx}{P:Program}
theorem uI{kd:IntKind}{n:Int}(h:KE kd n):VV c (.int kd n) (.int kd n):=vG rfl rfl (by simp only[VR,Rd];exact⟨trivial,h⟩)
theorem a0Q{s:List UInt8}(h:s.length<=maxL):VV c (.str s) (.string ⟨s.toArray⟩):=vG rfl rfl (by simp only[VR,Rd];exact⟨trivial,h⟩)
theorem yY{p:Prop}{b:Bool}(h:b=true↔p):VV c (.dec p) (.bool b):=vG rfl rfl (by simp only[VR,Rd];exact⟨b,rfl,h⟩)
theorem Et(b:Bool):VV c (.bool b) (.bool b):=vG rfl rfl (by simp only[VR,Rd])
theorem Ho:VV c .tt (.bool true):=vG rfl rfl (by simp only[VR,Rd])
theorem Cb:VV c .ff (.bool false):=vG rfl rfl (by simp only[VR,Rd])
theorem Fe{kd:IntKind}{z:Int}{k:AV->Prop}(h:arith kd z k):∃R,VV c R (.int kd (kd.wrap z))/\k R:=by unfold arith at h;split at h;{exact⟨_,by rw[a00 h.1];exact uI h.1,h.2⟩};exact⟨_,uI (EI _ _),h⟩
theorem Ee{A:AV}{k:AV->Prop}{b:Bool}(hA:VV c A (.bool b))(h:KG A k):∃R,VV c R (.bool !b)/\k R:=by unfold KG at h;split at h;{have:=LY hA;simp at this;subst this;exact⟨_,Cb,h⟩};{have:=LZ hA;simp at this;subst this;exact⟨_,Ho,h⟩};{have:=yF hA;simp at this;subst this;exact⟨_,Et _,h⟩};{obtain⟨b',h1,h2⟩:=CZ hA;simp at h1;subst h1;refine⟨_,yY ?_,h⟩;rw[<- h2];simp};exact h.elim
theorem Ub{x:AV}{k:AV->Prop}{v:Value}(hx:VV c x v)(h:XY x k):∃b,v=.bool b/\VV c x (.bool b)/\k x:=by unfold XY at h;split at h;{have:=LY hx;subst this;exact⟨_,rfl,hx,h⟩};{have:=LZ hx;subst this;exact⟨_,rfl,hx,h⟩};{have:=yF hx;subst this;exact⟨_,rfl,hx,h⟩};{obtain⟨b',h1,h2⟩:=CZ hx;subst h1;exact⟨_,rfl,hx,h⟩};exact h.elim
theorem RG{A:AV}{k:AV->Prop}{v:Value}(hA:VV c A v)(h:KG A k):∃b,v=.bool b:=by unfold KG at h;split at h;{exact⟨_,LY hA⟩};{exact⟨_,LZ hA⟩};{exact⟨_,yF hA⟩};{obtain⟨b',h1,_⟩:=CZ hA;exact⟨_,h1⟩};exact h.elim
theorem a0m{A B:AV}{k:AV->Prop}{v u:Value}(hA:VV c A v)(hB:VV c B u)(h:eqB A B k) :
  ∃a b R,v=.bool a/\u=.bool b/\VV c R (.bool (a==b))/\k R:=by
 unfold eqB at h;split at h;{obtain rfl:=LY hA;obtain⟨b,rfl,h2,h3⟩:=Ub hB h;exact⟨true,b,_,rfl,rfl,by simpa using h2,h3⟩};{obtain rfl:=LY hB;obtain⟨b,rfl,h2,h3⟩:=Ub hA h;exact⟨b,true,_,rfl,rfl,by simpa using h2,h3⟩};{obtain rfl:=LZ hA;obtain⟨b,rfl⟩:=RG hB h;obtain⟨R,h2,h3⟩:=Ee hB h;exact⟨false,b,_,rfl,rfl,by simpa using h2,h3⟩};{obtain rfl:=LZ hB;obtain⟨b,rfl⟩:=RG hA h;obtain⟨R,h2,h3⟩:=Ee hA h;exact⟨b,false,_,rfl,rfl,by simpa using h2,h3⟩};{obtain rfl:=yF hA;obtain rfl:=yF hB;exact⟨_,_,_,rfl,rfl,yY ak,h⟩};{obtain⟨a,rfl,ha⟩:=CZ hA;obtain⟨b,rfl,hb⟩:=CZ hB;refine⟨_,_,_,rfl,rfl,yY ?_,h⟩;rw[<- ha,<- hb];cases a <;> cases b <;> simp};{obtain⟨a,rfl,ha⟩:=CZ hA;obtain rfl:=yF hB;refine⟨_,_,_,rfl,rfl,yY ?_,h⟩;rw[<- ha];rename_i b;cases a <;> cases b <;> simp};{obtain rfl:=yF hA;obtain⟨b,rfl,hb⟩:=CZ hB;refine⟨_,_,_,rfl,rfl,yY ?_,h⟩;rw[<- hb];rename_i a _ _;cases a <;> cases b <;> simp};exact h.elim
theorem TG{A B:AV}{k:AV->Prop}{v u:Value}(hA:VV c A v)(hB:VV c B u)(h:TJ A B k) :
  ∃b R,((v=.nilIface/\u=.nilIface/\b=true)\/(v=.nilIface/\(∃t x,u=.iface t x)/\b=false)\/((∃t x,v=.iface t x)/\u=.nilIface/\b=false))/\VV c R (.bool b)/\k R:=by
 unfold TJ at h;split at h;{exact⟨true,_,.inl ⟨QW hA,QW hB,rfl⟩,Ho,h⟩};{obtain⟨x,h1,_⟩:=a7X hB;exact⟨false,_,.inr (.inl ⟨QW hA,⟨_,_,h1⟩,rfl⟩),Cb,h⟩};{obtain⟨x,h1,_⟩:=a7X hA;exact⟨false,_,.inr (.inr ⟨⟨_,_,h1⟩,QW hB,rfl⟩),Cb,h⟩};exact h.elim
theorem Qb{A B:AV}{k:AV->Prop}{v u:Value}(hA:VV c A v)(hB:VV c B u)(h:KY A B k) :
  ∃b R a,v=.pointer a/\u=.pointer none/\b=a.isNone/\VV c R (.bool b)/\k R:=by
 unfold KY at h;split at h;{exact⟨true,_,none,Vd hA,Vd hB,rfl,Ho,h⟩};{obtain⟨a,ds,h1,_⟩:=b0y hA;exact⟨false,_,some a,h1,Vd hB,rfl,Cb,h⟩};{exact⟨false,_,_,(Po hA).2,Vd hB,rfl,Cb,h⟩};exact h.elim
end
end Go.AL
namespace Go.AL
theorem zV{α:Type}{k:α->Prop}:∀{l:List α} {i:Nat},Hu l i k↔∃x,l[i]? = some x/\k x
 | [],i=>by simp[Hu]
 |x::l,0=>by simp[Hu]
 |x::l,i+1=>by simp only[Hu,dV];exact zV
theorem HY{k:List AV->Prop}{y:AV}:∀{l:List AV} {i:Nat},Aa l i y k->i<l.length/\k (l.set i y)
 | [],i,h=>by simp[Aa]at h
 |x::l,0,h=>by simpa[Aa]using h
 |x::l,i+1,h=>by simp only[Aa]at h;have:=HY h;exact⟨by simp;exact this.1,by simpa using this.2⟩
theorem MH{k:List Nat->Prop}{x:Nat}:∀{l:List Nat},Ze l x k↔k (l++[x])
 | []=>jm
 |y::l=>by simp only[Ze];exact MH
theorem QS{k:List AV->Prop}{m:List AV}:∀{l:List AV},Y1 l m k↔k (l++m)
 | []=>jm
 |y::l=>by simp only[Y1];exact QS
theorem V3{k:List AV->Prop}{z:AV}:∀{n:Nat},a8K z n k↔k (List.replicate n z)
 | 0=>jm
 |n+1=>by simp only[a8K];exact V3
theorem sW{a b:Nat}{k:Prop}:BP a b k↔a=b/\k:=by
 unfold BP;cases h:Nat.beq a b with
 |true=>simp[aJ h]
 |false=>simp[xw h]
theorem KL{A:AV}{k:Prop}:Vt A k↔isVal A=true/\k:=by unfold Vt;cases isVal A <;> simp
def OT:AV->List Nat->Option AV
 |A,[]=>some A
 | .ag l,i::p=>match l[i]? with|some x=>OT x p|none=>none
 |_,_::_=>none
theorem BK{k:AV->Prop}:∀{p:List Nat} {A:AV},KA A p k↔∃x,OT A p=some x/\k x
 | [],A=>by simp[KA,OT]
 | i::p,A=>by
   cases A with
   | ag l =>
     simp only[KA,OT,zV];constructor;{rintro⟨x,h1,h2⟩;obtain⟨y,h3,h4⟩:=BK.1 h2;exact⟨y,by simp only[h1];exact h3,h4⟩};rintro⟨y,h3,h4⟩;cases hx:l[i]? with
     |none=>simp[hx]at h3
     |some x=>simp only[hx]at h3;exact⟨x,rfl,BK.2 ⟨y,h3,h4⟩⟩
   |_=>simp[KA,OT]
theorem Jt{c:Cx}:∀{l:List AV} {cs:List Value} {i:Nat} {x:AV},Ea c l cs->l[i]? = some x ->
  ∃pre xs post,cs=pre++xs++post/\pre.length=zf (l.take i)/\VR c x xs/\∀y ys,VR c y ys->Ea c (l.set i y) (pre++ys++post)
 | [],_,_,_,_,h=>by simp at h
 | z::l,cs,0,x,hr,h=>by
   simp only[Ea]at hr;obtain⟨a,d,rfl,h2,h3⟩:=hr;obtain rfl:z=x:=by simpa using h
   refine⟨[],a,d,ak,by simp[zf],h2,λy ys hy=>?_⟩;simp only[fE,List.set_cons_zero,Ea];exact⟨ys,d,rfl,hy,h3⟩
 |z::l,cs,i+1,x,hr,h=>by simp only[Ea]at hr;obtain⟨a,d,rfl,h2,h3⟩:=hr;obtain⟨pre,xs,post,rfl,h5,h6,h7⟩:=Jt h3 (by simpa using h:l[i]? = some x);refine⟨a++pre,xs,post,ak,by simp[zf,xW _ _ h2,h5],h6,λy ys hy=>?_⟩;simp only[jL,Ea];exact⟨a,pre++ys++post,ak,h2,h7 y ys hy⟩
theorem Nz{c:Cx}:∀{p:List Nat} {A x:AV} {cs:List Value},VR c A cs->OT A p=some x ->
  ∃pre xs post,cs=pre++xs++post/\pre.length=Wj A p/\VR c x xs
 | [],A,x,cs,hr,h=>by obtain rfl:A=x:=(by simpa[OT]using h);exact⟨[],cs,[],ak,by cases A <;> simp[Wj],hr⟩
 | i::p,A,x,cs,hr,h=>by
   cases A with
   | ag l =>
     simp only[OT]at h;cases hx:l[i]? with
     |none=>simp[hx]at h
     |some y =>simp only[hx]at h;simp only[VR]at hr;obtain⟨pre,ys,post,rfl,h2,h3,_⟩:=Jt hr hx;obtain⟨pre',xs,post',rfl,h5,h6⟩:=Nz h3 h;exact⟨pre++pre',xs,post'++post,ak,by simp only[bC,Wj,hx,h2,h5],h6⟩
   |_=>simp[OT]at h
theorem Dj{c:Cx}{k:AV->Prop}{B:AV}{bs:List Value}(hB:VR c B bs):∀{p:List Nat} {A:AV} {cs:List Value},VR c A cs->I8 A p B k ->
  ∃A' x pre xs post,OT A p=some x/\cs=pre++xs++post/\pre.length=Wj A p/\VR c x xs/\VR c A' (pre++bs++post)/\k A'
 | [],A,cs,hr,h=>by
   have h':k B:=by cases A <;> simpa[I8]using h
   exact⟨B,A,[],cs,[],by simp[OT],ak,by cases A <;> simp[Wj],hr,by simpa using hB,h'⟩
 | i::p,A,cs,hr,h=>by
   cases A with
   |ag l =>simp only[I8,zV]at h;obtain⟨x,hx,h⟩:=h;simp only[VR]at hr;obtain⟨pre,ys,post,rfl,h2,h3,h4⟩:=Jt hr hx;obtain⟨x',z,pre',xs,post',h5,rfl,h7,h8,h9,h10⟩:=Dj hB h3 h;have h11:=HY h10;refine⟨.ag (l.set i x'),z,pre++pre',xs,post'++post,by simp only[OT,hx,h5],ak,by simp only[bC,Wj,hx,h2,h7],h8,?_,h11.2⟩;simp only[VR];have:=h4 x' _ h9;simpa using this
   |_=>simp[I8]at h
theorem rH{c:Cx}{A:AV}{cs:List Value}(h:VR c A cs)(hA:uG A=false):∀u∈cs,u.oneCell'=true:=by
 cases A with
 |ag l=>simp[uG]at hA
 |dec p=>simp only[VR,Rd]at h;obtain⟨b,rfl,_⟩:=h;simp[Value.oneCell']
 | sl sz l tok =>
   cases tok with
   |no=>simp only[VR,Rd]at h;obtain⟨_,⟨_,rfl⟩|⟨a,cap,rfl,_⟩⟩:=h <;> simp[Value.oneCell']
   |full=>simp only[VR,Rd]at h;obtain⟨⟨_,⟨_,rfl⟩|⟨a,cap,rfl,_⟩⟩,_⟩:=h <;> simp[Value.oneCell']
   |own k=>simp only[VR,Rd]at h;obtain⟨_,⟨_,⟨_,rfl⟩|⟨a,cap,rfl,_⟩⟩,_⟩:=h <;> simp[Value.oneCell']
 |uY t x=>simp only[VR]at h;obtain⟨v,rfl,_⟩:=h;simp[Value.oneCell']
 |cp x=>simp only[VR,Rd]at h;obtain⟨a,ds,rfl,_⟩:=h;simp[Value.oneCell']
 |fn f cap=>simp only[VR]at h;obtain⟨vs,rfl,_⟩:=h;simp[Value.oneCell']
 |uy l=>simp only[VR,Rd]at h
 |und=>simp only[VR,Rd]at h
 |ptr=>simp only[VR]at h;obtain⟨_,rfl⟩:=h;simp[Value.oneCell']
 |ms=>simp only[VR]at h;obtain⟨_,rfl,_⟩:=h;simp[Value.oneCell']
 |mp=>simp only[VR]at h;obtain⟨_,rfl⟩:=h;simp[Value.oneCell']
 |gs=>simp only[VR]at h;obtain⟨_,⟨_,_,_,rfl⟩,_⟩:=h;simp[Value.oneCell']
 |bm=>simp only[VR]at h;obtain⟨_,rfl⟩:=h;simp[Value.oneCell']
 |int=>simp only[VR,Rd]at h;obtain⟨rfl,_⟩:=h;simp[Value.oneCell']
 |str=>simp only[VR,Rd]at h;obtain⟨rfl,_⟩:=h;simp[Value.oneCell']
 |_=>simp only[VR,Rd]at h;subst h;simp[Value.oneCell']
mutual
theorem Eu{c:Cx}:∀(A:AV) (cs:List Value),VR c A cs->∀u∈cs,u.oneCell'=true
 | .ag l,cs,h=>by simp only[VR]at h;exact Uh l cs h
 | .bool _,_,h=>rH h rfl
 | .tt,_,h=>rH h rfl
 | .ff,_,h=>rH h rfl
 | .dec _,_,h=>rH h rfl
 | .int _ _,_,h=>rH h rfl
 | .str _,_,h=>rH h rfl
 | .vK,_,h=>rH h rfl
 | .uY _ _,_,h=>rH h rfl
 | .qV,_,h=>rH h rfl
 | .sl _ _ _,_,h=>rH h rfl
 | .ms _ _ _ _ _,_,h=>rH h rfl
 | .uy _,_,h=>rH h rfl
 | .ptr _ _ _,_,h=>rH h rfl
 | .cp _,_,h=>rH h rfl
 | .wo,_,h=>rH h rfl
 | .fn _ _,_,h=>rH h rfl
 | .rC,_,h=>rH h rfl
 | .mp _,_,h=>rH h rfl
 | .gs _ _,_,h=>rH h rfl
 | .bm _ _,_,h=>rH h rfl
 | .zF,_,h=>rH h rfl
 | .und,_,h=>rH h rfl
theorem Uh{c:Cx}:∀(l:List AV) (cs:List Value),Ea c l cs->∀u∈cs,u.oneCell'=true
 | [],_,h=>by simp only[Ea]at h;subst h;simp
 |x::l,cs,h=>by simp only[Ea]at h;obtain⟨a,d,rfl,h2,h3⟩:=h;intro u hu;rcases dM.1 hu with hu|hu;{exact Eu x a h2 u hu};exact Uh l d h3 u hu
end
section
variable{P:Program}{t:Nat}{i:TI}
theorem Gi.under(h:Gi P t i):∃d,P.underlying t=some d/\descOf P d=i.desc:=by
 have:=h.desc;cases hd:P.underlying t with
 |none=>simp[hd]at this
 |some d=>simp[hd]at this;exact⟨d,rfl,this⟩
theorem Gi.Zk(h:Gi P t i)(w:World):(isAgg t).run P w=.ok (uG i.zero) w:=by obtain⟨d,h1,h2⟩:=h.under;rw[<- h.agg,<- h2];unfold isAgg;simp only[Sem.run_bind,run_underlying h1,Result.andThen_ok];cases d <;> rfl
theorem Gi.EK(h:Gi P t i)(w:World):(sizeOf t).run P w=.ok (flat i.zero) w:=by obtain⟨x,v,h1,h2,_⟩:=h.info;unfold sizeOf typeInfo;simp[h1,h2]
theorem Gi.KP(h:Gi P t i)(w:World):∃v,(zeroValue t).run P w=.ok v w/\wG i.zero v/\∀w Im,Rd w Im i.zero v.cells.toList:=by obtain⟨x,v,h1,h2,h3,h4,h5,h6⟩:=h.info;refine⟨v,?_,h5,h6⟩;unfold zeroValue typeInfo;simp[h1,h4]
end
theorem Ae{P:Program}{L:Lay}{t:Nat}{x:AV}{k:Prop}(hL:uz P L)(h:OZ L t x k) :
  isVal x=true/\∃i,Gi P t i/\flat x=flat i.zero/\uG x=uG i.zero/\k:=by
 unfold OZ at h;obtain⟨hv,h⟩:=KL.1 h;refine⟨hv,?_⟩;obtain⟨i,hi,h⟩:=Lay.su hL h;refine⟨i,hi,?_⟩;cases hb:Nat.beq (flat x) (flat i.zero)with
 |false=>simp[hb]at h
 |true =>simp only[hb]at h;refine⟨aJ hb,?_⟩;cases h1:uG x <;> cases h2:uG i.zero <;> simp[h1,h2]at h ⊢ <;> exact h
theorem H7{P:Program}{c:Cx}{t:Nat}{i:TI}{x:AV}{cs:List Value}{b off:Nat}(hT:Gi P t i)(hf:flat x=flat i.zero)(ha:uG x=uG i.zero)
  (hr:VR c x cs) (hc:∀j v,cs[j]? = some v->c.w.cell? ⟨b,off+j,none⟩=some v):(loadVar t ⟨b,off,none⟩).run P c.w=.ok (mkV x cs) c.w:=by
 unfold loadVar;simp only[Sem.run_bind,hT.Zk,Result.andThen_ok];cases hz:uG i.zero with
 | true =>
   have hl:cs.length=flat i.zero:=(xW _ _ hr).trans hf;have:=run_loadCells_list (P:=P) c.w ⟨b,off,none⟩ cs (λj v hj=>by
    have:=hc j v hj;unfold Addr.add;split;{rename_i h0;subst h0;simpa using this};simpa using this)
   simp only[if_true,Sem.run_bind,hT.EK,Result.andThen_ok,<- hl,this,Sem.run_pure];rw[hz]at ha;cases x <;> simp[uG]at ha;rfl
 | false =>
   obtain⟨v,rfl,hv⟩:=Aq hr (by rw[ha,hz]);have:=hc 0 v rfl;simp only[dR]at this;simp only[dO,if_false,run_load,this];rw[hz]at ha;have:mkV x [v]=v:=by cases x <;> simp[uG]at ha <;> rfl
   rw[this]
theorem JH{P:Program}{w:World}{t:Nat}{i:TI}{v:Value}{b off:Nat}{cur:Array Value}{ty:Nat}(hT:Gi P t i)(hf:v.cells.size=flat i.zero)
  (hg:w.heap[b]? = some (.cells cur ty)) (hl:off+v.cells.size<=cur.size) (h1:∀u∈v.cells.toList,u.oneCell'=true) :
  (storeVar t ⟨b,off,none⟩ v).run P w=.ok () (w.setRow b (cur.toList.take off++v.cells.toList++cur.toList.drop (off+v.cells.size)).toArray):=by
 unfold storeVar;have:=run_storeCells_at P b off ty v.cells.toList 0 cur w hg (by simpa using hl) h1;simp only[dR,bJ]at this;simp only[Sem.run_bind,hT.EK,Result.andThen_ok,hf,ne_eq,not_true_eq_false,if_false];rw[hf]at this;exact this
theorem cell_of_heap{w:World}{b o:Nat}{cs:Array Value}{ty:Nat}{fr:Nat×Nat}(h:w.heap[b]? = some (.cells cs ty fr)):w.cell? ⟨b,o,none⟩=cs[o]?:=by simp[World.cell?,h]
theorem Ey{c:Cx}{A:AV}{v:Value}(h:EV c A v)(hv:isVal A=true):VV c A v:=by cases A <;> first|exact h|(simp[isVal]at hv)
end Go.AL
namespace Go.AL
theorem Fp{c d:Cx}(h:c.Le d){sz:Nat}:∀{l:List AV} {cs:List Value},Pq c sz l cs->Pq d sz l cs
 | [],_,_=>trivial
 |x::l,cs,hr=>by obtain⟨a,e,h1,h2,h3,h4⟩:=hr;exact⟨a,e,h1,h2,wC h.im _ _ h3,Fp h h4⟩
theorem Hq{c d:Cx}(h:c.Le d):∀{l:List (AV×AV)} {es:List MapEntry},Py c l es->Py d l es
 | [],_,hr=>hr
 |(x,y)::l,es,hr=>by obtain⟨e,r,h1,h2,h3,h4⟩:=hr;exact⟨e,r,h1,Cm h h2,Cm h h3,Hq h h4⟩
theorem DZ{c d:Cx}(h:c.Le d){k:Nat}{o:HO}(hk:k<c.nx)(ht:d.tk k=c.tk k)
  (hb:∀b,ru c (k,o)=some b->d.w.heap[b]? = c.w.heap[b]? /\ ∀x,d.Im b x->c.Im b x) (ho:o.Ok c k):o.Ok d k:=by
 cases o with
 |box A =>obtain⟨cs,ty,h1,h2,h3⟩:=ho;have:=hb (c.ρ k) rfl;refine⟨cs,ty,?_,DX h _ _ h2,?_⟩;{rw[h.ρ k hk,this.1,h1]};rw[h.ρ k hk];exact λx hx=>h3 x (this.2 x hx)
 |arr sz cap l =>obtain⟨cs,ty,h1,h2,h3,h4,h5,h6⟩:=ho;have:=hb (c.ρ k) rfl;refine⟨cs,ty,?_,h2,h3,h4,Fp h h5,?_⟩;{rw[h.ρ k hk,this.1,h1]};rw[h.ρ k hk];exact λx hx=>h6 x (this.2 x hx)
 |tok sz top =>simp only[HO.Ok,ht]at ho ⊢;by_cases he:(c.tk k).2=top;{exact .inl he};rcases ho with ho|⟨b,cs,ty,h1,h2,h3,h4,h5,h6⟩;{exact .inl ho};have:=hb b (by simp[ru,he,h1]);exact .inr ⟨b,cs,ty,h1,by rw[this.1,h2],h3,h4,h5,λx hx hi=>h6 x hx (this.2 x hi)⟩
 |tY sh es =>obtain⟨ents,clock,h1,h2,h3⟩:=ho;have:=hb (c.ρ k) rfl;refine⟨ents,clock,?_,Hq h h2,h3⟩;rw[h.ρ k hk,this.1,h1]
 |uH sz l =>simp only[HO.Ok,ht]at ho ⊢;rcases ho with ho|⟨b,cs,ty,h1,h2,h3,h4,h5,h6,h7⟩;{exact .inl ho};have:=hb b (by simp[ru,h1]);exact .inr ⟨b,cs,ty,h1,by rw[this.1,h2],h3,h4,h5,Fp h h6,λx hx=>h7 x (this.2 x hx)⟩
 |glob g cs =>intro j v hv;obtain⟨h1,h2⟩:=ho j v hv;obtain⟨g1,g2⟩:=h.im _ _ h1;exact⟨g1,g2.trans h2⟩
 |gone=>trivial
theorem b1y{c:Cx}{k:Nat}{o:HO}(ho:o.Ok c k){b:Nat}(hb:ru c (k,o)=some b):b<c.w.heap.size:=by
 have key:∀{x:Obj},c.w.heap[b]? = some x->b<c.w.heap.size:=λh=>(dG.1 h).1;cases o with
 |box A=>obtain⟨cs,ty,h1,_⟩:=ho;simp[ru]at hb;subst hb;exact key h1
 |arr sz cap l=>obtain⟨cs,ty,h1,_⟩:=ho;simp[ru]at hb;subst hb;exact key h1
 |tok sz top =>simp only[ru]at hb;split at hb;{simp at hb};rcases ho with ho|⟨b',cs,ty,h1,h2,_⟩;{contradiction};simp[h1]at hb;subst hb;exact key h2
 |tY sh es=>obtain⟨ents,clock,h1,_⟩:=ho;simp[ru]at hb;subst hb;exact key h1
 |uH sz l =>rcases ho with⟨h1,_⟩|⟨b',cs,ty,h1,h2,_⟩;{simp[ru,h1]at hb};simp[ru,h1]at hb;subst hb;exact key h2
 |glob g cs=>simp[ru]at hb
 |gone=>simp[ru]at hb
theorem HR.LP{c:Cx}{H:Heap}(h:HR c H){x:Nat×HO}(hx:x∈H){b:Nat}(hb:ru c x=some b):b<c.w.heap.size :=
 b1y (h.ok x hx) hb
theorem Bl{c d:Cx}{x:Nat×HO}(hρ:d.ρ x.1=c.ρ x.1)(ht:d.tk x.1=c.tk x.1):ru d x=ru c x:=by unfold ru;rw[hρ,ht]
theorem BD{α:Type}{R:α->α->Prop}:∀{l:List α},l.Pairwise R->∀{S:α->α->Prop},(∀x∈l,∀y∈l,R x y->S x y)->l.Pairwise S
 | [],_,_,_=>.nil
 |x::l,h,S,hS=>by rw[eY]at h ⊢;exact⟨λy hy=>hS x ak y (by simp[hy]) (h.1 y hy),BD h.2 λa ha b hb=>hS a (by simp[ha]) b (by simp[hb])⟩
theorem Tr.keep{c d:Cx}{H:Heap}(hr:HR c H)(le:c.Le d)(hnx:d.nx=c.nx)(htp:d.tp=c.tp)(htk:d.tk=c.tk)
  (os:d.w.os=c.w.os) (tape:d.w.tape=c.w.tape) (output:d.w.output=c.w.output) (size:c.w.heap.size<=d.w.heap.size)
  (fr:∀b,b<c.w.heap.size->d.w.heap[b]? = c.w.heap[b]?) (im:∀b o,d.Im b o->c.Im b o\/(c.w.heap.size<=b/\b<d.w.heap.size)):Tr c H d H:=by
 have hbk:∀x∈H,ru d x=ru c x:=λx hx=>Bl (le.ρ _ (by rw[hr.nx];exact sK hr.ids x hx)) (by rw[htk]);refine⟨⟨hnx.trans hr.nx,htp.trans hr.tp,hr.ids,λb o h=>?_,λx hx=>?_,?_⟩,le,os,tape,output,size,λb hb _=>fr b hb,λy hy b hb=>.inr ⟨y,hy,by rw[<- hbk y hy];exact hb⟩,λb o h=>(im b o h).imp id (λh=>.inl h.1)⟩;{rcases im b o h with h|h;{have:=hr.im b o h;omega};exact h.2};{refine DZ le (by rw[hr.nx];exact sK hr.ids x hx) (by rw[htk]) (λb hb=>?_) (hr.ok x hx);have hlt:=hr.LP hx hb;exact⟨fr b hlt,λo ho=>(im b o ho).resolve_right aj⟩};exact BD hr.apart λx hx y hy h b hb=>by rw[hbk y hy];rw[hbk x hx]at hb;exact h b hb
def Cx.alloc(c:Cx)(o:Obj):Cx:={ c with w:=c.w.alloc o,Im:=λb x=>c.Im b x\/b=c.w.heap.size }
theorem xB(w:World)(o:Obj){b:Nat}(h:b<w.heap.size):(w.alloc o).heap[b]? = w.heap[b]?:=by show(w.heap.push o)[b]? = _;rw[Array.getElem?_push,aB aj]
theorem alloc_heap_new(w:World)(o:Obj):(w.alloc o).heap[w.heap.size]? = some o:=by show(w.heap.push o)[_]? = _;simp
theorem wX{w w':World}{b o:Nat}(h:w'.heap[b]? = w.heap[b]?):w'.cell? ⟨b,o,none⟩=w.cell? ⟨b,o,none⟩:=by simp[World.cell?,h]
theorem Tr.alloc{c:Cx}{H:Heap}(hr:HR c H)(o:Obj):Tr c H (c.alloc o) H:=by refine Tr.keep hr ⟨λb x h=>⟨.inl h,?_⟩,aT _,λ_ _=>rfl,λ_ _ _ h=>.inl ⟨h,rfl⟩⟩ rfl rfl rfl rfl rfl rfl (by simp[Cx.alloc]) (λb hb=>xB _ _ hb) (λb x h=>?_);{exact wX (xB _ _ (hr.im b x h))};rcases h with h|h;{exact .inl h};subst h;exact .inr ⟨aT _,by simp[Cx.alloc]⟩
theorem Tr.drew{c:Cx}{H:Heap}(hr:HR c H):Tr c H { c with w:=c.w.drew } H :=
 Tr.keep hr ⟨λ_ _ h=>⟨h,rfl⟩,aT _,λ_ _=>rfl,λ_ _ _ h=>.inl ⟨h,rfl⟩⟩ rfl rfl rfl rfl rfl rfl (aT _) (λ_ _=>rfl) (λ_ _ h=>.inl h)
def Cx.push(c:Cx)(o:Obj)(H:Heap):Cx :=
 { c with w:=c.w.alloc o,ρ:=λk=>if k=c.nx then c.w.heap.size else c.ρ k,nx:=c.nx+1,tp:=uj H }
theorem Bz{H:Heap}{i k:Nat}{o:HO}(h:i≠k):uj ((i,o)::H) k=uj H k:=by
 unfold uj;simp only[hget];cases hb:Nat.beq i k with
 |true=>exact absurd (aJ hb) h
 |false=>rfl
theorem JB{H:Heap}{i:Nat}{o:HO}:uj ((i,o)::H) i=(match o with | .tok _ n=>some n | .uH _ l=>some l.length|_=>none):=by unfold uj;simp only[hget,Nat.beq_refl];cases o <;> rfl
theorem UE{c:Cx}{H:Heap}(hr:HR c H)(o:Obj)(ho:HO):c.Le (c.push o ((nextId H,ho)::H)):=by refine⟨λb x h=>⟨h,wX (xB _ _ (hr.im b x h))⟩,mF _,λk hk=>?_,λk n hk hn=>?_⟩;{simp only[Cx.push];rw[aB aj]};refine .inl ⟨?_,rfl⟩;have:nextId H≠k:=(by rw[<- hr.nx];omega);simp only[Cx.push]at hn;rw[Bz this]at hn;rw[hr.tp];exact hn
theorem ELρ{c:Cx}{H:Heap}(hr:HR c H)(o:Obj)(G:Heap):(c.push o G).ρ (nextId H)=c.w.heap.size:=by simp only[Cx.push];rw[aG hr.nx.symm]
theorem Tr.push{c:Cx}{H:Heap}(hr:HR c H)(o:Obj)(ho:HO)(hblk:∀d:Cx,ru d (nextId H,ho)=some (d.ρ (nextId H)))
  (hok:ho.Ok (c.push o ((nextId H,ho)::H)) (nextId H)):Tr c H (c.push o ((nextId H,ho)::H)) ((nextId H,ho)::H):=by
 have hlt:∀x∈H,x.1<c.nx:=λx hx=>(by rw[hr.nx];exact sK hr.ids x hx);have le:=UE hr o ho;have hbk:∀x∈H,ru (c.push o ((nextId H,ho)::H)) x=ru c x:=λx hx=>Bl (le.ρ _ (hlt x hx)) rfl;have hρ:(c.push o ((nextId H,ho)::H)).ρ (nextId H)=c.w.heap.size:=(by simp only[Cx.push];rw[aG hr.nx.symm]);refine⟨⟨?_,rfl,?_,?_,?_,?_⟩,le,rfl,rfl,rfl,by simp[Cx.push],λb hb _=>xB _ _ hb,?_,λb x h=>.inl h⟩;{simp only[Cx.push,nextId,hr.nx]};{exact⟨λx hx=>sK hr.ids x hx,hr.ids⟩};{intro b x h;have:=hr.im b x h;simp only[Cx.push,World.size_alloc];omega};{intro x hx;rcases aU.1 hx with rfl|hx;{exact hok};refine DZ le (hlt x hx) rfl (λb hb=>?_) (hr.ok x hx);exact⟨xB _ _ (hr.LP hx hb),λy hy=>hy⟩};{rw[eY];constructor;{intro y hy b hb hb';rw[hblk,hρ]at hb;rw[hbk y hy]at hb';have:=hr.LP hy hb';simp at hb;omega};exact BD hr.apart λx hx y hy h b hb=>by rw[hbk y hy];rw[hbk x hx]at hb;exact h b hb};intro y hy b hb;rcases aU.1 hy with rfl|hy;{rw[hblk,hρ]at hb;simp at hb;exact .inl aj};rw[hbk y hy]at hb;exact .inr ⟨y,hy,hb⟩
end Go.AL
namespace Go.AL
theorem wJ{R:Nat×HO->Nat×HO->Prop}:∀{H:Heap},uS H->(∀x∈H,∀y∈H,x.1≠y.1->R x y)->H.Pairwise R
 | [],_,_=>.nil
 |(i,o)::H,hi,h=>by simp only[uS]at hi;rw[eY];exact⟨λy hy=>h _ ak y (by simp[hy]) (by have:=hi.1 y hy;simp;omega),wJ hi.2 λx hx y hy=>h x (by simp[hx]) y (by simp[hy])⟩
theorem P7{R:Nat×HO->Nat×HO->Prop}(hs:∀x y,R x y->R y x):∀{H:Heap},H.Pairwise R->∀x∈H,∀y∈H,x.1≠y.1->R x y
 | [],_,x,hx,_,_,_=>by simp at hx
 |z::H,h,x,hx,y,hy,hn=>by rw[eY]at h;rcases aU.1 hx with ex|ex <;> rcases aU.1 hy with ey|ey;{subst ex;subst ey;exact absurd rfl hn};{subst ex;exact h.1 y ey};{subst ey;exact hs _ _ (h.1 x ex)};exact P7 hs h.2 x ex y ey hn
theorem HR.apart'{c:Cx}{H:Heap}(h:HR c H){x y:Nat×HO}(hx:x∈H)(hy:y∈H)(hn:x.1≠y.1){b:Nat}(hb:ru c x=some b):ru c y≠some b :=
 P7 (R:=λx y=>∀b,ru c x=some b->ru c y≠some b) (λ_ _ h b hb hb'=>h b hb' hb) h.apart x hx y hy hn b hb
theorem wH:∀{H:Heap} {k:Nat} {o':HO} {x:Nat×HO},uS H->x∈hset H k o'->x=(k,o')\/(x∈H/\x.1≠k)
 | [],_,_,_,_,h=>by simp[hset]at h
 | (i,o)::H,k,o',x,hi,h=>by
   simp only[uS]at hi;simp only[hset]at h;cases hb:Nat.beq i k with
   |true =>have e:=aJ hb;rw[hb]at h;rcases aU.1 h with h|h;{exact .inl (by rw[h,e])};exact .inr ⟨cZ _ h,by have:=hi.1 x h;omega⟩
   |false =>rw[hb]at h;rcases aU.1 h with h|h;{exact .inr ⟨by rw[h];exact dD,by rw[h];exact xw hb⟩};exact(wH hi.2 h).imp id λh=>⟨cZ _ h.1,h.2⟩
theorem Qd:∀{H:Heap} {k:Nat} {o':HO} {x:Nat×HO},x∈hset H k o'->∃y∈H,y.1=x.1
 | [],_,_,_,h=>by simp[hset]at h
 | (i,o)::H,k,o',x,h=>by
   simp only[hset]at h;cases hb:Nat.beq i k with
   |true =>rw[hb]at h;rcases aU.1 h with rfl|h;{exact⟨(i,o),dD,rfl⟩};exact⟨x,cZ _ h,rfl⟩
   |false =>rw[hb]at h;rcases aU.1 h with rfl|h;{exact⟨(i,o),dD,rfl⟩};obtain⟨y,hy,he⟩:=Qd h;exact⟨y,by simp[hy],he⟩
theorem CU:∀{H:Heap} {k:Nat} {o':HO},uS H->uS (hset H k o')
 | [],_,_,h=>h
 | (i,o)::H,k,o',h=>by
   simp only[uS]at h;simp only[hset];cases Nat.beq i k with
   |true=>exact⟨h.1,h.2⟩
   |false =>refine⟨λx hx=>?_,CU h.2⟩;obtain⟨y,hy,he⟩:=Qd hx;have:=h.1 y hy;omega
theorem Ia:∀{H:Heap} {k:Nat} {o':HO},nextId (hset H k o')=nextId H
 | [],_,_=>rfl
 |(i,o)::H,k,o'=>by simp only[hset];cases Nat.beq i k <;> rfl
theorem DK:∀{H:Heap} {k j:Nat} {o':HO},j≠k->hget (hset H k o') j=hget H j
 | [],_,_,_,_=>rfl
 | (i,o)::H,k,j,o',h=>by
   simp only[hset];cases hb:Nat.beq i k with
   | true =>
     obtain rfl:=aJ hb;simp only[hget];cases hc:Nat.beq i j with
     |true=>exact absurd (aJ hc).symm h
     |false=>rfl
   | false =>
     simp only[hget];cases Nat.beq i j with
     |true=>rfl
     |false=>exact DK h
theorem BI:∀{H:Heap} {k:Nat} {o o':HO},hget H k=some o->hget (hset H k o') k=some o'
 | [],_,_,_,h=>by simp[hget]at h
 | (i,x)::H,k,o,o',h=>by
   simp only[hset];cases hb:Nat.beq i k with
   |true=>simp only[hget];rw[hb]
   |false =>simp only[hget]at h ⊢;rw[hb]at h ⊢;exact BI h
theorem Tr.set{c d:Cx}{H:Heap}{k:Nat}{o o':HO}(hr:HR c H)(hk:hget H k=some o)(le:c.Le d)(hnx:d.nx=c.nx)(htp:d.tp=uj (hset H k o'))
  (htk:∀j,j≠k->d.tk j=c.tk j) (os:d.w.os=c.w.os) (tape:d.w.tape=c.w.tape) (output:d.w.output=c.w.output) (size:c.w.heap.size<=d.w.heap.size)
  (fr:∀b,b<c.w.heap.size->ru c (k,o)≠some b->d.w.heap[b]? = c.w.heap[b]?)
  (im:∀b x,d.Im b x->c.Im b x\/(c.w.heap.size<=b/\b<d.w.heap.size)\/ru c (k,o)=some b)
  (hblk:∀b,ru d (k,o')=some b->c.w.heap.size<=b\/ru c (k,o)=some b) (hok:o'.Ok d k):Tr c H d (hset H k o'):=by
 have hkm:=wV hk;have hlt:∀x∈H,x.1<c.nx:=λx hx=>(by rw[hr.nx];exact sK hr.ids x hx);have hbk:∀x∈H,x.1≠k->ru d x=ru c x:=λx hx hn=>Bl (le.ρ _ (hlt x hx)) (htk _ hn);refine⟨⟨?_,htp,CU hr.ids,?_,?_,?_⟩,le,os,tape,output,size,?_,?_,?_⟩;{rw[Ia,hnx,hr.nx]};{intro b x h;rcases im b x h with h|h|h;{have:=hr.im b x h;omega};{exact h.2};have:=hr.LP hkm h;omega};{intro x hx;rcases wH hr.ids hx with rfl|⟨hx,hn⟩;{exact hok};refine DZ le (hlt x hx) (htk _ hn) (λb hb=>?_) (hr.ok x hx);have hlt':=hr.LP hx hb;have hne:ru c (k,o)≠some b:=λh=>hr.apart' hkm hx (λe=>hn e.symm) h hb;refine⟨fr b hlt' hne,λy hy=>?_⟩;rcases im b y hy with h|h|h;{exact h};{omega};exact absurd h hne};{refine wJ (CU hr.ids) ?_;intro x hx y hy hn b hb hb';rcases wH hr.ids hx with rfl|⟨hx,hxn⟩ <;> rcases wH hr.ids hy with rfl|⟨hy,hyn⟩;{exact hn rfl};{rw[hbk y hy hyn]at hb';rcases hblk b hb with h|h;{have:=hr.LP hy hb';omega};exact hr.apart' hkm hy (λe=>hyn e.symm) h hb'};{rw[hbk x hx hxn]at hb;rcases hblk b hb' with h|h;{have:=hr.LP hx hb;omega};exact hr.apart' hkm hx (λe=>hxn e.symm) h hb};rw[hbk x hx hxn]at hb;rw[hbk y hy hyn]at hb';exact hr.apart' hx hy hn hb hb'};{intro b hb hn;exact fr b hb (hn _ hkm)};{intro y hy b hb;rcases wH hr.ids hy with rfl|⟨hy,hyn⟩;{exact(hblk b hb).imp id λh=>⟨_,hkm,h⟩};rw[hbk y hy hyn]at hb;exact .inr ⟨y,hy,hb⟩};intro b x h;rcases im b x h with h|h|h;{exact .inl h};{exact .inr (.inl h.1)};exact .inr (.inr ⟨_,hkm,h⟩)
theorem xu{H:Heap}{k:Nat}{o o':HO}(hk:hget H k=some o)(h1:∀s n,o≠.tok s n)(h2:∀s n,o'≠.tok s n)
  (h3:∀s l,o≠.uH s l:=by intros;simp) (h4:∀s l,o'≠.uH s l:=by intros;simp):uj (hset H k o')=uj H:=by
 funext j;unfold uj;by_cases hj:j=k;{subst hj;rw[BI hk,hk];cases o <;> cases o' <;> first|rfl|exact absurd rfl (h1 _ _)|exact absurd rfl (h2 _ _)|exact absurd rfl (h3 _ _)|exact absurd rfl (h4 _ _)};rw[DK hj]
theorem Tr.write{c:Cx}{H:Heap}{k:Nat}{o o':HO}{cur cs:Array Value}{ty:Nat}(hr:HR c H)(hk:hget H k=some o)
  (_hg:c.w.heap[c.ρ k]? = some (.cells cur ty)) (hb:∀d:Cx,ru d (k,o)=some (d.ρ k)) (hb':∀d:Cx,ru d (k,o')=some (d.ρ k)) (him:∀x,¬c.Im (c.ρ k) x)
  (h1:∀s n,o≠.tok s n) (h2:∀s n,o'≠.tok s n)
  (hok:o'.Ok { c with w:=c.w.setRow (c.ρ k) cs } k):Tr c H { c with w:=c.w.setRow (c.ρ k) cs } (hset H k o'):=by
 have hother:∀b,b≠c.ρ k->(c.w.setRow (c.ρ k) cs).heap[b]? = c.w.heap[b]?:=λb hb=>setRow_other c.w _ b _ hb;refine Tr.set hr hk ⟨λb x h=>⟨h,?_⟩,aT _,λ_ _=>rfl,λ_ _ _ h=>.inl ⟨h,rfl⟩⟩ rfl ?_ (λ_ _=>rfl) rfl rfl rfl (by simp[World.setRow]) (λb hb' hn=>hother b ?_) (λb x h=>.inl h) (λb h=>.inr ?_) hok;{exact wX (hother b (λe=>him x (e ▸ h)))};{rw[xu hk h1 h2 (by rintro s l rfl;have:=hb { c with tk:=λ_=>(none,0) };simp[ru]at this) (by rintro s l rfl;have:=hb' { c with tk:=λ_=>(none,0) };simp[ru]at this)];exact hr.tp};{intro e;exact hn (by rw[hb,e])};rw[hb']at h;rw[hb];exact h
end Go.AL
namespace Go.AL
theorem a5M{c:Cx}{s:Nat}{cs:List Value}(h:VR c .qV cs):Rd c.w c.Im (.sl s [] .no) cs:=by simp only[VR,Rd]at h ⊢;exact⟨by simp[maxL],.inl ⟨trivial,h⟩⟩
theorem b6o{c:Cx}{s:Nat}{l:List AV}{t:Tk}{cs:List Value}(h:VR c (.sl s l t) cs):Rd c.w c.Im (.sl s l .no) cs:=by
 cases t with
 |no=>simpa only[VR]using h
 |full=>simp only[VR]at h;exact h.1
 |own k=>simp only[VR]at h;exact h.2.1
theorem yV:∀{l m:List AV},tV l m->l.length=m.length
 | [],[],_=>rfl
 | [],_::_,h=>by simp only[tV]at h
 |_::_,[],h=>by simp only[tV]at h
 |x::l,y::m,h=>by simp only[tV]at h;simp[yV h.2]
theorem a9h{A B:AV}(h:IY A B):uG B=uG A:=by
 cases A with
 |ag l=>cases B <;> simp only[IY]at h <;> first|rfl|cases h
 |sl s l t=>cases B <;> first|rfl|(cases t <;> simp only[IY]at h <;> cases h)
 |_=>cases B <;> first|rfl|(simp only[IY]at h;cases h)
theorem a9i{A B:AV}(h:le0 A B):uG B=uG A:=by
 cases A with
 |ag l=>cases B <;> simp only[le0]at h <;> first|rfl|cases h
 |sl s l t=>cases B <;> first|rfl|(cases t <;> simp only[le0]at h <;> cases h)
 |_=>cases B <;> first|rfl|(simp only[le0]at h;cases h)
theorem Zg{A B:AV}{v:Value}(h:uG B=uG A)(hs:wG A v):wG B v:=by unfold wG at *;rw[h];exact hs
set_option maxHeartbeats 1600000 in
theorem vN{w:World}{Im:Nat->Nat->Prop}{A B:AV}{cs:List Value}(h1:∀l,A≠.ag l)(h2:∀t x,A≠.uY t x)(h3:∀s l t,A≠.sl s l t)(h:IY A B)(hr:Rd w Im A cs):Rd w Im B cs:=by
 cases A with
 |ag l=>exact absurd rfl (h1 l)
 |uY t x=>exact absurd rfl (h2 t x)
 |sl s l t=>exact absurd rfl (h3 s l t)
 | qV =>
   cases B with
   | sl s' l' t' =>
     cases t' with
     |no=>simp only[IY]at h;subst h;simp only[Rd]at hr ⊢;exact⟨by simp[maxL],.inl ⟨trivial,hr⟩⟩
     |full=>simp only[IY]at h;cases h
     |own k=>simp only[IY]at h;cases h
   |qV=>exact hr
   |_=>simp only[IY]at h;cases h
 | tt =>
   cases B <;> simp only[IY]at h <;> first
    |exact hr
    |(subst h;exact hr)
    |(cases h;done)
    |(simp only[Rd]at hr ⊢;exact⟨true,hr,by simpa using h⟩)
 | ff =>
   cases B <;> simp only[IY]at h <;> first
    |exact hr
    |(subst h;exact hr)
    |(cases h;done)
    |(simp only[Rd]at hr ⊢;exact⟨false,hr,by simpa using h⟩)
 | bool x =>
   cases B <;> simp only[IY]at h <;> first
    |(subst h;exact hr)
    |(cases h;done)
    |(simp only[Rd]at hr ⊢;exact⟨x,hr,h⟩)
 | dec p =>
   cases B with
   |bool b =>simp only[IY]at h;simp only[Rd]at hr ⊢;obtain⟨b',h1,h2⟩:=hr;rw[h1,jE.2 (h2.trans h)]
   |dec q =>simp only[IY]at h;simp only[Rd]at hr ⊢;obtain⟨b',h1,h2⟩:=hr;exact⟨b',h1,h2.trans h⟩
   |tt =>simp only[IY]at h;simp only[Rd]at hr ⊢;obtain⟨b',h1,h2⟩:=hr;rw[h1,h2.2 h]
   | ff =>
     simp only[IY]at h;simp only[Rd]at hr ⊢;obtain⟨b',h1,h2⟩:=hr;cases b' with
     |true=>exact absurd (h2.1 rfl) h
     |false=>exact h1
   |_=>simp only[IY]at h;cases h
 | int k n =>
   cases B with
   |int k' n'=>simp only[IY]at h;obtain⟨rfl,rfl⟩:=h;exact hr
   |_=>simp only[IY]at h;cases h
 | str k =>
   cases B with
   |str k'=>simp only[IY]at h;subst h;exact hr
   |_=>simp only[IY]at h;cases h
 |_=>cases B <;> simp only[IY]at h <;> first|exact hr|(cases h;exact hr)|(cases h;done)
mutual
theorem WR{w:World}{Im:Nat->Nat->Prop}:∀(A B:AV) (cs:List Value),IY A B->Rd w Im A cs->Rd w Im B cs
 | .ag l,B,cs,h,hr=>by
   cases B with
   |ag m =>simp only[IY]at h;simp only[Rd]at hr ⊢;exact a2C l m cs h hr
   |_=>simp only[IY]at h;cases h
 | .uY t x,B,cs,h,hr=>by
   cases B with
   |uY t' y =>simp only[IY]at h;simp only[Rd]at hr ⊢;obtain⟨rfl,h⟩:=h;obtain⟨v,h1,h2,h3⟩:=hr;exact⟨v,h1,Zg (a9h h) h2,WR x y _ h h3⟩
   |_=>simp only[IY]at h;cases h
 | .sl s l .full,B,cs,h,hr=>by simp only[Rd]at hr
 | .sl s l (.own k),B,cs,h,hr=>by simp only[Rd]at hr
 | .sl s l .no,B,cs,h,hr=>by
   cases B with
   | sl s' l' t' =>
     cases t' with
     |no =>simp only[IY]at h;obtain⟨rfl,h⟩:=h;have hl:=yV h;simp only[Rd]at hr ⊢;rw[<- hl];refine⟨hr.1,hr.2.imp ?_ ?_⟩;{rintro⟨rfl,h2⟩;exact⟨bQ (by simpa using hl.symm),h2⟩};rintro⟨a,cap,h1,h2,h3,h4,h5⟩;refine⟨a,cap,h1,h2,h3,λhne=>h4 λe=>hne ?_,a2D l l' _ _ _ h h5⟩;subst e;exact bQ (by simpa using hl.symm)
     |full=>simp only[IY]at h;cases h
     |own k=>simp only[IY]at h;cases h
   |_=>simp only[IY]at h;cases h
 | .bool _,_,_,h,hr=>vN ak ak ak h hr
 | .tt,_,_,h,hr=>vN ak ak ak h hr
 | .ff,_,_,h,hr=>vN ak ak ak h hr
 | .dec _,_,_,h,hr=>vN ak ak ak h hr
 | .int _ _,_,_,h,hr=>vN ak ak ak h hr
 | .str _,_,_,h,hr=>vN ak ak ak h hr
 | .vK,_,_,h,hr=>vN ak ak ak h hr
 | .qV,_,_,h,hr=>vN ak ak ak h hr
 | .ms _ _ _ _ _,_,_,h,hr=>vN ak ak ak h hr
 | .uy _,_,_,h,hr=>vN ak ak ak h hr
 | .ptr _ _ _,_,_,h,hr=>vN ak ak ak h hr
 | .cp _,_,_,h,hr=>vN ak ak ak h hr
 | .wo,_,_,h,hr=>vN ak ak ak h hr
 | .fn _ _,_,_,h,hr=>vN ak ak ak h hr
 | .rC,_,_,h,hr=>vN ak ak ak h hr
 | .mp _,_,_,h,hr=>vN ak ak ak h hr
 | .gs _ _,_,_,h,hr=>vN ak ak ak h hr
 | .bm _ _,_,_,h,hr=>vN ak ak ak h hr
 | .zF,_,_,h,hr=>vN ak ak ak h hr
 | .und,_,_,h,hr=>vN ak ak ak h hr
theorem a2C{w:World}{Im:Nat->Nat->Prop}:∀(l m:List AV) (cs:List Value),tV l m->DY w Im l cs->DY w Im m cs
 | [],[],_,_,hr=>hr
 | [],_::_,_,h,_=>by simp only[tV]at h
 |_::_,[],_,h,_=>by simp only[tV]at h
 |x::l,y::m,cs,h,hr=>by simp only[tV]at h;simp only[DY]at hr ⊢;obtain⟨a,d,h1,h2,h3⟩:=hr;exact⟨a,d,h1,WR x y a h.1 h2,a2C l m d h.2 h3⟩
theorem a2D{w:World}{Im:Nat->Nat->Prop}:∀(l m:List AV) (sz b off:Nat),tV l m->IZ w Im sz b l off->IZ w Im sz b m off
 | [],[],_,_,_,_,hr=>hr
 | [],_::_,_,_,_,h,_=>by simp only[tV]at h
 |_::_,[],_,_,_,h,_=>by simp only[tV]at h
 |x::l,y::m,sz,b,off,h,hr=>by simp only[tV]at h;simp only[IZ]at hr ⊢;obtain⟨⟨a,h1,h2,h3⟩,h4⟩:=hr;exact⟨⟨a,h1,h2,WR x y a h.1 h3⟩,a2D l m sz b _ h.2 h4⟩
end
theorem L9{c:Cx}{sz:Nat}:∀{l m:List AV} {cs:List Value},tV l m->Pq c sz l cs->Pq c sz m cs
 | [],[],_,_,h=>h
 | [],_::_,_,h,_=>by simp only[tV]at h
 |_::_,[],_,h,_=>by simp only[tV]at h
 |x::l,y::m,cs,h,hr=>by simp only[tV]at h;obtain⟨a,d,h1,h2,h3,h4⟩:=hr;exact⟨a,d,h1,h2,WR x y _ h.1 h3,L9 h.2 h4⟩
theorem a1j{w:World}{Im:Nat->Nat->Prop}{s:Nat}{l m:List AV}{cs:List Value}(h:tV l m)(hr:Rd w Im (.sl s l .no) cs):Rd w Im (.sl s m .no) cs :=
 WR _ _ _ (by simp only[IY];exact⟨trivial,h⟩) hr
set_option maxHeartbeats 1600000 in
theorem vC{c:Cx}{A B:AV}{cs:List Value}(hA:uG A=false)(hI:∀t x,A≠.uY t x)(h:le0 A B)(hr:VR c A cs):VR c B cs/\uG B=false:=by
 cases A with
 |ag l=>cases hA
 |uY t x=>exact absurd rfl (hI t x)
 | sl s l t =>
   cases B with
   | sl s' l' t' =>
     cases t' with
     | no =>
       have h':s=s'/\tV l l':=by cases t <;> simpa only[le0]using h
       obtain⟨e,h'⟩:=h';exact⟨by simp only[VR];exact e ▸ a1j h' (b6o hr),rfl⟩
     | full =>
       cases t with
       |full =>simp only[le0]at h;obtain⟨rfl,h⟩:=h;simp only[VR]at hr ⊢;exact⟨⟨a1j h hr.1,by rw[<- yV h];exact hr.2⟩,rfl⟩
       |_=>simp only[le0]at h;cases h
     | own k' =>
       cases t with
       |own k =>simp only[le0]at h;obtain⟨rfl,h,rfl⟩:=h;simp only[VR]at hr ⊢;exact⟨⟨hr.1,a1j h hr.2.1,by rw[<- yV h];exact hr.2.2⟩,rfl⟩
       |_=>simp only[le0]at h;cases h
   |_=>cases t <;> simp only[le0]at h <;> cases h
 | qV =>
   cases B with
   | sl s' l' t' =>
     cases t' with
     |no=>simp only[le0]at h;subst h;exact⟨by simp only[VR];exact a5M hr,rfl⟩
     |full =>simp only[le0]at h;subst h;refine⟨?_,rfl⟩;simp only[VR];refine⟨a5M hr,none,?_⟩;simp only[VR,Rd]at hr;simpa using hr
     |own k=>simp only[le0]at h;cases h
   |qV=>exact⟨hr,rfl⟩
   |_=>simp only[le0]at h;cases h
 | tt =>
   cases B <;> simp only[le0]at h <;> first
    |exact⟨hr,rfl⟩
    |(subst h;exact⟨hr,rfl⟩)
    |(cases h;done)
    |(refine⟨?_,rfl⟩;simp only[VR,Rd]at hr ⊢;exact⟨true,hr,by simpa using h⟩)
 | ff =>
   cases B <;> simp only[le0]at h <;> first
    |exact⟨hr,rfl⟩
    |(subst h;exact⟨hr,rfl⟩)
    |(cases h;done)
    |(refine⟨?_,rfl⟩;simp only[VR,Rd]at hr ⊢;exact⟨false,hr,by simpa using h⟩)
 | bool x =>
   cases B <;> simp only[le0]at h <;> first
    |(subst h;exact⟨hr,rfl⟩)
    |(cases h;done)
    |(refine⟨?_,rfl⟩;simp only[VR,Rd]at hr ⊢;exact⟨x,hr,h⟩)
 | dec p =>
   cases B with
   |bool b =>simp only[le0]at h;simp only[VR,Rd]at hr ⊢;obtain⟨b',h1,h2⟩:=hr;refine⟨?_,rfl⟩;rw[h1,jE.2 (h2.trans h)]
   |dec q =>simp only[le0]at h;simp only[VR,Rd]at hr ⊢;obtain⟨b',h1,h2⟩:=hr;exact⟨⟨b',h1,h2.trans h⟩,rfl⟩
   |tt =>simp only[le0]at h;simp only[VR,Rd]at hr ⊢;obtain⟨b',h1,h2⟩:=hr;exact⟨by rw[h1,h2.2 h],rfl⟩
   | ff =>
     simp only[le0]at h;simp only[VR,Rd]at hr ⊢;obtain⟨b',h1,h2⟩:=hr;refine⟨?_,rfl⟩;cases b' with
     |true=>exact absurd (h2.1 rfl) h
     |false=>exact h1
   |_=>simp only[le0]at h;cases h
 | int k n =>
   cases B with
   |int k' n'=>simp only[le0]at h;obtain⟨rfl,rfl⟩:=h;exact⟨hr,rfl⟩
   |_=>simp only[le0]at h;cases h
 | str k =>
   cases B with
   |str k'=>simp only[le0]at h;subst h;exact⟨hr,rfl⟩
   |_=>simp only[le0]at h;cases h
 |_=>cases B <;> simp only[le0]at h <;> first|exact⟨hr,rfl⟩|(cases h;exact⟨hr,rfl⟩)|(cases h;done)
mutual
theorem WU{c:Cx}:∀(A B:AV) (cs:List Value),le0 A B->VR c A cs->VR c B cs/\uG B=uG A
 | .ag l,B,cs,h,hr=>by
   cases B with
   |ag m =>simp only[le0]at h;simp only[VR]at hr ⊢;exact⟨a6d l m cs h hr,rfl⟩
   |_=>simp only[le0]at h;cases h
 | .bool _,_,_,h,hr=>vC rfl ak h hr
 | .tt,_,_,h,hr=>vC rfl ak h hr
 | .ff,_,_,h,hr=>vC rfl ak h hr
 | .dec _,_,_,h,hr=>vC rfl ak h hr
 | .int _ _,_,_,h,hr=>vC rfl ak h hr
 | .str _,_,_,h,hr=>vC rfl ak h hr
 | .vK,_,_,h,hr=>vC rfl ak h hr
 | .uY t x,B,cs,h,hr=>by
   cases B with
   |uY t' y =>simp only[le0]at h;simp only[VR]at hr ⊢;obtain⟨rfl,h⟩:=h;obtain⟨v,h1,h2,h3⟩:=hr;exact⟨⟨v,h1,Zg (a9i h) h2,(WU x y _ h h3).1⟩,rfl⟩
   |_=>simp only[le0]at h;cases h
 | .qV,_,_,h,hr=>vC rfl ak h hr
 | .sl _ _ _,_,_,h,hr=>vC rfl ak h hr
 | .ms _ _ _ _ _,_,_,h,hr=>vC rfl ak h hr
 | .uy _,_,_,h,hr=>vC rfl ak h hr
 | .ptr _ _ _,_,_,h,hr=>vC rfl ak h hr
 | .cp _,_,_,h,hr=>vC rfl ak h hr
 | .wo,_,_,h,hr=>vC rfl ak h hr
 | .fn _ _,_,_,h,hr=>vC rfl ak h hr
 | .rC,_,_,h,hr=>vC rfl ak h hr
 | .mp _,_,_,h,hr=>vC rfl ak h hr
 | .gs _ _,_,_,h,hr=>vC rfl ak h hr
 | .bm _ _,_,_,h,hr=>vC rfl ak h hr
 | .zF,_,_,h,hr=>vC rfl ak h hr
 | .und,_,_,h,hr=>vC rfl ak h hr
theorem a6d{c:Cx}:∀(l m:List AV) (cs:List Value),Ld l m->Ea c l cs->Ea c m cs
 | [],[],_,_,hr=>hr
 | [],_::_,_,h,_=>by simp only[Ld]at h
 |_::_,[],_,h,_=>by simp only[Ld]at h
 |x::l,y::m,cs,h,hr=>by simp only[Ld]at h;simp only[Ea]at hr ⊢;obtain⟨a,d,h1,h2,h3⟩:=hr;exact⟨a,d,h1,(WU x y a h.1 h2).1,a6d l m d h.2 h3⟩
end
theorem RN{c:Cx}{A B:AV}{v:Value}(h:le0 A B)(hv:VV c A v):VV c B v:=by obtain⟨h1,h2⟩:=WU A B _ h hv.2;exact⟨⟨λhb=>hv.1.1 (by rw[<- h2];exact hb),λhb=>hv.1.2 (by rw[<- h2];exact hb)⟩,h1⟩
theorem b0V{c:Cx}:∀{l m:List AV} {vs:List Value},Ld l m->VA c l vs->VA c m vs
 | [],[],_,_,hr=>hr
 | [],_::_,_,h,_=>by simp only[Ld]at h
 |_::_,[],_,h,_=>by simp only[Ld]at h
 |x::l,y::m,vs,h,hr=>by simp only[Ld]at h;simp only[VA]at hr ⊢;obtain⟨v,r,h1,h2,h3,h4⟩:=hr;have:=RN h.1 ⟨h2,h3⟩;exact⟨v,r,h1,this.1,this.2,b0V h.2 h4⟩
theorem b2s{c:Cx}{A B:AV}{v:Value}(h:le A B)(hv:EV c A v):EV c B v:=by
 cases A with
 | uy l =>
   cases B with
   |und=>trivial
   |uy m =>obtain⟨vs,h1,h2⟩:=hv;exact⟨vs,h1,b0V h h2⟩
   |_=>simp only[le,le0]at h;cases h
 | und =>
   cases B with
   |und=>trivial
   |_=>simp only[le,le0]at h;cases h
 | _ =>
   have hv:VV c _ v:=hv;cases B with
   |und=>trivial
   |_=>exact sD (RN h hv)
def Cx.cut(c:Cx)(G:Heap):Cx:={ c with nx:=nextId G,tp:=uj G }
mutual
theorem Yf{c:Cx}{G:Heap}(htp:∀k n,uj G k=some n->c.tp k=some n):∀(A:AV) (cs:List Value),tH (nextId G) A=true->VR c A cs->VR (c.cut G) A cs
 | .bool _,_,_,hr=>by simp only[VR]at hr ⊢;exact hr
 | .tt,_,_,hr=>by simp only[VR]at hr ⊢;exact hr
 | .ff,_,_,hr=>by simp only[VR]at hr ⊢;exact hr
 | .dec _,_,_,hr=>by simp only[VR]at hr ⊢;exact hr
 | .int _ _,_,_,hr=>by simp only[VR]at hr ⊢;exact hr
 | .str _,_,_,hr=>by simp only[VR]at hr ⊢;exact hr
 | .vK,_,_,hr=>by simp only[VR]at hr ⊢;exact hr
 | .uY t x,cs,hb,hr=>by simp only[VR]at hr ⊢;obtain⟨v,h1,h2,h3⟩:=hr;exact⟨v,h1,h2,Yf htp x _ (by simpa only[tH]using hb) h3⟩
 | .qV,_,_,hr=>by simp only[VR]at hr ⊢;exact hr
 | .sl _ _ .no,_,_,hr=>by simp only[VR]at hr ⊢;exact hr
 | .sl _ _ .full,_,_,hr=>by simp only[VR]at hr ⊢;exact hr
 | .sl sz l (.own k),cs,hb,hr=>by simp only[VR]at hr ⊢;obtain⟨h1,h2,h3⟩:=hr;simp only[tH]at hb;exact⟨bF hb,h2,λn hn=>h3 n (htp k n hn)⟩
 | .ms k _ _ _ _,_,hb,hr=>by simp only[VR]at hr ⊢;simp only[tH]at hb;exact⟨bF hb,hr.2⟩
 | .ag l,cs,hb,hr=>by simp only[VR]at hr ⊢;exact a8b htp l cs (by simpa only[tH]using hb) hr
 | .uy _,_,_,hr=>by simp only[VR]at hr ⊢;exact hr
 | .ptr k _ _,_,hb,hr=>by simp only[VR]at hr ⊢;simp only[tH]at hb;exact⟨bF hb,hr.2⟩
 | .cp x,cs,_,hr=>by simp only[VR]at hr ⊢;exact hr
 | .wo,_,_,hr=>by simp only[VR]at hr ⊢;exact hr
 | .fn f cap,cs,hb,hr=>by simp only[VR]at hr ⊢;obtain⟨vs,h1,h2⟩:=hr;exact⟨vs,h1,a8g htp cap vs (by simpa only[tH]using hb) h2⟩
 | .rC,_,_,hr=>by simp only[VR]at hr ⊢;exact hr
 | .mp k,_,hb,hr=>by simp only[VR]at hr ⊢;simp only[tH]at hb;exact⟨bF hb,hr.2⟩
 | .bm f k,_,hb,hr=>by simp only[VR]at hr ⊢;simp only[tH]at hb;exact⟨bF hb,hr.2⟩
 | .gs k len,_,hb,hr=>by simp only[VR]at hr ⊢;simp only[tH]at hb;exact⟨bF hb,hr.2.1,λn hn=>hr.2.2 n (htp k n hn)⟩
 | .zF,_,_,hr=>by simp only[VR]at hr ⊢;exact hr
 | .und,_,_,hr=>by simp only[VR]at hr ⊢;exact hr
theorem a8b{c:Cx}{G:Heap}(htp:∀k n,uj G k=some n->c.tp k=some n):∀(l:List AV) (cs:List Value),vW (nextId G) l=true->Ea c l cs->Ea (c.cut G) l cs
 | [],_,_,hr=>by simpa only[Ea]using hr
 | x::l,cs,hb,hr=>by
   simp only[Ea]at hr ⊢;simp only[vW]at hb;obtain⟨a,e,h1,h2,h3⟩:=hr;cases hx:tH (nextId G) x with
   |false=>rw[hx]at hb;cases hb
   |true=>rw[hx]at hb;exact⟨a,e,h1,Yf htp x _ hx h2,a8b htp l _ hb h3⟩
theorem a8g{c:Cx}{G:Heap}(htp:∀k n,uj G k=some n->c.tp k=some n):∀(l:List AV) (vs:List Value),vW (nextId G) l=true->VA c l vs->VA (c.cut G) l vs
 | [],_,_,hr=>by simpa only[VA]using hr
 | x::l,vs,hb,hr=>by
   simp only[VA]at hr ⊢;simp only[vW]at hb;obtain⟨v,r,h1,h2,h3,h4⟩:=hr;cases hx:tH (nextId G) x with
   |false=>rw[hx]at hb;cases hb
   |true=>rw[hx]at hb;exact⟨v,r,h1,h2,Yf htp x _ hx h3,a8g htp l _ hb h4⟩
end
theorem Yd{c:Cx}{G:Heap}(htp:∀k n,uj G k=some n->c.tp k=some n){A:AV}{v:Value}(hb:tH (nextId G) A=true)(h:VV c A v):VV (c.cut G) A v:=⟨h.1,Yf htp _ _ hb h.2⟩
theorem Tc{c:Cx}{G:Heap}(htp:∀k n,uj G k=some n->c.tp k=some n){A:AV}{v:Value}(hb:tH (nextId G) A=true)(h:EV c A v):EV (c.cut G) A v:=by
 cases A <;> first
  |exact Yd htp hb h
  |trivial
  |(obtain⟨vs,h1,h2⟩:=h;exact⟨vs,h1,a8g htp _ _ (by simpa only[tH]using hb) h2⟩)
theorem a7Z{c:Cx}{G:Heap}(htp:∀k n,uj G k=some n->c.tp k=some n):∀{l:List (AV×AV)} {es:List MapEntry},EZ (nextId G) l=true->Py c l es->Py (c.cut G) l es
 | [],_,_,hr=>hr
 | (x,y)::l,es,hb,hr=>by
   obtain⟨e,r,h1,h2,h3,h4⟩:=hr;simp only[EZ]at hb;cases hx:tH (nextId G) x with
   |false=>rw[hx]at hb;cases hb
   | true =>
     cases hy:tH (nextId G) y with
     |false=>rw[hx,hy]at hb;cases hb
     |true=>rw[hx,hy]at hb;exact⟨e,r,h1,Yd htp hx h2,Yd htp hy h3,a7Z htp hb h4⟩
theorem Vb{H:Heap}{n:Nat}:∀{G:Heap},WkH H n G->∀k o,(k,o)∈G->∃o',hget H k=some o'/\leO o' o/\(match o with | .tY _ es=>EZ n es=true|o=>Uw n o=true)
 | [],_,_,_,hm=>by simp at hm
 |(i,x)::G,h,k,o,hm=>by simp only[WkH]at h;rcases aU.1 hm with hm|hm;{simp at hm;obtain⟨rfl,rfl⟩:=hm;obtain⟨o',h1,h2⟩:=uo.1 h.1;exact⟨o',h1,h2⟩};exact Vb h.2 k o hm
theorem a1l{o:HO}{s n:Nat}(h:leO o (.tok s n)):o=.tok s n:=by cases o <;> simp only[leO]at h;obtain⟨rfl,rfl⟩:=h;rfl
theorem a2E{o:HO}{s:Nat}{l:List AV}(h:leO o (.uH s l)):∃l',o=.uH s l'/\tV l' l:=by cases o <;> simp only[leO]at h;obtain⟨rfl,h⟩:=h;exact⟨_,rfl,h⟩
theorem b31.tp{H G:Heap}(h:b31 H G):∀k n,uj G k=some n->uj H k=some n:=by
 intro k n hn;unfold uj at hn ⊢;cases hg:hget G k with
 |none=>simp[hg]at hn
 |some o =>rw[hg]at hn;obtain⟨o',h1,h2,_⟩:=Vb h.get k _ (wV hg);cases o <;> simp at hn;{subst hn;obtain rfl:=a1l h2;rw[h1]};subst hn;obtain⟨l',rfl,h3⟩:=a2E h2;rw[h1];simp[yV h3]
theorem a6c{c d:Cx}{k:Nat}{o' o:HO}(hρ:d.ρ=c.ρ)(ht:d.tk=c.tk)(h:leO o' o){b:Nat}(hb:ru d (k,o)=some b):ru c (k,o')=some b:=by
 cases o with
 |gone=>simp[ru]at hb
 |glob _ _=>simp[ru]at hb
 |tok s n =>obtain rfl:=a1l h;simp only[ru,ht]at hb ⊢;exact hb
 |_=>cases o' <;> simp only[leO]at h <;> simp only[ru,hρ,ht]at hb ⊢ <;> exact hb
theorem a1m{c:Cx}:∀{l m:List (AV×AV)} {es:List MapEntry},leM l m->Py c l es->Py c m es
 | [],[],_,_,h=>h
 | [],_::_,_,h,_=>by simp only[leM]at h
 |_::_,[],_,h,_=>by simp only[leM]at h
 |(x,v)::l,(y,u)::m,es,h,hr=>by simp only[leM]at h;obtain⟨rfl,h1,h2⟩:=h;obtain⟨e,r,g1,g2,g3,g4⟩:=hr;exact⟨e,r,g1,g2,RN h1 g3,a1m h2 g4⟩
theorem a1n{sh:AV}:∀{l m:List (AV×AV)},leM l m->KSh sh l->KSh sh m
 | [],[],_,h=>h
 | [],_::_,h,_=>by simp only[leM]at h
 |_::_,[],h,_=>by simp only[leM]at h
 |(x,v)::l,(y,u)::m,h,hr=>by simp only[leM]at h;obtain⟨rfl,h1,h2⟩:=h;exact⟨hr.1,a1n h2 hr.2⟩
theorem Tr.cut{c0 c:Cx}{H0 H G:Heap}(htr:Tr c0 H0 c H)(hw:b31 H G)(hn:c0.nx<=nextId G):Tr c0 H0 (c.cut G) G:=by
 have htp:∀k n,uj G k=some n->c.tp k=some n:=λk n h=>(by rw[htr.hr.tp];exact hw.tp k n h);have hmem:∀x∈G,∃o',(x.1,o')∈H/\leO o' x.2/\∀b,ru (c.cut G) x=some b->ru c (x.1,o')=some b:=(by rintro⟨k,o⟩ hx;obtain⟨o',h1,h2,_⟩:=Vb hw.get k o hx;exact⟨o',wV h1,h2,λb hb=>a6c (d:=c.cut G) rfl rfl h2 hb⟩);refine⟨⟨rfl,rfl,hw.ids,htr.hr.im,?_,?_⟩,⟨htr.le.im,hn,htr.le.ρ,λk n hk h=>htr.le.tk k n hk (htp k n h)⟩,htr.os,htr.tape,htr.output,htr.size,htr.fr,?_,htr.imb⟩
 ·rintro⟨k,o⟩ hx;obtain⟨o',h1,h2,h3⟩:=Vb hw.get k o hx;have hok:=htr.hr.EM h1;by_cases Xa:o=.gone;{subst Xa;trivial};cases o' <;> cases o <;> simp only[leO]at h2 <;> first|exact absurd rfl Xa|skip
  ·obtain⟨cs,ty,g1,g2,g3⟩:=hok;simp only[Uw]at h3;exact⟨cs,ty,g1,Yf htp _ _ h3 (WU _ _ _ h2 g2).1,g3⟩
  ·obtain⟨rfl,rfl,h2⟩:=h2;obtain⟨cs,ty,g1,g2,g3,g4,g5,g6⟩:=hok;have hv:∀{sz:Nat} {l:List AV} {cs:List Value},Pq c sz l cs->Pq (c.cut G) sz l cs:=by
    intro sz l;induction l with
    |nil=>intros;trivial
    |cons x l ih=>rintro cs ⟨a,d,h1,h2,h3,h4⟩;exact⟨a,d,h1,h2,h3,ih h4⟩
   exact⟨cs,ty,g1,g2,by rw[<- yV h2];exact g3,g4,hv (L9 h2 g5),g6⟩
  ·obtain⟨rfl,rfl⟩:=h2;exact hok
  ·obtain⟨rfl,h2⟩:=h2;obtain⟨ents,clock,g1,g2,g3,g4⟩:=hok;exact⟨ents,clock,g1,a7Z htp h3 (a1m h2 g2),a1n h2 g3,g4⟩
  ·obtain⟨rfl,h2⟩:=h2;have hv:∀{sz:Nat} {l:List AV} {cs:List Value},Pq c sz l cs->Pq (c.cut G) sz l cs:=by
    intro sz l;induction l with
    |nil=>intros;trivial
    |cons x l ih=>rintro cs ⟨a,d,h1,h2,h3,h4⟩;exact⟨a,d,h1,h2,h3,ih h4⟩
   have hl:=yV h2;rcases hok with⟨g1,g2,g3⟩|⟨b,cs,ty,g1,g2,g3,g4,g5,g6,g7⟩;{subst g3;exact .inl ⟨g1,g2,jJ.1 (by rw[<- hl];rfl)⟩};exact .inr ⟨b,cs,ty,g1,g2,g3,by rw[<- hl];exact g4,g5,hv (L9 h2 g6),g7⟩
  obtain⟨rfl,rfl⟩:=h2;exact hok
 ·refine wJ hw.ids λx hx y hy hne b hb hb'=>?_;obtain⟨o1,h1,_,e1⟩:=hmem x hx;obtain⟨o2,h2,_,e2⟩:=hmem y hy;exact htr.hr.apart' h1 h2 hne (e1 b hb) (e2 b hb')
 intro y hy b hb;obtain⟨o1,h1,_,e1⟩:=hmem y hy;exact htr.own _ h1 b (e1 b hb)
theorem a7V{e:Env}{n:Nat}:∀{E:Env},WkE e n E->∀t A,(t,A)∈E->∃A',vk e t=some A'/\le A' A/\tH n A=true
 | [],_,_,_,hm=>by simp at hm
 |(i,x)::E,h,t,A,hm=>by simp only[WkE]at h;rcases aU.1 hm with hm|hm;{simp at hm;obtain⟨rfl,rfl⟩:=hm;obtain⟨A',h1,h2⟩:=yC.1 h.1;exact⟨A',h1,h2⟩};exact a7V h.2 t A hm
theorem Qu:∀{e:Env} {t:Nat} {A:AV},vk e t=some A->(t,A)∈e
 | [],_,_,h=>by simp[vk]at h
 | (i,x)::e,t,A,h=>by
   simp only[vk]at h;cases hb:Nat.beq i t with
   |true =>rw[hb]at h;obtain rfl:=aJ hb;simp at h;subst h;simp
   |false=>rw[hb]at h;exact cZ _ (Qu h)
theorem QV{c:Cx}{e E:Env}{G H:Heap}{a:Act}(he:xU c e a)(hr:HR c H)(hw:b31 H G)(h:WkE e (nextId G) E):∀t A,(t,A)∈E->EV (c.cut G) A (a.tmps.getD t undef):=by intro t A hm;obtain⟨A',h1,h2,h3⟩:=a7V h t A hm;exact Tc (λk n hn=>by rw[hr.tp];exact hw.tp k n hn) h3 (b2s h2 (he t A' h1))
mutual
theorem Qe:∀(A:AV),IY A A
 | .bool _ | .tt | .ff | .dec _ | .str _ | .vK | .qV | .ms _ _ _ _ _ | .uy _ | .ptr _ _ _ | .cp _ | .wo | .fn _ _ | .rC | .mp _ | .gs _ _ | .bm _ _ | .zF | .und=>by simp[IY]
 | .uY t x=>⟨rfl,Qe x⟩
 | .int _ _=>⟨rfl,rfl⟩
 | .sl _ l .no=>⟨rfl,qX l⟩
 | .sl _ l .full=>by simp[IY]
 | .sl _ l (.own _)=>by simp[IY]
 | .ag l=>qX l
theorem qX:∀(l:List AV),tV l l
 | []=>trivial
 |x::l=>⟨Qe x,qX l⟩
end
mutual
theorem tZ:∀(A:AV),le0 A A
 | .bool _ | .tt | .ff | .dec _ | .str _ | .vK | .qV | .ms _ _ _ _ _ | .uy _ | .ptr _ _ _ | .cp _ | .wo | .fn _ _ | .rC | .mp _ | .gs _ _ | .bm _ _ | .zF | .und=>by simp[le0]
 | .uY t x=>⟨rfl,tZ x⟩
 | .int _ _=>⟨rfl,rfl⟩
 | .sl _ l .no=>⟨rfl,qX l⟩
 | .sl _ l .full=>⟨rfl,qX l⟩
 | .sl _ l (.own _)=>⟨rfl,qX l,rfl⟩
 | .ag l=>rQ l
theorem rQ:∀(l:List AV),Ld l l
 | []=>trivial
 |x::l=>⟨tZ x,rQ l⟩
end
theorem le_refl(A:AV):le A A:=by cases A <;> first|exact tZ _|exact rQ _|trivial
mutual
theorem L6{c:Cx}:∀(A:AV) (cs:List Value),VR c A cs->tH c.nx A=true
 | .bool _,_,_ | .tt,_,_ | .ff,_,_ | .dec _,_,_ | .int _ _,_,_ | .str _,_,_ | .vK,_,_ | .qV,_,_ | .cp _,_,_ | .wo,_,_ | .rC,_,_ | .zF,_,_ | .und,_,_
 | .sl _ _ .no,_,_ | .sl _ _ .full,_,_=>rfl
 | .uy _,_,h=>by simp only[VR,Rd]at h
 | .uY t x,_,h=>by simp only[VR]at h;obtain⟨v,_,_,h3⟩:=h;exact L6 x _ h3
 | .sl _ _ (.own k),_,h=>by simp only[VR]at h;simpa[tH]using h.1
 | .ms _ _ _ _ _,_,h=>by simp only[VR]at h;simpa[tH]using h.1
 | .ptr _ _ _,_,h=>by simp only[VR]at h;simpa[tH]using h.1
 | .mp _,_,h=>by simp only[VR]at h;simpa[tH]using h.1
 | .gs _ _,_,h=>by simp only[VR]at h;simpa[tH]using h.1
 | .bm _ _,_,h=>by simp only[VR]at h;simpa[tH]using h.1
 | .ag l,_,h=>by simp only[VR]at h;exact a8c l _ h
 | .fn _ cap,_,h=>by simp only[VR]at h;obtain⟨vs,_,h2⟩:=h;exact b1s cap _ h2
theorem a8c{c:Cx}:∀(l:List AV) (cs:List Value),Ea c l cs->vW c.nx l=true
 | [],_,_=>rfl
 |x::l,_,h=>by simp only[Ea]at h;obtain⟨a,d,_,h2,h3⟩:=h;simp only[vW,L6 x _ h2,a8c l _ h3]
theorem b1s{c:Cx}:∀(l:List AV) (vs:List Value),VA c l vs->vW c.nx l=true
 | [],_,_=>rfl
 |x::l,_,h=>by simp only[VA]at h;obtain⟨v,r,_,_,h2,h3⟩:=h;simp only[vW,L6 x _ h2,b1s l _ h3]
end
theorem Vf{c:Cx}:∀{l:List (AV×AV)} {es:List MapEntry},Py c l es->EZ c.nx l=true
 | [],_,_=>rfl
 |(x,y)::l,_,h=>by obtain⟨e,r,_,h2,h3,h4⟩:=h;simp only[EZ,L6 x _ h2.2,L6 y _ h3.2,Vf h4]
theorem a3A{H:Heap}{n:Nat}:∀{G:Heap},(∀k o,(k,o)∈G->∃o',hget H k=some o'/\leO o' o/\(match o with | .tY _ es=>EZ n es=true|o=>Uw n o=true))->WkH H n G
 | [],_=>trivial
 |(i,x)::G,h=>⟨uo.2 (h i x ak),a3A λk o hm=>h k o (by simp[hm])⟩
theorem qP:∀(l:List (AV×AV)),leM l l
 | []=>trivial
 |(_,y)::l=>⟨rfl,tZ y,qP l⟩
theorem Qg(o:HO):leO o o:=by
 cases o with
 |box A=>exact tZ A
 |arr=>exact⟨rfl,rfl,qX _⟩
 |tok=>exact⟨rfl,rfl⟩
 |tY=>exact⟨rfl,qP _⟩
 |uH=>exact⟨rfl,qX _⟩
 |glob=>exact⟨rfl,rfl⟩
 |gone=>trivial
theorem HWk.to0{c:Cx}{H G:Heap}(h:HWk H G)(hr:HR c H):b31 H G:=by
 cases h with
 |mk h1 h2=>exact⟨h1,h2⟩
 | refl h =>
   subst h;refine⟨a3A λk o hm=>?_,hr.ids⟩;have hok:=hr.ok _ hm;refine⟨o,EO hr.ids hm,Qg o,?_⟩;rw[<- hr.nx];cases o with
   |box A=>obtain⟨cs,ty,_,h2,_⟩:=hok;exact L6 _ _ h2
   |tY sh es=>obtain⟨ents,clock,_,h2,_⟩:=hok;exact Vf h2
   |_=>rfl
end Go.AL