/-
  Contracts of functions of the program. Nothing is assumed.
-/
import Derived.Test.YtdkhmfabhfgemaaGreatT10
import Derived.Shelf.SlIter.Collect
import Derived.RangeFuncLeaves
import Derived.Shelf.Slices.CompactS
import Derived.Lib.RowBridge
import Derived.Maps.RangeRun
import Derived.Sort.Walk0
section
open Go Go.AL Go.Proofs Go.RowKit Go.Maps Go.Sort Go.Shelf
namespace S
set_option maxRecDepth 100000
set_option maxHeartbeats 2000000 in
theorem b1F(n:Nat)(hn:1<=n)(lp n0:Nat)(a:Addr)(base:Option Addr)(cap:Nat)(l:List Str)(W0 W:World)(J:List Str->World->Prop)
  (hl:l.length<=1000000) (hab:a.block<n0) (ha0:W0.cell? a=some (.slice base l.length cap)) (hc:l≠[]->∃b off,base=some ⟨b,off,none⟩/\b<n0/\∀j s,l[j]? = some s->W0.cell? ⟨b,off+j,none⟩=some (encStr s))
  (hB:∀pre W',J pre W'->Below n0 W0 W')
  (hY:∀pre x W',J pre W'->pre.length<l.length->YieldAt Fence.wide (n-1) Tryz.prog lp #[encStr x] W' λe W''=>e=.returned (.bool true)/\J (pre++[x]) W''/\KeepsWalks W' W'')
  (h0:J [] W) :
  CallsIn Fence.wide n Tryz.prog 85 #[.func (.yield lp) #[] #[],.pointer (some a)] W λe W'=>(∃v,e=.returned v)/\J l W':=by
 have sas:=@Oper.semAt_some;have ha:W.cell? a=some (.slice base l.length cap):=((hB _ _ h0).cell (p:=a) hab).trans ha0;refine callsIn_of_wp Tryz.func85 rfl trivial ?_ rfl;simp only[Tryz.ntmps85,jG,dY,jh,Nat.reduceAdd,Nat.reduceSub,Array.replicate_succ,Array.replicate_zero,List.push_toArray,List.append_toArray,fE,eP]
 gi_wp2
 gi_loopw [7] (λi wr=>∃k:Nat,k<=l.length/\i=.int .i64 k/\J (l.take k) wr)
  (λi _=>l.length-(Go.Proofs.intOf i).toNat)
 case atStart=>exact⟨0,aP _,rfl,by simpa using h0⟩
 case round =>
  obtain⟨k,hk,rfl,hJs⟩:=hrel;by_cases hlt:k<l.length
  ·obtain⟨b,off,rfl,hb,hcs⟩:=hc (by rintro rfl;simp at hlt);have hcx:wr.cell? ⟨b,off+k,none⟩=some (encStr l[k]):=((hB _ _ hJs).cell (p:=⟨b,off+k,none⟩) hb).trans (hcs k _ (aH hlt));obtain⟨fn,tmps,assign,body,hy,hR⟩:=hY _ l[k] wr hJs (by rw[dh];omega)
   gi_wp2
   refine hR.mono ?_;rintro e W3 ⟨rfl,hJ3,hk3⟩
   gi_wp2
   go_roundw
   case rel=>exact⟨k+1,aj,ak,by rw[bV hlt];exact hJ3⟩
   case measure=>simp[Go.Proofs.intOf];omega
  obtain rfl:k=l.length:=aj
  gi_wp2
  go_end0
  exact⟨⟨_,rfl⟩,by simpa using hJs⟩
def rnZ:Go.Shelf.Ren:=⟨λx=>match x with|11=>156|n=>n,λx=>match x with|24=>33|26=>9|28=>81|33=>159|n=>n,λx=>x⟩
theorem Bf:SlLaysZ.n11 Tryz.prog rnZ where
 mixed:=mixed
 f11:=⟨Tryz.f156.name,by kernel_rfl,by kernel_rfl⟩
 t0:=by kernel_rfl
 a0:=λw=>by rfl
 z0:=λw=>by rfl
 v0:=λw=>by rfl
 t24:=by kernel_rfl
 a24:=λw=>by rfl
 z24:=λw=>by rfl
 v24:=λw=>by rfl
 t26:=by kernel_rfl
 a26:=λw=>by rfl
 z26:=λw=>by rfl
 v26:=λw=>by rfl
 t28:=by kernel_rfl
 a28:=λw=>by rfl
 z28:=λw=>by rfl
 v28:=λw=>by rfl
 i26:=by kernel_rfl
set_option maxHeartbeats 2000000 in
theorem appendSeq(a:Addr)(base:Option Addr)(cap:Nat)(l:List Str)(w:World)(hl:l.length<=1000000)(hab:a.block<w.heap.size)(ha:w.cell? a=some (.slice base l.length cap))
  (hc:l≠[]->∃b off,base=some ⟨b,off,none⟩/\b<w.heap.size/\∀j s,l[j]? = some s->w.cell? ⟨b,off+j,none⟩=some (encStr s)) :
  Calls Tryz.prog 156 #[.slice none 0 0,.func (.func 85) #[] #[.pointer (some a)]] w λe w'=>∃v,e=.returned v/\w'.ownsRow w.heap.size 9 1 v l.length (l.map encStr)/\(v=.slice none 0 0↔l=[])/\Below w.heap.size w w':=by
 rw[<- callsIn_wide (n:=9)];have eg:∀args w,(callFunc 85 args).run Tryz.prog w=.ok (.enter 85 args) w:=enters_of Tryz.func85 (by kernel_rfl) rfl;obtain⟨_,_,FG⟩:=Bf.f11;refine callsIn_of_wp_marks FG rfl trivial ?_ rfl;simp only[SlBodyZ.n11_ntmps rnZ,jG,dY,jh,Nat.reduceAdd,Nat.reduceSub,Array.replicate_succ,Array.replicate_zero,List.push_toArray,List.append_toArray,fE,eP];have mixed:=Bf.mixed;have t0:=Bf.t0;have a0:=Bf.a0;have z0:=Bf.z0;have v0:=Bf.v0;have t24:=Bf.t24;have a24:=Bf.a24;have z24:=Bf.z24;have v24:=Bf.v24;have t26:=Bf.t26;have a26:=Bf.a26;have z26:=Bf.z26;have v26:=Bf.v26;have t28:=Bf.t28;have a28:=Bf.a28;have z28:=Bf.z28;have v28:=Bf.v28;have hne:rnZ.t 24≠rnZ.t 26:=au;have u0:=run_underlying Bf.t0;have u24:=run_underlying Bf.t24;have u26:=run_underlying Bf.t26;have u28:=run_underlying Bf.t28
 gi_wp2
 refine wpIn_rangeFunc ?_;intro fn hfn;rw[show Fence.wide.round=none from rfl];generalize hsv:Value.func (Fn.func 85) #[] #[Value.pointer (some a)]=sv;obtain⟨W0,hW0⟩:∃W0,w.alloc (.cells #[.slice none 0 0] (rnZ.t 24))=W0:=⟨_,rfl⟩;have hs0:W0.heap.size=w.heap.size+1:=(by rw[<- hW0];simp);have hv0:W0.heap[w.heap.size]? = some (.cells #[.slice none 0 0] (rnZ.t 24) (0,0)):=(by rw[<- hW0];exact World.alloc_heap_new w _);have hb0:Below w.heap.size w W0:=(by rw[<- hW0];exact(Below.refl _ w).alloc (aT _) _);rw[hW0];obtain⟨W1,hW1⟩:∃W1,(W0.alloc (.deferred (some []))).alloc (.loop (AnyZ.apRec rnZ fn sv w.heap.size W0.heap.size .ready none))=W1:=⟨_,rfl⟩;have hold:∀k,k<W0.heap.size->W1.heap[k]? = W0.heap[k]?:=λk hk=>(by rw[<- hW1];exact(Below.heap_alloc _ _ k aA).trans (Below.heap_alloc _ _ k hk));have hb1:Below w.heap.size w W1:=(by rw[<- hW1];exact(hb0.alloc hb0.size _).alloc (by have:=hb0.size;simp;omega) _);have hs1:W1.heap.size=W0.heap.size+2:=(by rw[<- hW1];simp);have hM:AnyZ.ApAt rnZ w fn sv w.heap.size (W0.heap.size+1) W0.heap.size [] W1 :=
  ⟨⟨_,(hold w.heap.size aj).trans hv0,⟨rfl,.inl ⟨rfl,rfl⟩⟩,ak⟩,
   by rw[<- hW1];have:=World.alloc_heap_new (W0.alloc (.deferred (some []))) (.loop (AnyZ.apRec rnZ fn sv w.heap.size W0.heap.size .ready none));rwa[World.size_alloc]at this,
   by rw[<- hW1];exact(Below.heap_alloc _ _ _ ak).trans (World.alloc_heap_new W0 _),hb1⟩
 refine⟨W0.heap.size+1,[{ target:=.collected W0.heap.size,args:=#[] }],W1,{ target:=.fn (.func 85) #[.pointer (some a)],args:=#[.func (.yield (W0.heap.size+1)) #[] #[]] },W1,85,
  #[.func (.yield (W0.heap.size+1)) #[] #[],.pointer (some a)],W1,?_,?_,?_,?_,λ_=>au,?_⟩
 ·rw[<- hW1];exact run_enterLoop_outer _ _ _ _ _
 ·rw[<- hsv];simp[resolve,go_sem]
 ·intro f' hf';trivial
 ·simp[invoke,go_sem,eg]
 refine(b1F 8 au (W0.heap.size+1) w.heap.size a base cap l w W1 (AnyZ.ApAt rnZ w fn sv w.heap.size (W0.heap.size+1) W0.heap.size) hl hab ha hc (λ_ _ h=>h.below)
  (λpre x W hJ hl'=>AnyZ.apYield Bf Fence.wide 7 w fn trivial _ w.heap.size (W0.heap.size+1) W0.heap.size aj aj aj (aT _) aj 1000000 (by simp[maxLen]) aj pre x W hJ aj) hM).mono ?_
 rintro e W2 ⟨⟨v0,rfl⟩,h2⟩;obtain⟨v,hv,hrow,hnil⟩:=h2.box;have hend:=run_endLoop (P:=Tryz.prog) h2.L (by simp[AnyZ.apRec]);obtain⟨W3,hW3⟩:∃W3,W2.putObj (W0.heap.size+1) (.loop { AnyZ.apRec rnZ fn sv w.heap.size W0.heap.size .ready none with state:=.exhausted })=W3:=⟨_,rfl⟩;rw[hW3]at hend;have hg3:W2.grownBy W3 (some (W0.heap.size+1)):=by rw[<- hW3];exact grownBy_putObj_a _ _ _
 have hv3:W3.heap[w.heap.size]? = some (.cells #[v] (rnZ.t 24) (0,0)):=(by rw[<- hW3];exact(World.putObj_heap_other aj).trans hv);have hK3:W3.heap[W0.heap.size]? = some (.deferred (some [])):=(by rw[<- hW3];exact(World.putObj_heap_other aj).trans h2.K);have hrow3:=hrow.kept hg3 (ownsRow_ne_a hrow h2.L (λcur e=>by first|cases e|exact hne (Obj.cells.inj e).2.1));have hb3:Below w.heap.size w W3:=h2.below.grown hg3 h2.below.size (λk e=>by cases e;omega);obtain⟨hc3,hf3⟩:=cell_of_box_a hv3;clear hW3;refine⟨none,W3,hend,?_⟩
 gi_wp2
 rw[<- hs0];refine⟨ak,.inl ⟨_,_,rfl,run_takeDeferred hK3,?_⟩⟩;exact⟨_,results_tmp rfl _ _ _,v,rfl,hrow3.kept (grownBy_putObj_a _ _ _) (ownsRow_ne_a hrow3 hK3 (λcur e=>by first|cases e|exact hne (Obj.cells.inj e).2.1)),hnil,hb3.grown (grownBy_putObj_a _ _ _) hb3.size (λk e=>by cases e;omega)⟩
end S
end
section
open Go Go.AL Go.Proofs Go.RowKit Go.Maps Go.Shelf
namespace S
set_option maxRecDepth 100000
theorem b36{c:Cx}{f:Nat}{l:List Str}{v:Value}(hr:HR c [])(h:EV c (.fn f [.cp (sL l)]) v) :
  ∃ a base cap,v=.func (.func f) #[] #[.pointer (some a)]/\a.block<c.w.heap.size/\c.w.cell? a=some (.slice base l.length cap)/\(∀s∈l,s.length<=maxL) /\
    (l≠[]->∃b off,base=some ⟨b,off,none⟩/\b<c.w.heap.size/\∀j s,l[j]? = some s->c.w.cell? ⟨b,off+j,none⟩=some (encStr s)):=by
 obtain⟨h1,h2⟩:VV c (.fn f [.cp (sL l)]) v:=h;have e:=h1.2 rfl;rw[e]at h2;simp only[VR]at h2;obtain⟨vs,h3,h4⟩:=h2;simp only[VA]at h4;obtain⟨v1,r,rfl,h5,h6,rfl⟩:=h4;have e1:=h5.2 rfl;rw[e1]at h6;simp only[VR,Rd]at h6;obtain⟨a,ds,h7,h8,h9,h10⟩:=h6;obtain⟨ab,ao,asp⟩:=a;simp only at h8;subst h8;have hv1:v1=.pointer (some ⟨ab,ao,none⟩):=(by simpa using h7);subst hv1;have hv:v=.func (.func f) #[] #[.pointer (some ⟨ab,ao,none⟩)]:=(by simpa using h3);refine⟨⟨ab,ao,none⟩,?_⟩;rcases h10 with⟨_,⟨h11,rfl⟩|⟨a',cap,rfl,_,_,h12,h13⟩⟩;{have hl0:l=[]:=(by simpa using h11);subst hl0;obtain⟨g1,g2⟩:=h9 0 _ rfl;exact⟨none,0,hv,hr.im _ _ g2,by simpa using g1,ak,λh=>absurd rfl h⟩};obtain⟨g1,g2⟩:=h9 0 _ rfl;obtain⟨bb,bo,bsp⟩:=a';have hE:∀(l:List Str) (off:Nat),IZ c.w c.Im 1 bb (l.map .str) off->∀j s,l[j]? = some s->c.w.cell? ⟨bb,off+j,none⟩=some (encStr s)/\s.length<=maxL/\c.Im bb (off+j):=by
  intro l;induction l with
  |nil=>intro off h j s hj;simp at hj
  | cons x l ih =>
    intro off h j s hj;simp only[dF,IZ,Rd]at h;obtain⟨⟨cs,_,k1,rfl,k3⟩,k4⟩:=h;cases j with
    |zero =>have:=k1 0 _ rfl;simp only[dX,mg]at hj;subst hj;exact⟨this.1,k3,this.2⟩
    |succ j =>have:=ih (off+1) k4 j s (by simpa using hj);rw[show off+(j+1)=off+1+j by omega];exact this
 refine⟨some ⟨bb,bo,bsp⟩,cap,hv,hr.im _ _ g2,by simpa using g1,?_,?_⟩;{intro s hs;obtain⟨j,hj⟩:=List.getElem?_of_mem hs;exact(hE l bo h13 j s hj).2.1};intro hne;have hsp:bsp=none:=h12 (by simpa using hne);subst hsp;obtain⟨s,t,rfl⟩:=List.exists_cons_of_ne_nil hne;exact⟨bb,bo,rfl,hr.im _ _ (hE _ bo h13 0 s rfl).2.2,λj s' hj=>(hE _ bo h13 j s' hj).1⟩
theorem Tr.grown{c:Cx}{w':World}{v:Value}{l:List Str}{ty:TypeId}(hr:HR c [])(hb:Below c.w.heap.size c.w w')(hs:∀s∈l,s.length<=maxL)
  (ho:w'.ownsRow c.w.heap.size ty 1 v l.length (l.map encStr)):∃d,d.w=w'/\Tr c [] d [(0,.uH 1 (l.map .str))]/\EV d (.gs 0 l.length) v:=by
 have hnx:c.nx=0:=hr.nx;obtain⟨base,cap,hv,hok⟩:∃(base:Option Addr) (cap:Nat),v=.slice base l.length cap/\((base=none/\cap=0/\l=[])\/∃b cs,base=some ⟨b,0,none⟩/\c.w.heap.size<=b/\w'.heap[b]? = some (.cells (Array.mk cs) ty)/\cs.length=cap*1/\l.length<=cap/\cap<=maxL/\cs.take l.length=l.map encStr):=(by rcases ho.2 with⟨h1,h2⟩|⟨g,cap,cur,h1,h2,h3,h4,h5,h6,h7⟩;{exact⟨none,0,by rw[h1,h2],.inl ⟨rfl,rfl,bQ h2⟩⟩};refine⟨_,cap,h1,.inr ⟨g,cur.toList,rfl,h2,h3,by simpa using h6,h4,by simpa[maxL,maxLen]using h5,by simpa using h7⟩⟩);let d:Cx:={ c with w:=w',nx:=1,tk:=λk=>if k=0 then(base,cap)else c.tk k,tp:=uj [(0,.uH 1 (l.map .str))] };have htk:d.tk 0=(base,cap):=(by simp[d]);have le:c.Le d:=(by refine⟨λb o h=>⟨h,wX ?_⟩,by simp[d,hnx],λ_ _=>rfl,λk n hk=>absurd hk aj⟩;exact hb.block b (hr.im b o h));refine⟨d,rfl,⟨⟨rfl,rfl,⟨ak,trivial⟩,λb o h=>fU (hr.im b o h) hb.size,?_,ak⟩,le,hb.os,hb.tape,hb.output,hb.size,λb h _=>hb.block b h,?_,λ_ _ h=>.inl h⟩,?_⟩;{intro x hx;obtain rfl:x=_:=jr.1 hx;rcases hok with⟨rfl,rfl,rfl⟩|⟨b,cs,rfl,h2,h3,h4,h5,h6,h7⟩;{exact .inl ⟨by rw[htk],by rw[htk],rfl⟩};exact .inr ⟨b,cs,ty,by rw[htk],h3,by rw[htk];exact h4,by rw[htk];simpa using h5,by rw[htk];exact h6,Yk hs h7,λo h=>absurd (hr.im _ _ h) aj⟩};{intro y hy b hb';obtain rfl:y=_:=jr.1 hy;simp only[ru,htk]at hb';rcases hok with⟨rfl,rfl,rfl⟩|⟨b',cs,rfl,h2,h3,h4,h5,h6,h7⟩;{simp at hb'};simp at hb';exact .inl aj};rw[hv];exact a6l (c:=d) (j:=0) (by simp[d]) (by show uj [(0,.uH 1 (l.map .str))] 0=some l.length;simp[uj,hget]) htk
theorem a1N(l:List Str)(hl:l.length<=1000000):ZQ 156 [.qV,.fn 85 [.cp (sL l)]] [] (.gs 0 l.length) [(0,.uH 1 (l.map .str))]:=by refine⟨⟨_,Tryz.func156,by kernel_rfl,by kernel_rfl⟩,λc vs hr hv=>?_⟩;obtain⟨v1,v2,rfl,h1,h2⟩:∃v1 v2,vs=[v1,v2]/\EV c .qV v1/\EV c (.fn 85 [.cp (sL l)]) v2:=(by obtain⟨v,r,rfl,h1,v',r',rfl,h2,rfl⟩:=hv;exact⟨v,v',rfl,h1,h2⟩);obtain rfl:v1=.slice none 0 0:=DW h1;obtain⟨a,base,cap,rfl,k1,k2,k3,k4⟩:=b36 hr h2;refine Calls.mono (appendSeq a base cap l c.w hl k1 k2 k4) ?_;rintro e w' ⟨v,rfl,h3,_,h4⟩;obtain⟨d,h5,h6,h7⟩:=Tr.grown hr h4 k3 h3;exact⟨v,d,rfl,h5,h6,h7⟩
end S
end
open Go Go.AL Go.Proofs
namespace S
set_option maxRecDepth 100000
theorem a7A(l:List Str)(hl:l.length<=1000000):ZQ 84 [.fn 85 [.cp (sL l)]] [] (.gs 0 l.length) [(0,.uH 1 (l.map .str))]:=by
 refine ZI Tryz.func84 λhok=>?_;conv=>whnf
 refine .gen _ _ (a1N l hl) λ_=>?_;conv=>whnf
 exact ZX
def rnC:Go.Shelf.Ren:=⟨λx=>match x with|194=>26|n=>n,λx=>match x with|31=>33|n=>n,λx=>x⟩
theorem laysC:Go.Proofs.Lays.n194 Tryz.prog rnC where
 mixed:=mixed
 f194:=by kernel_rfl
 t0:=by kernel_rfl
 a0:=λw=>by rfl
 z0:=λw=>by rfl
 v0:=λw=>by rfl
 t3:=by kernel_rfl
 a3:=λw=>by rfl
 z3:=λw=>by rfl
 v3:=λw=>by rfl
 t4:=by kernel_rfl
 a4:=λw=>by rfl
 z4:=λw=>by rfl
 v4:=λw=>by rfl
 t9:=by kernel_rfl
 a9:=λw=>by rfl
 z9:=λw=>by rfl
 v9:=λw=>by rfl
 t31:=by kernel_rfl
 a31:=λw=>by rfl
 z31:=λw=>by rfl
 v31:=λw=>by rfl
theorem a1r{w:World}{g n:Nat}(d:Array (List UInt8)):w.grownBy (Go.Sort.putRow encStr (Go.Sort.ahead w n) g 0 d) (some g):=by have:=Go.grownBy_sorted (w:=w) (g:=g) (n:=n) (os:=#[]) d;rwa[show Go.Sort.grow (Go.Sort.putRow encStr (Go.Sort.ahead w n) g 0 d) #[]=Go.Sort.putRow encStr (Go.Sort.ahead w n) g 0 d by simp only[Go.Sort.grow,Array.append_empty]]at this
abbrev XB(l:List Str):List Str:=Go.Lib.compact l
theorem a9K{l:List Str}{s:Str}(h:s∈XB l):s∈l:=by simp only[XB,Go.Lib.compact,Go.Lib.compactUpTo,bg,dZ,iy]at h;obtain⟨j,⟨h1,_⟩,rfl⟩:=h;simp[h1]
theorem a7z(l:List Str)(hl:l.length<=1000000)(hm:∀s∈l,s.length<=1000000):ZQ 26 [.gs 0 l.length] [(0,.uH 1 (l.map .str))] (sL (XB l)) [(0,.gone)]:=by
 refine⟨⟨_,laysC.f194,by kernel_rfl,by kernel_rfl⟩,λc vs hr hv=>?_⟩;obtain⟨v,rfl,hw⟩:∃v,vs=[v]/\EV c (.gs 0 l.length) v:=(by obtain⟨v,r,rfl,h1,rfl⟩:=hv;exact⟨v,rfl,h1⟩);have hV:VV c (.gs 0 (l.map AV.str).length) v:=(by rw[aC];exact hw);have ho:hget [(0,HO.uH 1 (l.map AV.str))] 0=some (.uH 1 (l.map .str)):=rfl;obtain⟨e,hj,hc1,hc2⟩:=Ji hr ho hV;subst e;rcases hr.EM ho with⟨g1,g2,g3⟩|⟨b,cs,ty,g1,g2,g3,g4,g5,g6,g7⟩;{have hl0:l=[]:=(by simpa using g3);subst hl0;obtain⟨d,d1,d2,d3⟩:=Tr.Nk hr ho (by simp[maxL]) hV;refine Calls.mono (Go.Proofs.Any.slices_Compact_string_empty laysC _ _ c.w) ?_;rintro e w' ⟨rfl,rfl⟩;exact⟨_,d,rfl,d1,d2,d3⟩};rw[aC]at g4 ⊢;rw[g1];refine Calls.mono (Go.Proofs.Any.slices_Compact_string laysC b 0 _ l c.w (Go.holds_of_block g2 (a1X g6)) aj g4) ?_;rintro e w' ⟨rfl,n,rfl⟩;have hle:(XB l).length<=l.length:=Go.Lib.compact_length_le l;generalize hL:(XB l++List.replicate (l.length-(XB l).length) [])=l';have hlen:l'.length=l.length:=(by rw[<- hL];simp;omega);have hb2:=Go.heap_sorted (w:=c.w) (n:=n) (os:=#[]) l'.toArray g2;rw[show Go.Sort.grow (Go.Sort.putRow encStr (Go.Sort.ahead c.w n) b 0 l'.toArray) #[]=Go.Sort.putRow encStr (Go.Sort.ahead c.w n) b 0 l'.toArray by simp only[Go.Sort.grow,Array.append_empty]]at hb2;have hml:∀s∈l',s.length<=maxL:=(by intro s hs;rw[<- hL]at hs;rcases dM.1 hs with hs|hs;{exact dI (hm s (a9K hs)) (by simp[maxL])};rw[List.eq_of_mem_replicate hs];simp[maxL]);have T:=Tr.b7t (l':=l'.map .str) (cs':=(Go.Sort.putCells Go.Proofs.encStr 0 l'.toArray cs.toArray).toList) hr ho g1 g2 g3 g5 g7 (a1r l'.toArray) (by rw[jc];exact hb2) (by simp[Go.Sort.putCells]) (by simp[hlen]) (by simpa[hlen]using g4)
  (Yk hml (Go.take_putCells cs.toArray l' (by rw[hlen];simpa using dI g4 aj)))
 have hV1:=a6l (c:={ c with w:=Go.Sort.putRow encStr (Go.Sort.ahead c.w n) b 0 l'.toArray,tp:=uj (hset [(0,HO.uH 1 (l.map AV.str))] 0 (.uH 1 (l'.map .str))) }) (j:=0) (n:=(l'.map AV.str).length) (b:=some ⟨b,0,none⟩) (cap:=(c.tk 0).2) hj (by simp[uj,hget,hset]) (by show c.tk 0=_;rw[<- g1]);obtain⟨d,d1,d2,d3⟩:=Tr.Nk T.hr rfl (by rw[aC,hlen];simp[maxL];omega) hV1;refine⟨_,d,rfl,d1,T.trans d2,?_⟩;have h4:Rd d.w d.Im (.sl 1 (l'.map .str) .no) [.slice (some ⟨b,0,none⟩) (l'.map AV.str).length (c.tk 0).2]:=d3.2;simp only[Rd]at h4;refine vG rfl rfl ?_;simp only[VR,Rd];refine⟨by rw[aC];simp[maxL];omega,.inr ⟨⟨b,0,none⟩,_,by rw[aC],by rw[aC];omega,g5,λ_=>rfl,?_⟩⟩;rcases h4.2 with⟨h5,h6⟩|⟨a,cap,h5,_,_,_,h6⟩;{simp at h6};obtain rfl:a=⟨b,0,none⟩:=(by simp at h5;exact h5.1.symm);have h7:=Yu (XB l).length h6;rw[<- gX,<- hL,List.take_left]at h7;exact h7
end S
namespace Go.AL
section
variable{P:Program}
end
end Go.AL
namespace Go.AL
section
variable{P:Program}{L:Lay}(F:FT)(vV:AV->Prop)(L:Lay)
end
section
variable{P:Program}{L:Lay}{F:FT}
end
end Go.AL
namespace Go.AL
inductive Mk where
 |n|s (x y:Mk)|j (x y:Mk)|f (js:List Nat) (x:Mk)|c (x y:Mk)|b (x:Mk)|t (x:Mk)
def Mk.r:Nat->Mk->Mk
 | 0,m=>m
 |k+1,m=>.s .n (Mk.r k m)
structure b7f(vV:AV->Prop)(H:Heap)(A:(AX->Env->Heap->Prop)->Prop)(B:Env->Heap->Prop)(Q:AX->Env->Heap->Prop):Prop where
 ex:∃(ι:Type) (E:ι->Env) (HS:ι->Heap),A (λx e' H'=>match x with
   | .normal=>∃i,nextId H<=nextId (HS i)/\WkE e' (nextId (HS i)) (E i)/\HWk H' (HS i)
   |x=>Q x e' H')/\∀i,(∀t A,(t,A)∈E i->vV A)->B (E i) (HS i)
inductive b5Z(e:Env)(H:Heap)(K:Env->Heap->Prop):Prop where
 |skip (h:K e H)
 | go (t j sz:Nat) (l:List AV) (h:vk e t=some (.gs j l.length)) (ho:hget H j=some (.uH sz l)) (ne:l≠[])
   (next:∀cp,l.length<=cp->cp<=maxL->K ((t,.ms (nextId H) 0 l.length cp sz)::e) ((nextId H,.arr sz cp l)::hset H j .gone))
section
variable(F:FT)(vV:AV->Prop)(L:Lay)
def FC:Mk->Code->(AX->Env->Heap->Prop)->Env->Heap->Prop
 | .n,c,Q,e,H=>Ux F vV L c Q e H
 | .s x y,.seq a b,Q,e,H=>FC x a (λz e' H'=>match z with | .normal=>FC y b Q e' H'|z=>Q z e' H') e H
 | .j x y,.seq a b,Q,e,H=>b7f vV H (λK=>FC x a K e H) (FC y b Q) Q
 | .f js m,c,Q,e,H=>YL js e H λe' H'=>FC m c Q e' H'
 | .t m,c,Q,e,H=>b5Z e H λe' H'=>FC m c Q e' H'
 | .c x y,.cond o a b,Q,e,H=>uw e o λA=>br A (FC x a Q e H) (FC y b Q e H)
 | .b m,.block i b,Q,e,H=>FC m b (λx e' H'=>match x with
   | .exit j=>(match Nat.beq j i with|true=>Q .normal e' H'|false=>Q (.exit j) e' H')
   |x=>Q x e' H') e H
 | .b m,.loop b,Q,e,H=>qW vV (writes b) (FC m b) Q e H
 |_,_,_,_,_=>False
end
section
variable{P:Program}{L:Lay}{F:FT}
theorem xA(hL:uz P L)(hm:P.follows .mixedOrders=true)(hFn:FS P F){n:Nat} :
  ∀ (m:Mk) (code:Code) (Q:AX->Env->Heap->Prop) (e:Env) (H:Heap) (c:Cx) (a:Act),AB n code=true->HR c H->Cc n c e a->FC F Ok L m code Q e H ->
    code.wp P (Post n (writes code) c H a Q) a c.w
 | .n,code,Q,e,H,c,a,hc,hr,ha,h=>Au hL hm hFn code Q e H c a hc hr ha (by simpa only[FC]using h)
 | .s m1 m2,.seq x y,Q,e,H,c,a,hc,hr,ha,h=>by
   simp only[AB,aK]at hc;simp only[FC]at h;refine wp_seq (wp_mono (xA hL hm hFn m1 x _ e H c a hc.1 hr ha h) ?_);rintro ex a' w' ⟨x',e',H',c',rfl,hq,rfl,htr,ha',hf⟩;cases x' with
   |normal =>refine wp_mono (xA hL hm hFn m2 y _ e' H' c' a' hc.2 htr.hr ha' hq) ?_;rintro ex a'' w'' ⟨x',e'',QY,c'',rfl,hq,rfl,xH,BJ,hf'⟩;exact⟨x',e'',QY,c'',rfl,hq,rfl,htr.trans xH,BJ,hf.trans hf'⟩
   |exit i=>exact⟨.exit i,e',H',c',rfl,hq,rfl,htr,ha',hf.mono λt ht=>eu _ ht⟩
   |ret=>exact⟨.ret,e',H',c',rfl,hq,rfl,htr,ha',hf.mono λt ht=>eu _ ht⟩
 | .j m1 m2,.seq x y,Q,e,H,c,a,hc,hr,ha,h=>by
   simp only[AB,aK]at hc;simp only[FC]at h;obtain⟨ι,E,HS,hA,hB⟩:=h.ex;refine wp_seq (wp_mono (xA hL hm hFn m1 x _ e H c a hc.1 hr ha hA) ?_);rintro ex a' w' ⟨x',e',H',c',rfl,hq,rfl,htr,ha',hf⟩;cases x' with
   |normal =>obtain⟨i,hn,hwE,hwH⟩:=hq;have hwH:=hwH.to0 htr.hr;have hall:=QV ha'.env htr.hr hwH hwE;have xH:=htr.cut hwH (by rw[hr.nx];exact hn);have ha1:Cc n (c'.cut (HS i)) (E i) a':=⟨λt A hA=>hall t A (Qu hA),ha'.defers,ha'.size⟩;refine wp_mono (xA hL hm hFn m2 y _ (E i) (HS i) (c'.cut (HS i)) a' hc.2 xH.hr ha1 (hB i λt A hm=>Me (hall t A hm))) ?_;rintro ex a'' w'' ⟨x',e'',QY,c'',rfl,hq,rfl,b6D,BJ,hf'⟩;exact⟨x',e'',QY,c'',rfl,hq,rfl,xH.trans b6D,BJ,hf.trans hf'⟩
   |exit i=>exact⟨.exit i,e',H',c',rfl,hq,rfl,htr,ha',hf.mono λt ht=>eu _ ht⟩
   |ret=>exact⟨.ret,e',H',c',rfl,hq,rfl,htr,ha',hf.mono λt ht=>eu _ ht⟩
 | .f js m,code,Q,e,H,c,a,hc,hr,ha,h=>by have h:YL js e H λe' H'=>FC F Ok L m code Q e' H':=(by simpa only[FC]using h);obtain⟨e1,H1,d,hw,htr,ha1,h1⟩:=OU hr ha h;rw[<- hw];refine wp_mono (xA hL hm hFn m code Q e1 H1 d a hc htr.hr ha1 h1) ?_;rintro ex a' w' ⟨x',e',H',c',rfl,hq,rfl,xH,ha',hf'⟩;exact⟨x',e',H',c',rfl,hq,rfl,htr.trans xH,ha',hf'⟩
 | .t m,code,Q,e,H,c,a,hc,hr,ha,h=>by
   have h:b5Z e H λe' H'=>FC F Ok L m code Q e' H':=(by simpa only[FC]using h);cases h with
   |skip h=>exact xA hL hm hFn m code Q e H c a hc hr ha h
   | go t j sz l he ho ne next =>
     have hv:=ha.env t _ he;obtain⟨cp,h1,h2,d,hw,htr,hV⟩:=Tr.thaw hr ho ne hv;have h:=next cp h1 h2
     have ha':=ha.mono htr.le;have:=xA hL hm hFn m code Q _ _ d a hc htr.hr ⟨λt' B hB=>by
      simp only[vk]at hB;cases hb:Nat.beq t t' with
      |true =>rw[hb]at hB;obtain rfl:=aJ hb;obtain rfl:=aW hB;exact sD hV
      |false=>rw[hb]at hB;exact ha'.env _ _ hB,ha.defers,ha.size⟩ h
     rw[hw]at this;refine wp_mono this ?_;rintro ex a'' w'' ⟨x'',e'',QY,c'',rfl,hq,rfl,xH,BJ,hf'⟩;exact⟨x'',e'',QY,c'',rfl,hq,rfl,htr.trans xH,BJ,hf'⟩
 | .c m1 m2,.cond o x y,Q,e,H,c,a,hc,hr,ha,h=>by simp only[AB,aK]at hc;simp only[FC]at h;obtain⟨A,hA,h⟩:=rO ha.env hc.1.1 h;obtain⟨b,hb,h1,h2⟩:=a3s hA h;refine wp_cond_split hb (λhb=>?_) (λhb=>?_);{refine wp_mono (xA hL hm hFn m1 x Q e H c a hc.1.2 hr ha (h1 hb)) ?_;rintro ex a' w' ⟨x',e',H',c',g1,g2,g3,g4,g5,g6⟩;exact⟨x',e',H',c',g1,g2,g3,g4,g5,g6.mono λt ht=>eu _ ht⟩};refine wp_mono (xA hL hm hFn m2 y Q e H c a hc.2 hr ha (h2 hb)) ?_;rintro ex a' w' ⟨x',e',H',c',g1,g2,g3,g4,g5,g6⟩;exact⟨x',e',H',c',g1,g2,g3,g4,g5,g6.mono λt ht=>jW _ ht⟩
 | .b m,.block i b,Q,e,H,c,a,hc,hr,ha,h=>by
   simp only[FC]at h;refine wp_block (wp_mono (xA hL hm hFn m b _ e H c a hc hr ha h) ?_);rintro ex a' w' ⟨x',e',H',c',rfl,hq,g3,g4,g5,g6⟩;cases x' with
   |normal=>exact⟨.normal,e',H',c',rfl,hq,g3,g4,g5,g6⟩
   | exit j =>
     simp only[AX.toE,Exit.inBlock];cases hb:Nat.beq j i with
     |true =>have hq:(match Nat.beq j i with|true=>Q .normal e' H'|false=>Q (.exit j) e' H'):=hq;rw[hb]at hq;rw[aG (aJ hb)];exact⟨.normal,e',H',c',rfl,hq,g3,g4,g5,g6⟩
     |false =>have hq:(match Nat.beq j i with|true=>Q .normal e' H'|false=>Q (.exit j) e' H'):=hq;rw[hb]at hq;rw[aB (xw hb)];exact⟨.exit j,e',H',c',rfl,hq,g3,g4,g5,g6⟩
   |ret=>exact⟨.ret,e',H',c',rfl,hq,g3,g4,g5,g6⟩
 | .b m,.loop b,Q,e,H,c,a,hc,hr,ha,h=>WL (λQ e H c a=>xA hL hm hFn m b Q e H c a hc) hr ha (by simpa only[FC]using h)
theorem Uz.b0Y (m:Mk) (hL:uz P L) (hm:P.follows .mixedOrders=true) {f:Nat} {fn:Func} {code:Code} (hf:P.funcs[f]? = some fn) (hn:(fn.name== "runtime.NumGoroutine")=false) (hb:fn.body=some code)
  (hc:AB fn.ntmps code=true) {args:List AV} {H:Heap} {Q:AV->Heap->Prop} (ha:Nat.ble args.length fn.ntmps=true)
  (h:KH args->b1m 0 args λe=>FC (FP P) Ok L m code (b7g L fn.results.toList H Q) e H):Uz P f args H Q :=
 Uz.a6j (B:=FC (FP P) Ok L m code) (λQ' e H' c a hr ha h=>xA hL hm (b33 P) m code Q' e H' c a hc hr ha h) hL hf hn hb (λ_ _ _ h=>h) ha h
end
end Go.AL
namespace Go.AL
end Go.AL
namespace Go.AL
end Go.AL
namespace Go.AL
open Go.ChangeMaps (setBlock)
theorem Tr.b74{c0 c:Cx}{H0 H:Heap}(T:Tr c0 H0 c H){r:Nat}(hf:Free c H r)(h0:c0.w.heap.size<=r){w1:World}(hw:w1=c.w\/w1=c.w.drew)(o':Obj) :
  Tr c0 H0 { c with w:=setBlock w1 r o' } H/\c.Le { c with w:=setBlock w1 r o' }:=by
 have hheap:w1.heap=c.w.heap:=(by rcases hw with rfl|rfl <;> rfl);have hos:w1.os=c.w.os/\w1.tape=c.w.tape/\w1.output=c.w.output:=(by rcases hw with rfl|rfl <;> exact⟨rfl,rfl,rfl⟩);have hsize:(setBlock w1 r o').heap.size=c.w.heap.size:=(by simp[setBlock,hheap]);have hother:∀b,b≠r->(setBlock w1 r o').heap[b]? = c.w.heap[b]?:=λb hb=>(by simp only[setBlock,hheap];rw[iO (λe=>hb e.symm)]);have le:c.Le { c with w:=setBlock w1 r o' }:=⟨λb x h=>⟨h,wX (hother b λe=>hf.im x (e ▸ h))⟩,aT _,λ_ _=>rfl,λ_ _ _ h=>.inl ⟨h,rfl⟩⟩;have hr:=T.hr;refine⟨⟨⟨hr.nx,hr.tp,hr.ids,λb o h=>?_,λx hx=>?_,hr.apart⟩,T.le.trans le,hos.1.trans T.os,hos.2.1.trans T.tape,hos.2.2.trans T.output,?_,λb hb hn=>?_,T.own,T.imb⟩,le⟩;{show b<(setBlock w1 r o').heap.size;rw[hsize];exact hr.im b o h};{exact DZ le (by rw[hr.nx];exact sK hr.ids x hx) rfl (λb hb=>⟨hother b λe=>hf.own x hx (e ▸ hb),λ_ h=>h⟩) (hr.ok x hx)};{show _<=(setBlock w1 r o').heap.size;rw[hsize];exact T.size};exact(hother b aj).trans (T.fr b hb hn)
theorem a3D{c:Cx}{e:MapEntry}:∀{l:List (AV×AV)} {es:List MapEntry},Py c l es->e∈es->(es.map (·.born)).Nodup ->
  ∃k v l',l.Perm ((k,v)::l')/\VV c k e.key/\VV c v e.val/\Py c l' (es.filter λx=>x.born != e.born)
 | [],es,h,he,_=>by obtain rfl:=h;cases he
 |(k,v)::l,es,h,he,hn=>by obtain⟨e1,r,rfl,h1,h2,h3⟩:=h;rw[dF,lJ]at hn;rcases aU.1 he with rfl|he;{refine⟨k,v,l,.refl _,h1,h2,?_⟩;rw[kG,aB ak];rw[List.filter_eq_self.2];{exact h3};intro x hx;have:x.born≠e.born:=λhb=>hn.1 (bg.2 ⟨x,hx,hb⟩);simpa using this};obtain⟨k',v',l',g1,g2,g3,g4⟩:=a3D h3 he hn.2;refine⟨k',v',(k,v)::l',(g1.cons _).trans (.swap _ _ _),g2,g3,?_⟩;have hne:e1.born≠e.born:=λhb=>hn.1 (bg.2 ⟨e,he,hb.symm⟩);rw[kG,aG (by simpa using hne)];exact⟨e1,_,rfl,h1,h2,g4⟩
theorem a6b(es:Array MapEntry)(seen:Array Nat)(b:Nat):(leftOf es (seen.push b)).toList=(leftOf es seen).toList.filter λx=>x.born != b:=by unfold leftOf;rw[kK,kK,List.filter_filter];congr 1;funext x;by_cases hx:x.born=b <;> simp[hx]
theorem a4d(es:Array MapEntry):(leftOf es #[]).toList=es.toList:=by unfold leftOf;rw[kK,List.filter_eq_self.2];intro x _;simp
structure RgD where
 i1:Nat
 i2:Nat
 i3:Nat
 bk:Nat
 bk2:Nat
 mv:Oper
 rg:Oper
 nx:Oper
 ex:Oper
 en:Oper
 tk:Nat
 ops:List Oper
 rest:Code
def rgA(d:RgD):Code:=.region d.i1 #[d.mv,d.rg] false
def VY(d:RgD):Code:=.seq (.region d.i2 #[d.nx,d.ex] false) (.seq (.cond (.tmp d.tk) .skip (.exit d.bk)) (.block d.bk2 (.seq (.region d.i3 (d.en::d.ops).toArray false) d.rest)))
def rgB(d:RgD):Code:=.block d.bk (.loop (VY d))
structure RgT where
 ms:Nat
 mt:Nat
 it:Nat
 tn:Nat
 te:Nat
structure RgOk(P:Program)(n:Nat)(d:RgD)(t:RgT):Prop where
 mv:d.mv.op=.move (.tmp t.ms)/\d.mv.dst=some t.mt/\d.mv.guard=none
 rg:(∃ty,d.rg.op=.range ty (.tmp t.mt)/\∃k e,P.underlying ty=some (.map k e))/\d.rg.dst=some t.it/\d.rg.guard=none
 nx:d.nx.op=.next (.tmp t.it) false/\d.nx.dst=some t.tn/\d.nx.guard=none
 ex:d.ex.op=.extract (.tmp t.tn) 0/\d.ex.dst=some d.tk/\d.ex.guard=none
 en:d.en.op=.entry (.tmp t.it)/\d.en.dst=some t.te/\d.en.guard=none
 lt:Nat.blt t.mt n=true/\Nat.blt t.it n=true/\Nat.blt t.tn n=true/\Nat.blt d.tk n=true/\Nat.blt t.te n=true
 ne:(t.tn::d.tk::t.te::(rX d.ops++writes d.rest)).contains t.it=false
 ops:d.ops.all (GU n)=true/\AB n d.rest=true
structure b1v(P:Program)(F:FT)(L:Lay)(n:Nat)(d:RgD)(K:Env->Heap->Prop)(e:Env)(H:Heap):Prop where
 ex:∃(t:RgT) (m:Nat) (sh:AV) (es:List (AV×AV)) (ι:Type) (lf:ι->List (AV×AV)) (E:ι->Env) (HS:ι->Heap),
  RgOk P n d t/\vk e t.ms=some (.mp m)/\hget H m=some (.tY sh es) /\
  (∃i,lf i=es/\nextId H<=nextId (HS i)/\WkE ((t.it,.und)::(t.mt,.und)::e) (nextId (HS i)) (E i)/\HWk (hset H m .gone) (HS i)) /\
  (∀i,hget (HS i) m=some .gone) /\
  (∀i,(∀s A,(s,A)∈E i->Ok A)->lf i=[]->K ((d.tk,.ff)::(t.tn,.und)::E i) (hset (HS i) m (.tY sh es))) /\
  (∀i k v rest,(∀s A,(s,A)∈E i->Ok A)->(lf i).Perm ((k,v)::rest) ->
   Hy F Ok L (d.en::d.ops) d.ops ((t.te,.uy [k,v])::(d.tk,.tt)::(t.tn,.und)::E i) (HS i) λe' H'=>Ux F Ok L d.rest (λx e' H'=>match x with
    | .normal=>∃i',(lf i').Perm rest/\nextId (HS i)<=nextId (HS i')/\WkE e' (nextId (HS i')) (E i')/\HWk H' (HS i')
    |_=>False) e' H')
structure Yy(c:Cx)(H:Heap)(b:Nat):Prop where
 lt:b<c.w.heap.size
 own:∀x∈H,ru c x≠some b
theorem Yy.tr{c d:Cx}{H H':Heap}{b:Nat}(h:Yy c H b)(t:Tr c H d H'):Yy d H' b/\d.w.heap[b]? = c.w.heap[b]?:=by have h1:=h.lt;refine⟨⟨by have:=t.size;omega,λy hy hb=>?_⟩,t.fr b h1 h.own⟩;rcases t.own y hy b hb with h2|⟨x,h2,h3⟩;{omega};exact h.own x h2 h3
theorem Tr.back{c c':Cx}{H G:Heap}{m:Nat}{sh:AV}{es:List (AV×AV)}{ents:Array MapEntry}{clock:Nat}(hr:HR c H)(hm:hget H m=some (.tY sh es))(T:Tr c (hset H m .gone) c' G)(hg:hget G m=some .gone)
  (hb:c'.w.heap[c.ρ m]? = some (.map ents clock)) (hv:Py c es ents.toList) (hk:KSh sh es) (h4:(∀e∈ents.toList,e.born<clock)/\(ents.toList.map (·.born)).Nodup) (h5:ents.toList.Pairwise λa b=>a.key≠b.key)
  (hf:Yy c' G (c.ρ m)):Tr c H c' (hset G m (.tY sh es)):=by
 have hρ:c'.ρ m=c.ρ m:=T.le.ρ m (hr.lt hm);have hmem:∀x∈hset H m .gone,∀b,ru c x=some b->x∈H:=λx hx b hb=>(by rcases wH hr.ids hx with rfl|h;{cases hb};exact h.1);have hG:=T.hr;refine⟨⟨?_,?_,CU hG.ids,hG.im,λx hx=>?_,?_⟩,T.le,T.os,T.tape,T.output,T.size,λb hb hn=>T.fr b hb λx hx hbx=>hn x (hmem x hx b hbx) hbx,λy hy b hb=>?_,λb o h=>(T.imb b o h).imp id (Or.imp id fun⟨x,h1,h2⟩=>⟨x,hmem x h1 b h2,h2⟩)⟩;{rw[Ia];exact hG.nx};{rw[xu hg (by intros;simp) (by intros;simp)];exact hG.tp};{rcases wH hG.ids hx with rfl|h;{exact⟨ents,clock,by rw[hρ];exact hb,Hq T.le hv,hk,h4,h5⟩};exact hG.ok x h.1};{refine wJ (CU hG.ids) λx hx y hy hne b hb hb'=>?_;rcases wH hG.ids hx with rfl|h1 <;> rcases wH hG.ids hy with rfl|h2;{exact hne rfl};{have:b=c.ρ m:=(by rw[<- hρ];exact(aW hb).symm);exact hf.own y h2.1 (this ▸ hb')};{have:b=c.ρ m:=(by rw[<- hρ];exact(aW hb').symm);exact hf.own x h1.1 (this ▸ hb)};exact hG.apart' h1.1 h2.1 hne hb hb'};rcases wH hG.ids hy with rfl|h;{refine .inr ⟨_,wV hm,?_⟩;rw[show ru c (m,HO.tY sh es)=some (c.ρ m)from rfl,<- hρ];exact hb};rcases T.own y h.1 b hb with h1|⟨x,h1,h2⟩;{exact .inl h1};exact .inr ⟨x,hmem x h1 b h2,h2⟩
theorem Fr.step{W ws:List Nat}{a b d:Act}(h:Fr W a b)(g:Fr ws b d)(hs:∀t∈ws,t∈W):Fr W a d:=λt ht=>(g t λh'=>ht (hs t h')).trans (h t ht)
section
variable{P:Program}{L:Lay}{F:FT}
theorem KQ{o:Oper}{a:Act}{w w':World}{v:Value}{l ops:_}{Q:Exit->Act->World->Prop}(hg:o.guard=none)(hrun:(execOp a.eval o).run P w=.ok (.value v) w')(h:wpList P ops Q l (a.put o.dst v) w'):wpList P ops Q (o::l) a w:=by refine wpList_plain hg λK hK=>?_;unfold Oper.wp;rw[hrun,Oper.upon_value];exact hK _ _ h
theorem MN{a:Act}{t n:Nat}{v:Value}(hs:a.tmps.size=n)(ht:Nat.blt t n=true):(a.put (some t) v).tmps.getD t undef=v:=by have:=bF ht;simp only[Act.put];rw[dH,iV aj];rfl
theorem a5A{a:Act}{t s:Nat}{v:Value}(h:s≠t):(a.put (some t) v).tmps.getD s undef=a.tmps.getD s undef:=by simp only[Act.put];exact getD_set_ne (λe=>h e.symm)
theorem a08(hL:uz P L)(hm:P.follows .mixedOrders=true)(hFn:FS P F){n:Nat}{d:RgD}{K:Env->Heap->Prop}{e:Env}{H:Heap}{c:Cx}{a:Act}(hr:HR c H)(ha:Cc n c e a)(h:b1v P F L n d K e H)
  {z:Code} {Qp:Exit->Act->World->Prop} (hz:∀e' H' c' a',K e' H'->Tr c H c' H'->Cc n c' e' a'->Fr (writes (rgA d)++writes (rgB d)) a a'->z.wp P Qp a' c'.w) :
  (Code.seq (.seq (rgA d) (rgB d)) z).wp P Qp a c.w:=by
 obtain⟨t,m,sh,es,ι,lf,E,HS,ok,hms,hm0,⟨i0,hi0,hn0,hE0,hH0⟩,Xa,hdone,hstep⟩:=h.ex;obtain⟨_,e1⟩:=b35 (ha.env t.ms _ hms);obtain⟨ents,clock,g1,g2,g3,g4,g5⟩:=hr.EM hm0;obtain⟨l1,l2,l3,l4,l5⟩:=ok.lt;have hW:∀s,s∈[t.mt,t.it,t.tn,d.tk,t.te]++(rX d.ops++writes d.rest)->s∈writes (rgA d)++writes (rgB d):=(by intro s hs;simp only[rgA,rgB,VY,writes,rX,ok.mv.2.1,ok.rg.2.1,ok.nx.2.1,ok.ex.2.1,ok.en.2.1,dM,aU,List.not_mem_nil,or_false]at hs ⊢;rcases hs with(h|h|h|h|h)|h|h <;> simp[h]);generalize hWd:writes (rgA d)++writes (rgB d)=W at hW hz;have hbm:c.ρ m<c.w.heap.size:=(dG.1 g1).1;generalize b6S:c.ρ m=bm at *
 -- the map is nobody's
 have T0:Tr c H c (hset H m .gone):=(by refine Tr.set hr hm0 (.refl c) rfl (by rw[xu hm0 (by intros;simp) (by intros;simp)];exact hr.tp) (λ_ _=>rfl) rfl rfl rfl (aT _) (λ_ _ _=>rfl) (λb x h=>.inl h) (λb h=>by cases h) trivial);have hF0:Yy c (hset H m .gone) bm:=⟨hbm,λx hx hb=>by
  rcases wH hr.ids hx with rfl|⟨h1,h2⟩;{cases hb};refine hr.apart' (wV hm0) h1 (λe=>h2 e.symm) (b:=bm) ?_ hb;show some (c.ρ m)=some bm;rw[b6S]⟩
 obtain⟨S1,S2⟩:=Tr.spare T0.hr (.mapIter (some bm) clock #[] clock);have hrr:(c.w.alloc (.mapIter (some bm) clock #[] clock)).heap[c.w.heap.size]? = some (.mapIter (some bm) clock #[] clock):=alloc_heap_new _ _;have hw0:=hH0.to0 S1.hr;have b7J:c.nx<=nextId (HS i0):=(by rw[hr.nx];exact hn0);have T1:Tr c (hset H m .gone) (({ c with w:=c.w.alloc (.mapIter (some bm) clock #[] clock) }:Cx).cut (HS i0)) (HS i0):=S1.cut hw0 b7J;have T1':Tr { c with w:=c.w.alloc (.mapIter (some bm) clock #[] clock) } (hset H m .gone) (({ c with w:=c.w.alloc (.mapIter (some bm) clock #[] clock) }:Cx).cut (HS i0)) (HS i0):=(Tr.refl S1.hr).cut hw0 b7J;obtain⟨S3,_⟩:=S2.tr T1';obtain⟨B1,B2⟩:=hF0.tr T1;have ha1:Cc n { c with w:=c.w.alloc (.mapIter (some bm) clock #[] clock) } ((t.it,.und)::(t.mt,.und)::e) ((a.put (some t.mt) (.map (some bm))).put (some t.it) (.pointer (some ⟨c.w.heap.size,0,none⟩))) :=
  ((ha.mono S1.le).put (bF l1) (A:=.und) trivial).put (bF l2) (A:=.und) trivial
 have hall0:=QV ha1.env S1.hr hw0 hE0;generalize hc1:(({ c with w:=c.w.alloc (.mapIter (some bm) clock #[] clock) }:Cx).cut (HS i0))=c1 at *;have hw1:c1.w=c.w.alloc (.mapIter (some bm) clock #[] clock):=(by rw[<- hc1];rfl);generalize b5a:((a.put (some t.mt) (.map (some bm))).put (some t.it) (.pointer (some ⟨c.w.heap.size,0,none⟩)))=a1 at *;have hF1:Fr W a a1:=(by rw[<- b5a];exact((Fr.refl W a).step (Fr.put) (λs hs=>hW s (by simp at hs;simp[hs]))).step Fr.put (λs hs=>hW s (by simp at hs;simp[hs])));have b8l:a1.tmps.getD t.it undef=.pointer (some ⟨c.w.heap.size,0,none⟩):=by rw[<- b5a];exact MN (n:=n) (by simp[Act.put,ha.size]) l2
 -- the loop
 let Inv:Nat->Act->World->Prop:=λk a' w'=>∃i c' seen l,c'.w=w'/\Tr c (hset H m .gone) c' (HS i)/\(∀s A,(s,A)∈E i->EV c' A (a'.tmps.getD s undef))/\a'.defers=[]/\a'.tmps.size=n/\Fr W a a'/\(lf i).length=k /\
  a'.tmps.getD t.it undef=.pointer (some ⟨c.w.heap.size,0,none⟩)/\w'.heap[c.w.heap.size]? = some (.mapIter (some bm) clock seen clock)/\Free c' (HS i) c.w.heap.size/\Yy c' (HS i) bm/\w'.heap[bm]? = some (.map ents clock) /\
  (lf i).Perm l/\Py c' l (leftOf ents seen).toList
 let PB:Exit->Act->World->Prop:=λex a' w'=>ex=.exit d.bk/\∃e' H' c',K e' H'/\c'.w=w'/\Tr c H c' H'/\Cc n c' e' a'/\Fr W a a';have round:∀k a' w',Inv k a' w'->(VY d).wp P (Exit.then (λa'' w''=>∃k',k'<k/\Inv k' a'' w'') PB) a' w':=by
  rintro k a' w' ⟨i,c',seen,l,rfl,T,hall,hdf,hsz,hFr,hk,hit,b8b,hfr,hfb,hbb,hp,hv⟩;have b7I:∀s A,(s,A)∈E i->Ok A:=λs A hm=>Me (hall s A hm);have ha':Cc n c' (E i) a':=⟨λs A h=>hall s A (Qu h),hdf,hsz⟩;unfold VY;refine wp_seq (wp_region_list ?_);show wpList P _ _ [d.nx,d.ex] a' c'.w;rcases run_next_at (P:=P) c'.w d.nx.type c.w.heap.size bm clock clock seen ents clock b8b hbb (λx hx=>g4.1 x hx) (aT _)with⟨hz0,hrun⟩|⟨e0,he0,w1,hw1,hrun⟩;{have hrun1:(execOp a'.eval d.nx).run P c'.w=.ok (.value (.tuple #[.bool false])) c'.w:=(by have hev:a'.eval (.tmp t.it)=.pointer (some ⟨c.w.heap.size,0,none⟩):=hit;unfold execOp;rw[ok.nx.1];simp only[hev,Sem.run_bind,hrun,Result.andThen_ok,Sem.run_pure]);refine KQ ok.nx.2.2 hrun1 ?_;rw[ok.nx.2.1];have ha2:Cc n c' ((t.tn,.und)::E i) (a'.put (some t.tn) (.tuple #[.bool false])):=ha'.put (bF l3) (A:=.und) trivial;have htn:(a'.put (some t.tn) (.tuple #[.bool false])).eval (.tmp t.tn)=.tuple #[.bool false]:=MN hsz l3;have hF2:=hFr.step (d:=a'.put (some t.tn) (.tuple #[.bool false])) Fr.put (λs hs=>hW s (by simp at hs;simp[hs]));generalize a'.put (some t.tn) (.tuple #[.bool false])=a2 at *;have hrun2:(execOp a2.eval d.ex).run P c'.w=.ok (.value (.bool false)) c'.w:=(by unfold execOp;rw[ok.ex.1];simp only[htn,Instr.extract,Sem.run_bind,Sem.run_pure];rfl);refine KQ ok.ex.2.2 hrun2 ?_;rw[ok.ex.2.1];have ha3:Cc n c' ((d.tk,.ff)::(t.tn,.und)::E i) (a2.put (some d.tk) (.bool false)):=ha2.put (bF l4) (sD (vG rfl rfl (by simp only[VR,Rd])));have htk:(a2.put (some d.tk) (.bool false)).eval (.tmp d.tk)=.bool false:=MN ha2.size l4;have hF3:=hF2.step (d:=a2.put (some d.tk) (.bool false)) Fr.put (λs hs=>hW s (by simp at hs;simp[hs]));refine wp_seq (wp_cond_split htk (λh=>by cases h) λ_=>wp_exit ?_);have hl0:lf i=[]:=(by have h1:(leftOf ents seen).toList=[]:=jJ.1 (by rw[bJ];exact hz0);have h2:=a1W hv;rw[h1]at h2;have h3:l=[]:=jJ.1 h2.symm;rw[h3]at hp;exact hp.eq_nil);exact⟨rfl,_,_,c',hdone i b7I hl0,rfl,Tr.back hr hm0 T (Xa i) (by rw[b6S];exact hbb) g2 g3 g4 g5 (by rw[b6S];exact hfb),ha3,hF3⟩};obtain⟨T2,le2⟩:=T.b74 hfr (aT _) hw1 (.mapIter (some bm) clock (seen.push e0.born) clock);have hheap:w1.heap=c'.w.heap:=(by rcases hw1 with rfl|rfl <;> rfl);have hrun1:(execOp a'.eval d.nx).run P c'.w=.ok (.value (.tuple #[.bool true,e0.key,e0.val])) (setBlock w1 c.w.heap.size (.mapIter (some bm) clock (seen.push e0.born) clock)):=(by have hev:a'.eval (.tmp t.it)=.pointer (some ⟨c.w.heap.size,0,none⟩):=hit;unfold execOp;rw[ok.nx.1];simp only[hev,Sem.run_bind,hrun,Result.andThen_ok,Sem.run_pure]);have hr2:(setBlock w1 c.w.heap.size (.mapIter (some bm) clock (seen.push e0.born) clock)).heap[c.w.heap.size]? = some (.mapIter (some bm) clock (seen.push e0.born) clock):=(by simp only[setBlock,hheap];rw[iV hfr.lt]);have hb2:(setBlock w1 c.w.heap.size (.mapIter (some bm) clock (seen.push e0.born) clock)).heap[bm]? = some (.map ents clock):=(by simp only[setBlock,hheap];rw[iO aj];exact hbb);have hsz2:(setBlock w1 c.w.heap.size (.mapIter (some bm) clock (seen.push e0.born) clock)).heap.size=c'.w.heap.size:=(by simp[setBlock,hheap]);generalize setBlock w1 c.w.heap.size (.mapIter (some bm) clock (seen.push e0.born) clock)=w2 at *;generalize hc2:({ c' with w:=w2 }:Cx)=c2 at *;have hcw:c2.w=w2:=(by rw[<- hc2]);have hfr2:Free c2 (HS i) c.w.heap.size:=(by rw[<- hc2];exact⟨by show _<w2.heap.size;rw[hsz2];exact hfr.lt,hfr.own,hfr.im⟩);have b8o:Yy c2 (HS i) bm:=(by rw[<- hc2];exact⟨by show _<w2.heap.size;rw[hsz2];exact hfb.lt,hfb.own⟩);rw[<- hcw]at hrun1 hr2 hb2;have he1:e0∈ents.toList:=(by unfold leftOf at he0;rw[kK]at he0;exact(dZ.1 he0).1);have hnd:((leftOf ents seen).toList.map (·.born)).Nodup:=(by unfold leftOf;rw[kK];exact g4.2.sublist (List.filter_sublist.map _));obtain⟨k1,v1,l',hperm,hk1,hv1,hv'⟩:=a3D hv he0 hnd;rw[<- a6b]at hv';refine KQ ok.nx.2.2 hrun1 ?_;rw[ok.nx.2.1];have ha2:Cc n c2 ((t.tn,.und)::E i) (a'.put (some t.tn) (.tuple #[.bool true,e0.key,e0.val])):=(ha'.mono le2).put (bF l3) (A:=.und) trivial;have htn:(a'.put (some t.tn) (.tuple #[.bool true,e0.key,e0.val])).eval (.tmp t.tn)=.tuple #[.bool true,e0.key,e0.val]:=MN hsz l3;have hF2:=hFr.step (d:=a'.put (some t.tn) (.tuple #[.bool true,e0.key,e0.val])) Fr.put (λs hs=>hW s (by simp at hs;simp[hs]));have hne:=ok.ne;simp only[List.contains_cons,Bool.or_eq_false_iff,beq_eq_false_iff_ne]at hne;obtain⟨n1,n2,n3,n4⟩:=hne;have hit2:(a'.put (some t.tn) (.tuple #[.bool true,e0.key,e0.val])).tmps.getD t.it undef=.pointer (some ⟨c.w.heap.size,0,none⟩):=(a5A n1).trans hit;generalize a'.put (some t.tn) (.tuple #[.bool true,e0.key,e0.val])=a2 at *;have hrun2:(execOp a2.eval d.ex).run P c2.w=.ok (.value (.bool true)) c2.w:=(by unfold execOp;rw[ok.ex.1];simp only[htn,Instr.extract,Sem.run_bind,Sem.run_pure];rfl);refine KQ ok.ex.2.2 hrun2 ?_;rw[ok.ex.2.1];have ha3:Cc n c2 ((d.tk,.tt)::(t.tn,.und)::E i) (a2.put (some d.tk) (.bool true)):=ha2.put (bF l4) (sD (vG rfl rfl (by simp only[VR,Rd])));have htk:(a2.put (some d.tk) (.bool true)).eval (.tmp d.tk)=.bool true:=MN ha2.size l4;have hF3:=hF2.step (d:=a2.put (some d.tk) (.bool true)) Fr.put (λs hs=>hW s (by simp at hs;simp[hs]));have hit3:(a2.put (some d.tk) (.bool true)).tmps.getD t.it undef=.pointer (some ⟨c.w.heap.size,0,none⟩):=(a5A n2).trans hit2;generalize a2.put (some d.tk) (.bool true)=a3 at *;refine wp_seq (wp_cond_split htk (λ_=>wp_skip ?_) (λh=>by cases h));refine wp_block (wp_seq (wp_region_list ?_));have hrun3:(execOp a3.eval d.en).run P c2.w=.ok (.value (.tuple #[e0.key,e0.val])) c2.w:=(by have hev:a3.eval (.tmp t.it)=.pointer (some ⟨c.w.heap.size,0,none⟩):=hit3;unfold execOp;rw[ok.en.1];simp only[hev,Sem.run_bind,run_entry_at c2.w c.w.heap.size bm clock seen ents clock e0 hr2 hb2 he1 g4.2,Result.andThen_ok,Sem.run_pure]);show wpList P (d.en::d.ops).toArray _ (d.en::d.ops) a3 c2.w;refine KQ ok.en.2.2 hrun3 ?_;rw[ok.en.2.1];have hek:EV c2 (.uy [k1,v1]) (.tuple #[e0.key,e0.val]):=(by refine⟨#[e0.key,e0.val],rfl,?_⟩;have q1:=Cm le2 hk1;have q2:=Cm le2 hv1;simp only[VA];exact⟨_,_,rfl,q1.1,q1.2,_,_,rfl,q2.1,q2.2,rfl⟩);have ha4:Cc n c2 ((t.te,.uy [k1,v1])::(d.tk,.tt)::(t.tn,.und)::E i) (a3.put (some t.te) (.tuple #[e0.key,e0.val])):=ha3.put (bF l5) hek;have hF4:=hF3.step (d:=a3.put (some t.te) (.tuple #[e0.key,e0.val])) Fr.put (λs hs=>hW s (by simp at hs;simp[hs]));have b8k:(a3.put (some t.te) (.tuple #[e0.key,e0.val])).tmps.getD t.it undef=.pointer (some ⟨c.w.heap.size,0,none⟩):=(a5A n3).trans hit3;generalize a3.put (some t.te) (.tuple #[e0.key,e0.val])=a4 at *;refine Hg hL hFn ok.ops.1 T2.hr ha4 (hstep i k1 v1 l' b7I (hp.trans hperm)) λe' H' c3 a5 q1 q2 q3 q4=>?_;refine wp_mono (Au hL hm hFn d.rest _ e' H' c3 a5 ok.ops.2 q2.hr q3 q1) ?_;rintro ex a6 w6 ⟨x,e6,H6,c6,rfl,hq,rfl,b78,ha6,hf6⟩;cases x with
  |exit j=>exact hq.elim
  |ret=>exact hq.elim
  | normal =>
    obtain⟨i',hp',hn',hE',hH'⟩:=hq;have Tb:=q2.trans b78;have hw6:=hH'.to0 Tb.hr;have b8e:c2.nx<=nextId (HS i'):=(by rw[T2.hr.nx];exact hn');have T6:Tr c2 (HS i) (c6.cut (HS i')) (HS i'):=Tb.cut hw6 b8e;have T7:=T2.trans T6;obtain⟨f1,f2⟩:=hfr2.tr T6;obtain⟨f3,f4⟩:=b8o.tr T6;have hall7:=QV ha6.env Tb.hr hw6 hE';have nm:t.it ∉ rX d.ops++writes d.rest:=λhm=>by have:(rX d.ops++writes d.rest).contains t.it=true:=(by simpa using hm);rw[n4]at this;cases this
    rw[dM,not_or]at nm;refine⟨l'.length,?_,i',c6.cut (HS i'),seen.push e0.born,l',rfl,T7,hall7,ha6.defers,ha6.size,?_,hp'.length_eq,?_,f2.trans hr2,f1,f3,f4.trans hb2,hp',Hq (le2.trans T6.le) hv'⟩;{rw[<- hk,(hp.trans hperm).length_eq];exact oh _};{exact(hF4.step q4 λs hs=>hW s (jW _ (eu _ hs))).step hf6 λs hs=>hW s (jW _ (jW _ hs))};rw[hf6 _ nm.2,q4 _ nm.1];exact b8k
 have hloop:=(xR.ghost Inv round (lf i0).length a1 c1.w ⟨i0,c1,#[],es,rfl,T1,hall0,by rw[<- b5a];exact ha.defers,by rw[<- b5a];simp[Act.put,ha.size],hF1,rfl,b8l,by rw[hw1];exact hrr,S3,B1,B2.trans g1,by rw[hi0],by rw[a4d];exact Hq T1.le g2⟩).wp;rw[hw1]at hloop;refine wp_seq (wp_seq (wp_region_list ?_));show wpList P _ _ [d.mv,d.rg] a c.w;have hrunA:(execOp a.eval d.mv).run P c.w=.ok (.value (.map (some bm))) c.w:=(by have hev:a.eval (.tmp t.ms)=.map (some bm):=e1;unfold execOp;rw[ok.mv.1];simp only[hev,Sem.run_pure]);refine KQ ok.mv.2.2 hrunA ?_;rw[ok.mv.2.1];obtain⟨ty,b8c,k,el,hty⟩:=ok.rg.1;have b6J:(execOp (a.put (some t.mt) (.map (some bm))).eval d.rg).run P c.w=.ok (.value (.pointer (some ⟨c.w.heap.size,0,none⟩))) (c.w.alloc (.mapIter (some bm) clock #[] clock)):=(by have hev:(a.put (some t.mt) (.map (some bm))).eval (.tmp t.mt)=.map (some bm):=MN ha.size l1;unfold execOp;rw[b8c];simp only[hev,Instr.range,Sem.run_bind,run_underlying hty,Result.andThen_ok,jB g1,Sem.run_pure,run_newObj,World.alloc_eq]);refine KQ ok.rg.2.2 b6J ?_;rw[ok.rg.2.1,b5a];refine wp_block (wp_mono hloop ?_);rintro ex a' w' ⟨rfl,e',H',c',hK,rfl,T',ha',hF'⟩;simp only[Exit.inBlock];rw[aG trivial];exact hz e' H' c' a' hK T' ha' hF'
theorem a0L{c:Cx}{H:Heap}{j:Nat}{A B0:AV}{p:List Nat}(hr:HR c H)(ho:hget H j=some (.box A))(hp:OT A p=some B0)(hag:uG B0=false) :
  ∃v,VV c B0 v/\∀(d:Cx) (H1:Heap) (B' A':AV),Tr c H d H1->d.w=c.w->hget H1 j=some (.box A)->VV d B' v->uG B'=false->I8 A p B' (λx=>x=A')->Tr d H1 d (hset H1 j (.box A')):=by
 obtain⟨cs,ty,h1,h2,h3⟩:=hr.EM ho;obtain⟨pre,xs,post,rfl,h4,h5⟩:=Nz h2 hp;obtain⟨v,rfl,_⟩:=Aq h5 hag;refine⟨v,Gh h5 hag,λd H1 B' A' htr hw ho' hV hag' hs=>?_⟩;have hρ:d.ρ j=c.ρ j:=htr.le.ρ j (hr.lt ho);obtain⟨_,_,_,_,q3⟩:=htr.hr.EM ho';obtain⟨A'',x1,pre',xs',post',g1,g2,g3,g4,g5,g6⟩:=Dj (SX hV hag') (DX htr.le _ _ h2) hs;obtain rfl:B0=x1:=(by rw[hp]at g1;exact aW g1);obtain⟨u,rfl⟩:∃u,xs'=[u]:=(by obtain⟨u,rfl,_⟩:=Aq g4 hag;exact⟨u,rfl⟩);have hpl:pre.length=pre'.length:=(by rw[h4,g3]);have hcs:pre'++[v]++post'=pre++[v]++post:=(by rw[bK,bK]at g2;obtain⟨r1,r2⟩:=jT g2 hpl;obtain⟨r3,r4⟩:=jT r2 rfl;rw[r1,r4]);rw[hcs,g6]at g5;refine Tr.set htr.hr ho' (Cx.Le.refl _) rfl (by rw[xu ho' (by intros;simp) (by intros;simp)];exact htr.hr.tp) (λ_ _=>rfl) rfl rfl rfl (aT _) (λ_ _ _=>rfl) (λ_ _ h=>.inl h) ?_ ?_;{intro b hb;exact .inr hb};exact⟨_,ty,by rw[hw,hρ];exact h1,g5,q3⟩
inductive a3J(e:Env)(H:Heap)(K:Env->Heap->Prop):Prop where
 | grow (j:Nat) (p:List Nat) (sz:Nat) (A A':AV) (ho:hget H j=some (.box A)) (hp:OT A p=some .qV) (hs:I8 A p (.gs (nextId H) 0) (λx=>x=A'))
   (next:K e (hset ((nextId H,.uH sz [])::H) j (.box A')))
 | YN (j:Nat) (p:List Nat) (k sz:Nat) (l:List AV) (A A':AV) (ho:hget H j=some (.box A)) (hp:OT A p=some (.gs k l.length)) (hk:hget H k=some (.uH sz l)) (hl:l.length<=maxL) (hs:I8 A p (.sl sz l .no) (λx=>x=A'))
   (next:K e (hset (hset H k .gone) j (.box A')))
theorem a3J.sound{n:Nat}{c:Cx}{e:Env}{H:Heap}{a:Act}{K:Env->Heap->Prop}(hr:HR c H)(ha:Cc n c e a)(h:a3J e H K):∃d H',d.w=c.w/\Tr c H d H'/\Cc n d e a/\K e H':=by
 cases h with
 | grow j p sz A A' ho hp hs next =>
   obtain⟨v,hv,hf⟩:=a0L hr ho hp rfl;obtain rfl:=DW hv;obtain⟨d,hw,htr,hV⟩:=Tr.a4K sz hr;have hjl:j<nextId H:=sK hr.ids _ (wV ho);have ho':hget ((nextId H,.uH sz [])::H) j=some (.box A):=by
    have:Nat.beq (nextId H) j=false:=by
     cases hb:Nat.beq (nextId H) j with
     |false=>rfl
     |true=>have:=aJ hb;omega
    simp only[hget,this];exact ho
   have T:=htr.trans (hf d _ _ A' htr hw ho' hV rfl hs);exact⟨d,_,hw,T,ha.mono T.le,next⟩
 | YN j p k sz l A A' ho hp hk hl hs next =>
   obtain⟨v,hv,hf⟩:=a0L hr ho hp rfl;obtain⟨d,hw,htr,hV⟩:=Tr.Nk hr hk hl hv;have hjk:j≠k:=λe=>by rw[e,hk]at ho;cases ho
   have ho':hget (hset H k .gone) j=some (.box A):=(by rw[DK hjk];exact ho);have T:=htr.trans (hf d _ _ A' htr hw ho' hV rfl hs);exact⟨d,_,hw,T,ha.mono T.le,next⟩
theorem a4V{o:Oper}{a:Act}{next next':Act->World->Prop}{Q Q':Exit->Act->World->Prop}(hn:∀a w,next a w->next' a w)(hq:∀ex a w,ex≠.normal->Q ex a w->Q' ex a w) :
  ∀r,o.upon P a next Q r->o.upon P a next' Q' r:=by
 intro r h;unfold Oper.upon at *;split at h;{exact hn _ _ h};{exact hn _ _ h};{exact hn _ _ h}
 ·refine Calls.mono h λe w' he=>?_;cases e with
  |returned v=>exact hn _ _ he
  |panicked ch=>exact hq _ _ _ ak he
  |outgrown=>obtain⟨a',w'',hx⟩:=he;exact⟨a',w'',hq _ _ _ ak hx⟩
 ·exact Rows.mono h λv w'' h1=>hn _ _ h1
 ·exact hq _ _ _ ak h
 exact h.elim
theorem Ot{ops:Array Oper}{Q:Exit->Act->World->Prop}{rest:List Oper}:∀(pre:List Oper) (a:Act) (w:World),
  wpList P ops (λex a w=>match ex with | .normal=>wpList P ops Q rest a w|ex=>Q ex a w) pre a w->wpList P ops Q (pre++rest) a w
 | [],_,_,h=>h
 | o::l,a,w,h=>by
   have hq:∀ex a w,ex≠.normal->(match ex with | .normal=>wpList P ops Q rest a w|ex=>Q ex a w)->Q ex a w:=λex a w hne h=>by
    cases ex with
    |normal=>exact absurd rfl hne
    |_=>exact h
   simp only[eP,wpList]at h ⊢;split at h;{rename_i hw;rw[aG hw];rcases h with h|⟨h1,a',w',h2⟩;{exact .inl (a4V (Ot l) hq _ h)};exact .inr ⟨h1,a',w',hq _ _ _ ak h2⟩};rename_i hw;rw[aB hw];exact Ot l _ _ h
structure a3K(L:Lay)(n:Nat)(o:Oper)(e:Env)(H:Heap)(K:Env->Heap->Prop):Prop where
 ex:∃t el s0 s1 s2 d k0 k1 k2 n0 n1 n2:Nat,o.op=.buildSlice t 3 #[(0,.tmp s0),(1,.tmp s1),(2,.tmp s2)]/\o.dst=some d/\o.guard=none/\Nat.blt d n=true /\
  (vk e s0=some (.gs k0 n0)/\vk e s1=some (.gs k1 n1)/\vk e s2=some (.gs k2 n2))/\(L.sQ t λi=>i.desc=.slice el/\L.sQ el λei=>flat ei.zero=1) /\
  K ((d,.ms (nextId H) 0 3 3 1)::e) ((nextId H,.box (.ag [.gs k0 n0,.gs k1 n1,.gs k2 n2]))::H)
theorem a3K.sound(hL:uz P L){n:Nat}{o:Oper}{e:Env}{H:Heap}{c:Cx}{a:Act}{K:Env->Heap->Prop}(hr:HR c H)(ha:Cc n c e a)(h:a3K L n o e H K)
  {ops:Array Oper} {Q:Exit->Act->World->Prop} {rest:List Oper} (hk:∀e' H' c' a',K e' H'->Tr c H c' H'->Cc n c' e' a'->Fr (rX [o]) a a'->wpList P ops Q rest a' c'.w):wpList P ops Q (o::rest) a c.w:=by
 obtain⟨t,el,s0,s1,s2,d,k0,k1,k2,n0,n1,n2,ho,hd,hg,hdn,⟨g0,g1,g2⟩,hl,hK⟩:=h.ex;obtain⟨i,hT,hl⟩:=Lay.su hL hl;obtain⟨hi,hl⟩:=hl;obtain⟨dd,hu,hdd⟩:=hT.under;obtain rfl:=sN (hdd.trans hi);obtain⟨ei,hE,hf⟩:=Lay.su hL hl;obtain⟨info,z,q1,q2,q3,q4,q5,q6⟩:=hE.info;have v0:VV c (.gs k0 n0) (a.eval (.tmp s0)):=ha.env _ _ g0;have v1:VV c (.gs k1 n1) (a.eval (.tmp s1)):=ha.env _ _ g1;have v2:VV c (.gs k2 n2) (a.eval (.tmp s2)):=ha.env _ _ g2;generalize hx0:a.eval (.tmp s0)=x0 at *;generalize hx1:a.eval (.tmp s1)=x1 at *;generalize hx2:a.eval (.tmp s2)=x2 at *;have hs1:info.size=1:=(by rw[q2,hf]);have b6P:Instr.fill (λi=>some (i*info.size,info.size)) ((Array.range (3*info.size)).map (z.cells[· % z.cells.size]!)) [(0,x0),(1,x1),(2,x2)]=some #[x0,x1,x2]:=(by rw[hs1];simp[Instr.fill,v0.1.2 rfl,v1.1.2 rfl,v2.1.2 rfl];rw[show Array.range 3 = #[0,1,2]from by decide];simp);have hrun:(execOp a.eval o).run P c.w=.ok (.value (.slice (some ⟨c.w.heap.size,0,none⟩) 3 3)) (c.w.alloc (.cells #[x0,x1,x2] el)):=(by have h1:=Go.run_buildSlice (P:=P) c.w t el 3 #[(0,x0),(1,x1),(2,x2)] #[x0,x1,x2] info z hu q1 q4 (by rw[q2,hf];decide) (by rw[q2,hf];decide) b6P;unfold execOp;rw[ho];simp only[Sem.run_bind,List.map_toArray,dF,List.map_nil,hx0,hx1,hx2,h1,Result.andThen_ok,Sem.run_pure]);refine KQ hg hrun ?_;rw[hd];generalize hHO:HO.box (.ag [.gs k0 n0,.gs k1 n1,.gs k2 n2])=ho1 at *;have le:=UE hr (.cells #[x0,x1,x2] el) ho1;have htr:Tr c H (c.push (.cells #[x0,x1,x2] el) ((nextId H,ho1)::H)) ((nextId H,ho1)::H):=(by refine Tr.push hr _ _ (λ_=>by rw[<- hHO];rfl) ?_;rw[<- hHO];rw[<- hHO]at le;have m:∀{k nn:Nat} {x:Value},VV c (.gs k nn) x->VR (c.push (.cells #[x0,x1,x2] el) ((nextId H,HO.box (.ag [.gs k0 n0,.gs k1 n1,.gs k2 n2]))::H)) (.gs k nn) [x]:=fun{k nn x} h=>(by have:=(Cm le h).2;rwa[h.1.2 rfl]at this);refine⟨[x0,x1,x2],el,?_,?_,?_⟩;{rw[ELρ hr];simp only[Cx.push];exact alloc_heap_new _ _};{simp only[VR,Ea];exact⟨[x0],[x1,x2],rfl,by simpa only[VR]using m v0,[x1],[x2],rfl,by simpa only[VR]using m v1,[x2],[],rfl,by simpa only[VR]using m v2,rfl⟩};intro y hy;rw[ELρ hr]at hy;have:=hr.im _ _ hy;omega);have hms:EV (c.push (.cells #[x0,x1,x2] el) ((nextId H,ho1)::H)) (.ms (nextId H) 0 3 3 1) (.slice (some ⟨c.w.heap.size,0,none⟩) 3 3):=(by refine sD (vG rfl rfl ?_);simp only[VR];rw[ELρ hr];refine⟨by simp only[Cx.push,hr.nx];omega,ak,aj,by simp[maxL]⟩);refine hk _ _ _ _ hK htr ((ha.mono le).put (bF hdn) hms) ?_;have:rX [o]=[d]:=(by simp[rX,hd]);rw[this];exact Fr.put
theorem IC:∀l m:List Oper,rX (l++m)=rX l++rX m
 | [],_=>rfl
 |o::l,m=>by simp only[eP,rX];rw[IC l m];cases o.dst <;> simp
theorem Vk(o:Oper)(l:List Oper):rX (o::l)=rX [o]++rX l:=IC [o] l
inductive Mr where
 |x (m:Mk)|s (m:Mk) (y:Mr)|m (y:Mr)|f (y:Mr)|o (k:Nat) (y:Mr)
def Mr.r:Nat->Mr->Mr
 | 0,y=>y
 |k+1,y=>.s .n (Mr.r k y)
def b7u:Code->Option (Nat×Nat×Nat×Nat×List Oper×List Oper×Nat×Code)
 | .block bk (.loop (.seq (.region i2 o2 false) (.seq (.cond (.tmp tk) .skip (.exit bk')) (.block bk2 (.seq (.region i3 o3 false) rest)))))=>if bk'=bk then some (bk,i2,i3,bk2,o2.toList,o3.toList,tk,rest)else none
 |_=>none
def b1L(a b:Code):Option RgD :=
 match a with
 | .region i1 o1 false=>(match o1.toList,b7u b with
   | [mv,rg],some (bk,i2,i3,bk2,[nx,ex],en::ops,tk,rest)=>some ⟨i1,i2,i3,bk,bk2,mv,rg,nx,ex,en,tk,ops,rest⟩
   |_,_=>none)
 |_=>none
theorem a8G{a b:Code}{d:RgD}(h:b1L a b=some d):a=rgA d/\b=rgB d:=by unfold b1L at h;split at h;{rename_i i1 o1;split at h;{rename_i mv rg bk i2 i3 bk2 nx ex en ops tk rest h1 h2;obtain rfl:=aW h;refine⟨?_,?_⟩;{unfold rgA;rw[<- h1]};unfold b7u at h2;split at h2;{split at h2;{rename_i e;simp only[mg,mJ]at h2;obtain⟨rfl,rfl,rfl,rfl,e2,e3,rfl,rfl⟩:=h2;unfold rgB VY;rw[<- e2,<- e3,e]};cases h2};cases h2};cases h};cases h
def SG(P:Program)(F:FT)(L:Lay)(n:Nat):Mr->Code->(AX->Env->Heap->Prop)->Env->Heap->Prop
 | .x m,c,Q,e,H=>FC F Ok L m c Q e H
 | .s m y,.seq a b,Q,e,H=>FC F Ok L m a (λz e' H'=>match z with | .normal=>SG P F L n y b Q e' H'|z=>Q z e' H') e H
 | .m y,.seq (.seq a b) z,Q,e,H=>(match b1L a b with
   |some d=>b1v P F L n d (λe' H'=>SG P F L n y z Q e' H') e H
   |none=>False)
 | .f y,c,Q,e,H=>a3J e H λe' H'=>SG P F L n y c Q e' H'
 | .o k y,.seq (.seq (.region _ ops false) b) z,Q,e,H=>(match ops.toList.drop k with
   | bs::post=>Hy F Ok L ops.toList (ops.toList.take k) e H λe' H'=>a3K L n bs e' H' λe' H'=>Hy F Ok L ops.toList post e' H' λe' H' =>
     Ux F Ok L b (λx e' H'=>match x with | .normal=>SG P F L n y z Q e' H'|x=>Q x e' H') e' H'
   | []=>False)
 |_,_,_,_,_=>False
def LC(n:Nat):Mr->Code->Bool
 | .x _,c=>AB n c
 | .s _ y,.seq a b=>AB n a&&LC n y b
 | .m y,.seq (.seq _ _) z=>LC n y z
 | .f y,c=>LC n y c
 | .o _ y,.seq (.seq (.region _ ops _) b) z=>ops.toList.all (GU n)&&AB n b&&LC n y z
 |_,_=>false
theorem He(hL:uz P L)(hm:P.follows .mixedOrders=true)(hFn:FS P F){n:Nat} :
  ∀ (y:Mr) (code:Code) (Q:AX->Env->Heap->Prop) (e:Env) (H:Heap) (c:Cx) (a:Act),LC n y code=true->HR c H->Cc n c e a->SG P F L n y code Q e H ->
    code.wp P (Post n (writes code) c H a Q) a c.w
 | .x m,code,Q,e,H,c,a,hc,hr,ha,h=>xA hL hm hFn m code Q e H c a (by simpa only[LC]using hc) hr ha (by simpa only[SG]using h)
 | .s m y,.seq a b,Q,e,H,c,s,hc,hr,ha,h=>by
   simp only[LC,aK]at hc;simp only[SG]at h;refine wp_seq (wp_mono (xA hL hm hFn m a _ e H c s hc.1 hr ha h) ?_);rintro ex a' w' ⟨x',e',H',c',rfl,hq,rfl,htr,ha',hf⟩;cases x' with
   |normal =>refine wp_mono (He hL hm hFn y b _ e' H' c' a' hc.2 htr.hr ha' hq) ?_;rintro ex a'' w'' ⟨x',e'',QY,c'',rfl,hq,rfl,xH,BJ,hf'⟩;exact⟨x',e'',QY,c'',rfl,hq,rfl,htr.trans xH,BJ,hf.trans hf'⟩
   |exit i=>exact⟨.exit i,e',H',c',rfl,hq,rfl,htr,ha',hf.mono λt ht=>eu _ ht⟩
   |ret=>exact⟨.ret,e',H',c',rfl,hq,rfl,htr,ha',hf.mono λt ht=>eu _ ht⟩
 | .m y,.seq (.seq a b) z,Q,e,H,c,s,hc,hr,ha,h=>by simp only[LC]at hc;simp only[SG]at h;split at h;{rename_i d hd;obtain⟨rfl,rfl⟩:=a8G hd;refine a08 hL hm hFn hr ha h λe' H' c' a' hK htr ha' hf=>?_;refine wp_mono (He hL hm hFn y z Q e' H' c' a' hc htr.hr ha' hK) ?_;rintro ex a'' w'' ⟨x',e'',QY,c'',rfl,hq,rfl,xH,BJ,hf'⟩;refine⟨x',e'',QY,c'',rfl,hq,rfl,htr.trans xH,BJ,(hf.trans hf').mono λt ht=>?_⟩;simp only[writes,bK]at ht ⊢;exact ht};exact h.elim
 | .f y,code,Q,e,H,c,s,hc,hr,ha,h=>by
   simp only[LC]at hc;have h:a3J e H λe' H'=>SG P F L n y code Q e' H':=by simpa only[SG]using h
   obtain⟨d,H',hw,htr,ha',hK⟩:=h.sound hr ha;have:=He hL hm hFn y code Q e H' d s hc htr.hr ha' hK;rw[hw]at this;refine wp_mono this ?_;rintro ex a'' w'' ⟨x',e'',QY,c'',rfl,hq,rfl,xH,BJ,hf'⟩;exact⟨x',e'',QY,c'',rfl,hq,rfl,htr.trans xH,BJ,hf'⟩
 | .o k y,.seq (.seq (.region i ops false) b) z,Q,e,H,c,s,hc,hr,ha,h=>by
   simp only[LC,aK]at hc;obtain⟨⟨hc1,hc2⟩,hc3⟩:=hc;simp only[SG]at h;split at h;case h_2=>exact h.elim
   rename_i bs post hd;have hall:∀o∈ops.toList,GU n o=true:=bD.1 hc1;have hpost:post.all (GU n)=true:=bD.2 λo ho=>hall o (nH (by rw[hd];exact cZ _ ho));have hw:∀t,t∈rX (ops.toList.take k)++rX [bs]++rX post->t∈rX ops.toList:=by intro t ht;rw[<- fH k ops.toList,hd,IC,Vk bs post,<- bK];exact ht
   refine wp_seq (wp_seq (wp_region_list ?_));have e0:ops.toList=ops.toList.take k++(bs::post):=(by rw[<- hd,fH]);rw[e0];refine Ot _ _ _ (Hg hL hFn (bD.2 λo ho=>hall o (kD ho)) hr ha h λe1 H1 c1 a1 h1 t1 r1 f1=>?_);refine a3K.sound hL t1.hr r1 h1 λe2 H2 c2 a2 h2 t2 r2 f2=>?_;refine Hg hL hFn hpost t2.hr r2 h2 λe3 H3 c3 a3 h3 t3 r3 f3=>?_;have T:=(t1.trans t2).trans t3;have Fa:Fr (rX ops.toList) s a3:=((f1.trans f2).trans f3).mono hw;refine wp_mono (Au hL hm hFn b _ e3 H3 c3 a3 hc2 t3.hr r3 h3) ?_;rintro ex a4 w4 ⟨x,e4,H4,c4,rfl,hq,rfl,t4,r4,f4⟩;cases x with
   |normal =>refine wp_mono (He hL hm hFn y z Q e4 H4 c4 a4 hc3 t4.hr r4 hq) ?_;rintro ex a'' w'' ⟨x',e'',QY,c'',rfl,hq,rfl,xH,BJ,hf'⟩;refine⟨x',e'',QY,c'',rfl,hq,rfl,(T.trans t4).trans xH,BJ,((Fa.trans f4).trans hf').mono λt ht=>?_⟩;simpa only[writes,bK]using ht
   |exit i=>exact⟨.exit i,e4,H4,c4,rfl,hq,rfl,T.trans t4,r4,(Fa.trans f4).mono λt ht=>by simp only[writes];exact eu _ ht⟩
   |ret=>exact⟨.ret,e4,H4,c4,rfl,hq,rfl,T.trans t4,r4,(Fa.trans f4).mono λt ht=>by simp only[writes];exact eu _ ht⟩
theorem Uz.b40 (y:Mr) (hL:uz P L) (hm:P.follows .mixedOrders=true) {f:Nat} {fn:Func} {code:Code} (hf:P.funcs[f]? = some fn) (hn:(fn.name== "runtime.NumGoroutine")=false) (hb:fn.body=some code)
  (hc:LC fn.ntmps y code=true) {args:List AV} {H:Heap} {Q:AV->Heap->Prop} (ha:Nat.ble args.length fn.ntmps=true)
  (h:KH args->b1m 0 args λe=>SG P (FP P) L fn.ntmps y code (b7g L fn.results.toList H Q) e H):Uz P f args H Q :=
 Uz.a6j (B:=SG P (FP P) L fn.ntmps y code) (λQ' e H' c a hr ha h=>He hL hm (b33 P) y code Q' e H' c a hc hr ha h) hL hf hn hb (λ_ _ _ h=>h) ha h
end
end Go.AL
open Go Go.AL Go.Proofs
namespace S
set_option maxRecDepth 100000
theorem a9P(l:List Str)(hl:l.length<=1000000):ZQ 27 [.fn 85 [.cp (sL l)]] [] (.gs 0 l.length) [(0,.uH 1 ((sortL l).map .str))]:=by
 refine ZI Tryz.func27 λhok=>?_;conv=>whnf
 refine .gen _ _ (a7A l hl) λ_=>?_;conv=>whnf
 refine .gen _ _ (Nq l hl) λ_=>?_;conv=>whnf
 exact ZX
theorem b7k{P:Program}{f:Nat}{args:List AV}{H:Heap}{R:AV}{G:Heap}(h:Uz P f args H λR' G'=>R'=R/\G'=G):qZ P f args H R G:=by refine⟨h.1,λc vs hr hv=>(h.2 c vs hr hv).mono ?_⟩;rintro _ _ ⟨v,d,_,_,⟨rfl,rfl⟩,h3⟩;exact⟨v,d,h3⟩
theorem a1F(l:List Str):ZQ 28 [sL l] [] (.fn 85 [.cp (sL l)]) []:=by refine b7k ?_;refine Uz.b0Y (.r 1 (.f [0] .n)) lay mixed Tryz.func28 (by kernel_rfl) rfl (by kernel_rfl) rfl λhok=>?_;refine Z0 ?_;refine⟨⟨rfl,rfl⟩,ZW ?_⟩;refine⟨_,_,⟨rfl,rfl⟩,?_⟩;exact ZX
theorem a3p(m:Md)(hb:m.evs.length<=1000):ZQ 29 [m.av] [] (sL (BM m)) []:=by
 unfold BM;refine ZN Tryz.func29 λhok=>?_;refine qW.of <| qN.inv (.grow 3 1 [] _ rfl (.inl ⟨rfl,rfl⟩) (.refl _ _)) (λi:Nat=>i<=m.evs.length) (λi=>[(9,.int .i64 i),(3,.sl 1 (((m.evs.take i).map Ev.name).map .str) (.own 1))]) (λi=>[(1,.tok 1 i),(0,.box m.av)]) (λi=>m.evs.length-i) 0 (aP _) (λ_=>rfl) ?_ ?_;{exact wk};intro i hi _;refine ZS ?_ ?_<;>intro h1
 ·have hlt:i<m.evs.length:=(by simpa using h1);refine ZW ?_;refine sH hlt (ZW ?_);refine⟨aA,?_⟩
  (refine⟨by simp[maxL] <;> omega,by simp <;> omega,?_⟩;(conv=>whnf))
  refine ZG ?_;refine⟨i+1,?_,?_,?_⟩;{exact hlt}
  ·refine⟨?_,.mk ?_ ?_⟩
   ·repeat' first|exact Zq|apply aI
    refine qY ?_;rw[show m.evs.take (i+1)=m.evs.take i++[m.evs[i]]from bV hlt];simp only[aV];rfl
   ·repeat' first|exact Zq|apply aI
    simp;omega
   exact⟨ak,ak,trivial⟩
  omega
 have hl:i=m.evs.length:=(by(have:¬i<m.evs.length:=by simpa using h1);omega);subst hl;clear h1;rw[bn];exact ZJ
theorem a7B(m:Md)(hb:m.evs.length<=1000):ZQ 29 [m.av] [] (.sl 1 ((BM m).map .str) (.own 1)) [(1,.tok 1 (BM m).length),(0,.gone)]:=by
 unfold BM;refine ZN Tryz.func29 λhok=>?_;refine qW.of <| qN.inv (.grow 3 1 [] _ rfl (.inl ⟨rfl,rfl⟩) (.refl _ _)) (λi:Nat=>i<=m.evs.length) (λi=>[(9,.int .i64 i),(3,.sl 1 (((m.evs.take i).map Ev.name).map .str) (.own 1))]) (λi=>[(1,.tok 1 i),(0,.box m.av)]) (λi=>m.evs.length-i) 0 (aP _) (λ_=>rfl) ?_ ?_;{exact wk};intro i hi _;refine ZS ?_ ?_<;>intro h1
 ·have hlt:i<m.evs.length:=(by simpa using h1);refine ZW ?_;refine sH hlt (ZW ?_);refine⟨aA,?_⟩
  (refine⟨by simp[maxL] <;> omega,by simp <;> omega,?_⟩;(conv=>whnf))
  refine ZG ?_;refine⟨i+1,?_,?_,?_⟩;{exact hlt}
  ·refine⟨?_,.mk ?_ ?_⟩
   ·repeat' first|exact Zq|apply aI
    refine qY ?_;rw[show m.evs.take (i+1)=m.evs.take i++[m.evs[i]]from bV hlt];simp only[aV];rfl
   ·repeat' first|exact Zq|apply aI
    simp;omega
   exact⟨ak,ak,trivial⟩
  omega
 have hl:i=m.evs.length:=(by(have:¬i<m.evs.length:=by simpa using h1);omega);subst hl;clear h1;rw[bn];refine ZW ?_;refine ZE ?_ ?_;{exact wk};repeat' first|exact Zq|apply aI
 all_goals first|(rw[aC])|skip
def ovI(v:Int)(ns es:List Str)(i:Int):Int:=if i<v then yJ (λy=>decide (ns.getD i.toNat []=y)) es else i-v+es.length
theorem b3p(f:Fo)(ns es:List Str)(i:Int)(h0:0<=i)(h1:i<=100000)(hv:0<=f.vars/\f.vars<=100)(hn:i<f.vars->i<ns.length)(he:es.length<=1000) :
  ZQ 90 [.int .i64 i,.cp f.av,.cp (sL es),.cp (sL ns)] [] (.int .i64 (ovI f.vars ns es i)) []:=by
 have ci:=XP es (ns.getD i.toNat []);refine ZN Tryz.func90 λhok=>?_;constructor<;>intro g
 ·rw[show ovI f.vars ns es i=_ from aG g];have hi:i.toNat<ns.length:=(by have:=hn g;omega);refine ZW ?_;refine ZR ?_;refine ug [] ⟨aj,aj⟩ ?_;conv=>whnf
  refine .zK ci ?_;exact ZX
 rw[show ovI f.vars ns es i=_ from aB g];refine ZW ?_;refine⟨rW aj aj,ZW ?_⟩;rw[aC];refine⟨rW aj aj,ZW ?_⟩;exact ZX
def ovN(v:Int)(ns es:List Str)(x:Nd):Nd:=⟨x.kind,x.k,x.args.map (ovI v ns es)⟩
def ovF(f:Fo)(ns es:List Str):Fo:=⟨es.length,f.nodes.map (ovN f.vars ns es),ovI f.vars ns es f.top⟩
theorem b1h(f:Fo)(ns es:List Str)(h:Om f)(hn:f.vars<=ns.length)(he:es.length<=1000):ZQ 33 [f.av,sL ns,sL es] [] (ovF f ns es).av []:=by
 obtain⟨h1,h2,h3,h4⟩:=h;have c1:=λi g0 g1=>b3p f ns es i g0 g1 aj aj he;unfold ovF;refine b7k ?_;refine Uz.b0Y (.r 1 (.f [0,1,2] .n)) lay mixed Tryz.func33 (by kernel_rfl) rfl (by kernel_rfl) rfl λhok=>?_;refine Z0 ?_;refine⟨⟨rfl,rfl⟩,⟨rfl,rfl⟩,⟨rfl,rfl⟩,ZW ?_⟩;refine ZR ?_;refine .zW (c1 f.top h4.1 aj) ?_;rw[show(es.map AV.str).length=es.length from aC _];generalize ovI f.vars ns es f.top=tp at *;have hov:∀l:List Nd,l.map (ovN f.vars ns es)=l.map λx=>⟨x.kind,x.k,x.args.map (ovI f.vars ns es)⟩:=λ_=>rfl;rw[hov];have hc:∀i,0<=i->i<=100000->ZQ 90 [.int .i64 i,.cp f.av,.cp (sL es),.cp (sL ns)] [] (.int .i64 (ovI f.vars ns es i)) []:=c1;clear c1 hov;generalize ovI f.vars ns es=ov at *;refine qW.of <| (qN.inv (.FU 4 [1] 3 [] (.ag [.int .i64 es.length,.qV,.int .i64 tp]) .qV _ rfl rfl (.inl ⟨rfl,rfl⟩) rfl (.refl _ _)) (λk:Nat=>k<=f.nodes.length) (λk=>[(25,.int .i64 k)]) (λk=>[(5,.tok 3 k),(4,.box (.ag [.int .i64 es.length,.sl 3 (((f.nodes.take k).map λx=>(⟨x.kind,x.k,x.args.map ov⟩:Nd)).map Nd.av) (.own 5),.int .i64 tp])),(3,.box (.ag [.int .i64 0,.qV,.int .i64 0])),(2,.gone),(1,.gone),(0,.gone)]) (λk=>f.nodes.length-k) 0 (aP _) ?_ ?_ ?_);{exact λ_=>rfl};{exact ZV};intro k hk _;have hkl:((f.nodes.take k).map λx=>(⟨x.kind,x.k,x.args.map ov⟩:Nd)).length=k:=(by rw[aC,dh];omega);refine ZS ?_ ?_<;>intro g
 ·have hlt:k<f.nodes.length:=(by simpa using g);have hst:(f.nodes.take (k+1)).map (λx=>(⟨x.kind,x.k,x.args.map ov⟩:Nd))=((f.nodes.take k).map λx=>(⟨x.kind,x.k,x.args.map ov⟩:Nd))++[⟨(f.nodes[k]).kind,(f.nodes[k]).k,(f.nodes[k]).args.map ov⟩]:=(by rw[bV hlt,aV];rfl);have hnx:=h3 _ hlt;have hna:=hnx.args;have hnl:(f.nodes[k]).args.length<=16:=(by have hal:=hnx.num;split at hal;{omega};split at hal <;> omega);refine ZW ?_;refine sH hlt ?_;generalize f.nodes[k]=x at *;generalize (f.nodes.take k).map (λx=>(⟨x.kind,x.k,x.args.map ov⟩:Nd))=out at *;refine ZW ?_;refine qW.of <| (qN.inv (.grow 11 1 [] _ rfl (.inl ⟨rfl,rfl⟩) (.refl _ _)) (λj:Nat=>j<=x.args.length) (λj=>[(32,.int .i64 j),(11,.sl 1 (((x.args.take j).map ov).map (.int .i64)) (.own 7))]) (λj=>[(7,.tok 1 j),(6,.box x.av),(5,.tok 3 k),(4,.box (.ag [.int .i64 es.length,.sl 3 (out.map Nd.av) (.own 5),.int .i64 tp])),(3,.box (.ag [.int .i64 0,.qV,.int .i64 0])),(2,.gone),(1,.gone),(0,.gone)]) (λj=>x.args.length-j) 0 (aP _) ?_ ?_ ?_);{exact λ_=>rfl};{exact ZV};intro j hj _;have htl:((x.args.take j).map ov).length=j:=(by rw[aC,dh];omega);refine ZS ?_ ?_<;>intro g3
  ·have hjl:j<x.args.length:=(by simpa using g3);have ha:=hna _ (aN hjl);have ht1:(x.args.take (j+1)).map ov=(x.args.take j).map ov++[ov x.args[j]]:=(by rw[bV hjl,aV];rfl);refine ZW ?_;refine sH hjl ?_;generalize x.args[j]=a at *;generalize (x.args.take j).map ov=al at *;refine ZW ?_;refine .zW (hc a ha.1 aj) ?_;refine⟨aA,?_⟩
   (refine⟨by simp[maxL] <;> omega,by simp <;> omega,?_⟩;(conv=>whnf))
   refine ZG ?_;refine⟨j+1,?_,?_,?_⟩;{exact hjl}
   ·rw[ht1];refine Zv ?_ ?_
    ·repeat' first|exact Zq|apply aI
     all_goals first|(show tV _ (List.map _ (_++[_]));rw[aV];exact qX _)|skip
    repeat' first|exact Zq|apply aI
    all_goals first|(simp;omega)|skip
   omega
  have hjl:j=x.args.length:=(by(have:¬j<x.args.length:=by simpa using g3);omega);subst hjl;rw[bn];refine ZW ?_;refine⟨by rw[aC,hkl],.mk (by simp[maxL];omega) aA (ZW ?_)⟩;refine ZG ?_;refine⟨k+1,?_,?_,?_⟩;{exact hlt}
  ·rw[hst];refine Zv wk ?_;repeat' first|exact Zq|apply aI
   all_goals first|(simp;done)|(simp;omega)|(show tV _ (List.map _ (_++[_]));rw[aV];exact qX _)|skip
  omega
 have hk:k=f.nodes.length:=(by(have:¬k<f.nodes.length:=by simpa using g);omega);subst hk;rw[bn];refine ZW ?_;refine⟨_,_,⟨rfl,rfl⟩,?_⟩;exact ZX
theorem a7Q{m:Md}(hM:J9 m):(rE m).length<=64:=by
 have ht:JC m<=64:=(by have:=hM.pages;unfold uP at this;split at this;{cases this};omega);have h1:∀(l:List Pg) (n:Nat),l.foldl (λn x=>n+x.gates.length) n=n+(l.map λp=>p.gates.length).sum:=by
  intro l;induction l with
  |nil=>intro n;simp
  |cons p l ih=>intro n;simp only[fA,ih,dF,mM];omega
 have h2:∀(l:List Int),(l.flatMap (yR m)).length=(l.map λa=>(qO m a).length).sum:=by
  intro l;induction l with
  |nil=>simp
  |cons a l ih=>simp only[nS,bC,ih,dF,mM];simp[yR]
 have h3:(Bo m).map (λa=>(qO m a).length)=m.gates.length::m.pages.map λp=>p.gates.length:=(by unfold Bo;rw[gZ,List.range_succ_eq_map,dF,gZ];congr 1;apply lD;{simp};intro i h1 h2;simp only[aC,nR]at h1;simp only[kF,nP,Function.comp];unfold qO;rw[aB aj];have:(((i+1:Nat):Int)-1).toNat=i:=aj;rw[show((Nat.succ i:Nat):Int)-1=(i:Int) by simp];rw[aO,aF,aH h1];rfl);unfold JC at ht;rw[h1]at ht;unfold rE;rw[h2,h3,mM];exact ht
theorem IV.a8C{m:Md}(hM:J9 m){st:CS}(h:IV m st):st.nodes.length<=128:=by have:=Ef h.nd (u:=univ m) λx hx=>(by obtain⟨e,he,rfl⟩:=bg.1 hx;exact a2e (h.ok e he).1 (h.ok e he).2);rw[aC]at this;have h1:=a7Q hM;have h2:=hM.lens.2;have:(univ m).length=m.hs.length+(rE m).length:=(by simp[univ]);rw[h.len];omega
structure Yn(vars:Int)(st:CS):Prop where
 nd:∀(i:Nat) (h:i<st.nodes.length),NK vars i st.nodes[i]
 va:∀z v,lookO st.es z=some v->0<=v/\v<vars+st.nodes.length
theorem Yn.push{vars:Int}(hv:0<=vars){st:CS}(h:Yn vars st)(x:Node)(nd:Nd)(hn:NK vars st.nodes.length nd):Yn vars (xM vars st x nd).2:=by refine⟨?_,?_⟩;{show ∀(i:Nat) (h:i<(st.nodes++[nd]).length),NK vars i (st.nodes++[nd])[i];intro i hi;by_cases hl:i<st.nodes.length;{rw[kL hl];exact h.nd i hl};obtain rfl:i=st.nodes.length:=(by simp at hi;omega);rw[lZ (aT _)];simpa using hn};show ∀z v,lookO (mark st.es x (vars+st.nodes.length)) z=some v->0<=v/\v<vars+((st.nodes++[nd]).length:Int);intro z v hz;rw[CQ]at hz;rw[bC];split at hz;{obtain rfl:=aW hz;simp;omega};have:=h.va z v hz;simp;omega
theorem b2L{m:Md}(hM:J9 m){x:Node}(hx:x∈rE m)(hs:Dw (rP m x).kind=true){vars:Int}{i:Nat}{args:List Int}(hl:args.length=(rP m x).ins.length)(ha:∀a∈args,0<=a/\a<vars+i) :
  NK vars i ⟨GZ (rP m x).kind,(rP m x).k,args⟩:=by
 obtain⟨_,h2,h3,h4⟩:=uN.1 hx;have hk:x.2.2.toNat<(qO m x.2.1).length:=aj;have ho:=(hM.gate h2 hk).own;have e:rP m x=(qO m x.2.1)[x.2.2.toNat]:=(by unfold rP;rw[aF,aH hk];rfl);rw[<- e]at ho;generalize rP m x=g at *;clear e;have hf:Jr g.kind g.ins.length=true/\¬(g.kind=2/\(g.k<1\/(g.ins.length:Int)<g.k))/\¬(g.kind≠2/\g.k≠0):=(by unfold uQ at ho;split at ho;{cases ho};split at ho;{cases ho};split at ho;{cases ho};split at ho;{cases ho};split at ho;{cases ho};rename_i q1 q2 q3;exact⟨by simpa using q1,q2,q3⟩);obtain⟨f1,f2,f3⟩:=hf;unfold Dw at hs;simp only[fP,bT]at hs;rcases hs with((((e|e)|e)|e)|e)|e <;> rw[e]at f1 f2 f3 ⊢ <;> simp[Jr]at f1 f2 f3 <;> refine⟨?_,?_,ha,?_⟩ <;> simp[GZ] <;> omega
theorem a0u(f:Node->CS->(Bool×Int)×CS):∀(l:List Node) (s:CS) (acc:List Int),(wB f l s acc).1.1=false->(wB f l s acc).1.2.length=acc.length+l.length
 | [],_,_,_=>rfl
 |y::l,s,acc,h=>by unfold wB at h ⊢;split;{rename_i hb;rw[aG hb]at h;cases h};rename_i hb;rw[aB hb]at h;rw[a0u f l _ _ h];simp;omega
theorem a6T{m:Md}(hM:J9 m)(vars:Int)(hv:vars=m.evs.length):∀(n:Nat) (x:Node) (st:CS),RF m x->Yn vars st->(sF m vars n x st).1.1=false ->
  Yn vars (sF m vars n x st).2/\(0<=(sF m vars n x st).1.2/\(sF m vars n x st).1.2<vars+(sF m vars n x st).2.nodes.length)/\∃r,(sF m vars n x st).2.nodes=st.nodes++r
 | 0,_,_,_,_,h=>by cases h
 | n+1,x,st,hx,hI,h=>by
   have hv0:0<=vars:=aj;unfold sF at h ⊢;split;{rename_i h0;refine⟨hI,?_,[],ak⟩;rcases hx with hx|hx|hx;{dsimp only;omega};{omega};have:=(uN.1 hx).1;omega};rename_i h0;rw[aB h0]at h;split;{rename_i a ha;exact⟨hI,hI.va x a ha,[],ak⟩};rename_i hn;simp only[hn]at h;have hpush:∀{s:CS} (nd:Nd),Yn vars s->NK vars s.nodes.length nd->(∃r,s.nodes=st.nodes++r)->Yn vars (xM vars s x nd).2/\(0<=(xM vars s x nd).1.2/\(xM vars s x nd).1.2<vars+(xM vars s x nd).2.nodes.length)/\∃r,(xM vars s x nd).2.nodes=st.nodes++r:=(by intro s nd h1 h2 ⟨r,hr⟩;refine⟨h1.push hv0 x nd h2,?_,r++[nd],?_⟩;{show 0<=vars+(s.nodes.length:Int)/\vars+(s.nodes.length:Int)<vars+((s.nodes++[nd]).length:Int);rw[bC];simp;omega};show s.nodes++[nd]=_;rw[hr,bK]);split;{rename_i h1;refine hpush _ hI ⟨ak,ak,ak,?_⟩ ⟨[],ak⟩;simp;try (cases(Ij m x).on <;> simp)};rename_i h1;rw[aB h1]at h;have h2:x.1=2:=(by rcases hx with h|h|h;{omega};{omega};exact(uN.1 h).1);obtain⟨hxa,hk⟩:=yL hM.closed hx h2;split;{rename_i hs;rw[aG hs]at h;cases h};rename_i hs;rw[aB hs]at h
   have key:∀(l:List Node) (s:CS) (acc:List Int),(∀y∈l,RF m y)->Yn vars s->(∀a∈acc,0<=a/\a<vars+s.nodes.length)->(wB (sF m vars n) l s acc).1.1=false ->
     Yn vars (wB (sF m vars n) l s acc).2/\(∀a∈(wB (sF m vars n) l s acc).1.2,0<=a/\a<vars+(wB (sF m vars n) l s acc).2.nodes.length)/\∃r,(wB (sF m vars n) l s acc).2.nodes=s.nodes++r:=by
    intro l;induction l with
    |nil=>intro s acc _ h1 h2 _;exact⟨h1,h2,[],by simp[wB]⟩
    | cons y l ih =>
      intro s acc hl h1 h2 he;unfold wB at he ⊢;split;{rename_i hb;rw[aG hb]at he;cases he};rename_i hb;rw[aB hb]at he;obtain⟨g1,g2,r,g3⟩:=a6T hM vars hv n y s (hl y ak) h1 (by simpa using hb);have hle:(s.nodes.length:Int)<=(sF m vars n y s).2.nodes.length:=by rw[g3,bC];omega
      obtain⟨i1,i2,r',i3⟩:=ih _ _ (λz hz=>hl z (by simp[hz])) g1 (λa ha=>by
       rcases dM.1 ha with ha|ha;{have:=h2 a ha;omega};simp at ha;subst ha;exact g2) he
      exact⟨i1,i2,r++r',by rw[i3,g3,bK]⟩
   split;{rename_i he;rw[aG he]at h;cases h};rename_i he;have he:(wB (sF m vars n) (sZ m x) st []).1.1=false:=by simpa using he
   obtain⟨k1,k2,k3⟩:=key _ _ _ hk hI ak he;refine hpush _ k1 (b2L hM hxa (by simpa using hs) ?_ k2) k3;rw[a0u _ _ _ _ he];simp[sZ]
theorem Yn.nil(vars:Int):Yn vars ⟨[],[]⟩:=⟨λi h=>by simp at h,λz v h=>by cases h⟩
theorem b7b{m:Md}(hM:J9 m){s:Str}(hs:uZ m (-1) s=true)(he:(wZ m s).1.1=false):Om ⟨m.evs.length,(wZ m s).2.nodes,(wZ m s).1.2⟩:=by have hok:=(hM.RU (.inl rfl) hs).ok;obtain⟨rank,hr,_⟩:=hM.rank;obtain⟨h1,h2,_⟩:=a6T hM m.evs.length rfl (Il m) _ ⟨[],[]⟩ hok (.nil _) he;have h3:=(QD hM.closed hr m.evs.length (Il m) _ ⟨[],[]⟩ hok (.nil m)).1.a8C hM;have:=hM.lens.1;exact⟨⟨ak,by show(m.evs.length:Int)<=24;omega⟩,h3,h1.nd,h2⟩
def b1l(m:Md):Bool:=!yS m||(decide (12<m.evs.length)&&decide (m.evs.length<=24))||decide (100<m.evs.length)||decide (100<m.gates.length)||decide (20<m.pages.length)
theorem b66(m:Md):ZQ 6 [m.av] [] (.bool (b1l m)) []:=by
 have cl:=b0j m _ rfl;cases hL:yS m with
 |false =>rw[hL]at cl;have cl:=cl.weak (R':=.ff) rfl;rw[show b1l m=true from by unfold b1l;rw[hL];rfl];refine ZN Tryz.func6 λhok=>?_;refine .zW cl ?_;exact ZX
 | true =>
   rw[hL]at cl;have cl:=cl.weak (R':=.tt) rfl;have hb:∀b:Bool,((12<m.evs.length/\m.evs.length<=24)\/100<m.evs.length\/100<m.gates.length\/20<m.pages.length↔b=true)->b1l m=b:=λb h=>(by unfold b1l;rw[hL];rw[jE,<- h];simp[or_assoc]);obtain⟨b,h⟩:∃b:Bool,((12<m.evs.length/\m.evs.length<=24)\/100<m.evs.length\/100<m.gates.length\/20<m.pages.length↔b=true):=⟨decide _,(lU).symm⟩;rw[hb b h];clear hb;refine ZN Tryz.func6 λhok=>?_;refine .zW cl ?_;constructor<;>intro g1
   ·refine ZS ?_ ?_<;>intro g2;{obtain rfl:b=true:=h.1 (by simp only[aC]at g1 g2;omega);refine ZW ?_;exact ZX};refine ZS ?_ ?_<;>intro g3;{obtain rfl:b=true:=h.1 (by simp only[aC]at g3;omega);refine ZW ?_;exact ZX};refine ZS ?_ ?_<;>intro g4;{obtain rfl:b=true:=h.1 (by simp only[aC]at g4;omega);refine ZW ?_;exact ZX};refine ZW ?_;refine ZE ?_ ?_
    ·repeat' first|exact Zq|apply aI
     all_goals (simp only[aC]at *;show _↔_;rw[<- h];omega)
    exact wk
   refine ZS ?_ ?_<;>intro g3;{obtain rfl:b=true:=h.1 (by simp only[aC]at g3;omega);refine ZW ?_;exact ZX};refine ZS ?_ ?_<;>intro g4;{obtain rfl:b=true:=h.1 (by simp only[aC]at g4;omega);refine ZW ?_;exact ZX};refine ZW ?_;refine ZE ?_ ?_
   ·repeat' first|exact Zq|apply aI
    all_goals (simp only[aC]at *;show _↔_;rw[<- h];omega)
   exact wk
structure Bd(m:Md):Prop where
 light:yS m=true
 b:KI m
 c:MdC m
 x:MdX m
 evs:m.evs.length<=60
 page:m.pages.length<=20
theorem b69{m:Md}(h:b1l m=false):Bd m:=by unfold b1l at h;simp only[Bool.or_eq_false_iff,Bool.not_eq_false',decide_eq_false_iff_not]at h;obtain⟨⟨⟨⟨h1,_⟩,h3⟩,h4⟩,h5⟩:=h;obtain⟨hB,hC⟩:=a9f h1;exact⟨h1,hB,hC,a9e h1,hB.evs,aj⟩
def ckM(a b:Md):Int:=if rF a≠0 then rF a else if rF b≠0 then rF b else if(atR a a.top).2≠0 then(atR a a.top).2 else if(atR b b.top).2≠0 then(atR b b.top).2 else if 24<(CV a b).length then 4 else 0
theorem Y0(h1c:Y2)(a b:Md)(ha:Bd a)(hb:Bd b):ZQ 7 [a.av,b.av] [] (.int .i64 (ckM a b)) []:=by have ca:=O1 h1c a ha.x ha.b _ rfl;have cb:=O1 h1c b hb.x hb.b _ rfl;have ce:=b0k a b (by have:=ha.evs;omega) (by have:=hb.evs;omega);by_cases e1:rF a≠0;{rw[show ckM a b=rF a from aG e1];generalize rF a=e at *;refine ZN Tryz.func7 λhok=>?_;refine .zW ca ?_;refine aQ (λ_=>?_) (λg=>absurd e1 g);refine ZW ?_;exact ZX};have e1:rF a=0:=(by simpa using e1);have ma:=vZ e1;have ra:=b5y a ma ha.b a.top _ rfl;by_cases e2:rF b≠0;{rw[show ckM a b=rF b from(aB (by rw[e1];simp)).trans (aG e2)];rw[e1]at ca;generalize rF b=e at *;refine ZN Tryz.func7 λhok=>?_;refine .zW ca ?_;refine aQ (λg=>absurd rfl g) (λ_=>ZW ?_);refine .zW cb ?_;refine aQ (λ_=>?_) (λg=>absurd e2 g);refine ZW ?_;exact ZX};have e2:rF b=0:=(by simpa using e2);have mb:=vZ e2;have rb:=b5y b mb hb.b b.top _ rfl;have ck:ckM a b=if(atR a a.top).2≠0 then(atR a a.top).2 else if(atR b b.top).2≠0 then(atR b b.top).2 else if 24<(CV a b).length then 4 else 0:=(aB (by rw[e1];simp)).trans (aB (by rw[e2];simp));rw[ck];rw[e1]at ca;rw[e2]at cb;clear ck e1 e2;generalize atR a a.top=fa at *;generalize atR b b.top=fb at *;obtain⟨fa,ea⟩:=fa;obtain⟨fb,eb⟩:=fb;generalize CV a b=es at *;dsimp only at *;refine ZN Tryz.func7 λhok=>?_;refine .zW ca ?_;refine aQ (λg=>absurd rfl g) (λ_=>ZW ?_);refine .zW cb ?_;refine aQ (λg=>absurd rfl g) (λ_=>ZW ?_);refine .zW ra ?_;constructor<;>intro g;{rw[aG g];refine ZW ?_;exact ZX};rw[aB g];refine ZW ?_;refine .zW rb ?_;constructor<;>intro g;{rw[aG g];refine ZW ?_;exact ZX};rw[aB g];refine ZW ?_;refine .zW ce ?_;constructor<;>intro g;{rw[aG (by simp only[aC]at g;omega)];refine ZW ?_;exact ZX};rw[aB (by simp only[aC]at g;omega)];refine ZW ?_;exact ZX
abbrev cmR(p q r e:List Str)(d:Df):AV:=.ag [sL p,sL q,sL r,sL e,d.av]
def toE(E:List Str)(s:Str):Int:=yJ (λy=>decide (s=y)) E
theorem a5c{E:List Str}{s:Str}(h:s∈E):∃(i:Nat) (hi:i<E.length),toE E s=i/\E[i]=s/\∀(j:Nat) (hj:j<i),E[j]≠s:=by rcases zH (λy=>decide (s=y)) E with⟨_,h2⟩|⟨i,hi,e,h1,h2⟩;{have:=h2 _ h;simp at this};exact⟨i,hi,e,(eF h1).symm,λj hj h3=>by have:=jK (h2 j hj);exact this h3.symm⟩
theorem SH{m:Md}(hM:J9 m)(h0:(atR m m.top).2=0):Om (atR m m.top).1/\(atR m m.top).1.vars=m.evs.length:=by unfold atR at *;split at h0;{rename_i h;exact absurd h0 h};split at h0;{cases h0};rename_i h1 h2;rw[aB h1,aB h2];exact⟨b7b hM hM.top (by simpa using h2),rfl⟩
def AtT(m:Md)(s:Str):Tg->Prop
 | .ev x=>∃(i:Nat) (h:i<m.evs.length),uV m (-1) s=(0,0,(i:Int))/\m.evs[i]=x
 | .hs x=>∃(i:Nat) (h:i<m.hs.length),uV m (-1) s=(1,0,(i:Int))/\m.hs[i]=x
 | .gt x=>∃(i:Nat) (h:i<m.gates.length),uV m (-1) s=(2,-1,(i:Int))/\m.gates[i]=x
abbrev SS(l:List Str):Prop:=l.Pairwise (· < ·)
theorem b5P{x y:Str}:Op.bytesLess x y=true↔x<y:=by rw[Go.Proofs.bytesLess_eq,lU]
theorem SS.nodup{l:List Str}(h:SS l):l.Nodup:=h.imp λh e=>by subst e;exact List.lt_irrefl _ h
theorem SS.ext{l m:List Str}(h:SS l)(h':SS m)(e:∀x,x∈l↔x∈m):l=m:=by have hp:l.Perm m:=(List.perm_ext_iff_of_nodup h.nodup h'.nodup).2 e;exact List.Perm.eq_of_pairwise (le:=λa b=>a<=b) (λa b _ _ h1 h2=>lu h1 h2) (h.imp λh=>List.le_of_lt h) (h'.imp λh=>List.le_of_lt h) hp
theorem a5j{x y:Str}(h:¬x<y)(hn:x≠y):y<x:=by rcases List.le_total x y with h1|h1;{exfalso;exact hn (lu h1 (List.not_lt.1 h))};apply aS;intro h2;exact hn (lu (List.not_lt.1 h2) h1)
theorem YJ{s x:Str}{l:List Str}(h:x<s):RJ s (x::l)=RJ s l+1:=aG (b5P.2 h)
theorem NU{s x:Str}{l:List Str}(h:¬x<s):RJ s (x::l)=0:=aB (λg=>h (b5P.1 g))
theorem ZY{x s:Str}{l:List Str}(h:x<s):Ai (x::l) s=x::Ai l s:=by unfold Ai;rw[YJ h];simp only[dV,jk,nM];split <;> simp
theorem WZ(s:Str):∀(l:List Str) (x:Str),x∈Ai l s↔x∈l\/x=s
 | [],x=>by simp[Ai,RJ]
 |y::l,x=>by by_cases h:y<s;{rw[ZY h,aU,WZ s l x,aU,or_assoc]};unfold Ai;rw[NU h];simp only[dX,kC,fG,fE];split;{rename_i e;obtain rfl:=aW e;constructor;{exact .inl};rintro(h|rfl);{exact h};exact dD};show x∈s::(y::l)↔_;rw[aU,or_comm]
theorem a6k(s:Str):∀{l:List Str},SS l->SS (Ai l s)
 | [],_=>by simp[Ai,RJ]
 |y::l,hs=>by rw[SS,eY]at hs;by_cases h:y<s;{rw[ZY h,SS,eY];refine⟨λz hz=>?_,a6k s hs.2⟩;rcases(WZ s l z).1 hz with hz|rfl;{exact hs.1 z hz};exact h};unfold Ai;rw[NU h];simp only[dX,kC,fG,fE];split;{rw[SS,eY];exact hs};rename_i e;have hlt:s<y:=a5j h λg=>e (by rw[g]);show SS (s::(y::l));rw[SS,eY];refine⟨λz hz=>?_,by rw[eY];exact hs⟩;rcases aU.1 hz with rfl|hz;{exact hlt};exact List.lt_trans hlt (hs.1 z hz)
theorem Na:∀(m:List Str) {l:List Str},SS l->SS (m.foldl Ai l)
 | [],_,h=>h
 |x::m,_,h=>Na m (a6k x h)
theorem Jg:∀(m l:List Str) (x:Str),x∈m.foldl Ai l↔x∈l\/x∈m
 | [],l,x=>ak
 |y::m,l,x=>by rw[fA,Jg m,WZ,aU,or_assoc]
theorem a1u(a b:Md):SS (CV a b):=Na _ (Na _ List.Pairwise.nil)
theorem Lp(a b:Md)(x:Str):x∈CV a b↔x∈BM a\/x∈BM b:=by unfold CV;rw[Jg,Jg];simp
theorem Va(m:Md):SS (b1n m):=Na _ (Na _ (Na _ List.Pairwise.nil))
theorem LX(m:Md)(x:Str):x∈b1n m↔x∈(zl m).map (·.1):=by unfold b1n;rw[Jg,Jg,Jg];simp[zl,thE,thH,thG,or_assoc]
theorem Gj(l:List Str)(x:Str):x∈sortL l↔x∈l:=(nK l _).mem_iff
theorem VI(l:List Str):(sortL l).Pairwise (· <= ·):=by have:=List.pairwise_mergeSort (le:=λx y:Str=>decide (x<=y)) (λa b c h1 h2=>by simp only[bT]at *;exact List.le_trans h1 h2) (λa b=>by simp only[fP,bT];exact List.le_total a b) l;exact this.imp λh=>eF h
theorem lt_of_le_ne{x y:Str}(h:x<=y)(hn:x≠y):x<y:=by apply aS;intro g;exact hn (lu h (List.not_lt.1 g))
theorem PI{l:List Str}(h:l.Nodup):SS (sortL l):=by have h1:=VI l;have h2:(sortL l).Nodup:=(nK l _).nodup_iff.2 h;exact(h1.and h2).imp fun⟨a,b⟩=>lt_of_le_ne a b
theorem XA(l:List Str):∀m,(hm:m<=l.length)->l.Pairwise (· <= ·)->SS (Go.Lib.compactUpTo l.toArray m)/\(∀x,x∈Go.Lib.compactUpTo l.toArray m↔x∈l.take m)
 | 0,_,_=>by simp[Go.Lib.compactUpTo]
 | m+1,hm,hl=>by
   obtain⟨h1,h2⟩:=XA l m aj hl;have hml:m<l.length:=aj;have hg:l.toArray[m]! = l[m]:=(by simp[hml]);have ht:l.take (m+1)=l.take m++[l[m]]:=bV hml;rw[Go.Lib.compactUpTo_succ,hg];have hle:∀x∈l.take m,x<=l[m]:=by
    intro x hx;have:(l.take m++[l[m]]).Pairwise (· <= ·):=by rw[<- ht];exact hl.sublist (List.take_sublist _ _)
    exact(nG.1 this).2.2 x hx _ ak
   cases hk:Go.Lib.keeps l.toArray m with
   | true =>
     rw[aG rfl];refine⟨nG.2 ⟨h1,ak,λx hx y hy=>?_⟩,λx=>by rw[ht,dM,dM,h2]⟩;obtain rfl:y=l[m]:=(by simpa using hy);have hx':=(h2 x).1 hx;refine lt_of_le_ne (hle x hx') λe=>?_;unfold Go.Lib.keeps at hk;have hk:=eF hk;rcases hk with rfl|hk;{simp at hx'};cases m with
     |zero=>simp at hx'
     |succ m =>rw[hg,Nat.add_sub_cancel]at hk;have hm2:m<l.length:=aj;rw[show l.toArray[m]! = l[m] by simp[hm2]]at hk;have hp:=fO.1 hl;obtain⟨j,hj,e2⟩:=dN hx';rw[kW]at e2;rw[dh]at hj;have hjm:l[j]<=l[m]:=(by rcases lT j m with h|h;{exact hp j m aj hm2 h};obtain rfl:j=m:=aj;exact List.le_refl _);have h3:=hp m (m+1) hm2 hml aj;rw[e2,e]at hjm;exact hk (lu hjm h3)
   |false =>rw[aB ak,iM];refine⟨h1,λx=>?_⟩;rw[h2,ht,dM];constructor;{exact .inl};rintro(h|h);{exact h};obtain rfl:x=l[m]:=(by simpa using h);unfold Go.Lib.keeps at hk;have hk:=jK hk;have hm0:m≠0:=λe=>hk (.inl e);have e:l[m]=l.toArray[m-1]!:=(by apply aS;intro g;exact hk (.inr (by rw[hg];exact g)));rw[e,show l.toArray[m-1]! = l[m-1] by simp[show m-1<l.length by omega]];exact List.mem_take_iff_getElem.2 ⟨m-1,aj,rfl⟩
theorem b5n{l:List Str}(h:l.Pairwise (· <= ·)):SS (XB l):=(XA l l.length (aT _) h).1
theorem b2Z{l:List Str}(h:l.Pairwise (· <= ·))(x:Str):x∈XB l↔x∈l:=by have:=(XA l l.length (aT _) h).2 x;rwa[bn]at this
theorem b5f(a b:Md):XB (sortL (BM a++BM b))=CV a b :=
 (b5n (VI _)).ext (a1u a b) λx=>by rw[b2Z (VI _),Gj,Lp,dM]
structure WsM(m:Md):Prop where
 evs:∀x∈m.evs,(Ws x.p.num/\Ws x.p.den)/\(Ws x.fail.num/\Ws x.fail.den)/\(Ws x.repair.num/\Ws x.repair.den)
 gts:∀x∈m.gates,Ws x.zi.num/\Ws x.zi.den
theorem WsM.ok{m:Md}(h:Ok m.av):WsM m:=by obtain⟨_,_,h1,_,h2,_⟩:=h;have hr:∀x:Rat,Ok x.av->Ws x.num/\Ws x.den:=λx hx=>⟨Ws.ok hx.2.1.2,Ws.ok hx.2.2.1.2⟩;constructor;{intro x hx;have:=J8 h1.2 x hx;exact⟨hr _ this.2.1,hr _ this.2.2.1,hr _ this.2.2.2.1⟩};intro x hx;have:=J8 h2.2 x hx;exact hr _ this.2.2.2.2.1
theorem a2J{α:Type}{f:α->Str}{l:List α}{k:Nat}(hk:k<l.length)(h:¬yJ (λx=>decide (f x=f l[k])) l<k):yJ (λx=>decide (f x=f l[k])) l=k:=by have h2:=(JM (p:=λx=>decide (f x=f l[k])) hk ak).2;omega
theorem W9{α:Type}{f:α->Str}{l:List α}{s:Str}(h:¬0<=yJ (λx=>decide (f x=s)) l):∀x∈l,f x≠s:=by intro x hx e;rcases zH (λx=>decide (f x=s)) l with⟨_,h2⟩|⟨i,_,h1,_⟩;{have:=jK (h2 x hx);exact this e};omega
theorem RH{α:Type}{f:α->Str}{l:List α}(h:∀(k:Nat) (hk:k<l.length),yJ (λx=>decide (f x=f l[k])) l=k):(l.map f).Nodup:=by rw[List.nodup_iff_pairwise_ne,fO];intro i j hi hj hij e;rw[kF,kF]at e;have h1:=h i (by simpa using hi);have h2:=h j (by simpa using hj);rw[e]at h1;omega
structure Yo(m:Md):Prop where
 nodup:((zl m).map (·.1)).Nodup
 atT:∀e∈zl m,AtT m e.1 e.2
 b58:∀e∈zl m,EH e.1=false
 ok:∀e∈zl m,b3V e.2
theorem UD{x:Rat}(h:valid x=true)(hw:Ws x.num/\Ws x.den)(hs:AY x):b3X x:=⟨h,hw.1,hw.2,by have:=hs.1;omega,by have:=hs.2;omega⟩
theorem b55{m:Md}(hM:J9 m)(hX:MdX m)(hB:KI m)(hW:WsM m):Yo m:=by
 obtain⟨_,_,he,hh⟩:=wI hM.evs;have hg:=λk hk=>hM.gate (a:=-1) (.inl rfl) (k:=k) hk;rw[show qO m (-1)=m.gates from rfl]at hg;have he2:∀(k:Nat) (hk:k<m.evs.length),sV (m.evs[k]).name=true/\rM m.evs (m.evs[k]).name=k/\yK (m.evs[k]).p=true/\Dy (m.evs[k]).fail=true/\Dy (m.evs[k]).repair=true:=(by intro k hk;have:=he k hk;unfold xZ at this;split at this;{cases this};split at this;{cases this};split at this;{cases this};split at this;{cases this};split at this;{cases this};rename_i h1 h2 h3 h4 h5;exact⟨by simpa using h1,a2J hk h2,by simpa using h3,by simpa using h4,by simpa using h5⟩);have hh2:∀(k:Nat) (hk:k<m.hs.length),sV (m.hs[k]).name=true/\¬0<=rM m.evs (m.hs[k]).name/\tN m.hs (m.hs[k]).name=k:=(by intro k hk;have:=hh k hk;unfold BR at this;split at this;{cases this};split at this;{cases this};split at this;{cases this};rename_i h1 h2 h3;exact⟨by simpa using h1,h2,a2J hk h3⟩);have hg2:∀(k:Nat) (hk:k<m.gates.length),tX m.gates (m.gates[k]).name=k:=λk hk=>hM.a9r (a:=-1) (.inl rfl) (k:=k) hk;have mem:∀e∈zl m,(∃(i:Nat) (h:i<m.evs.length),e=((m.evs[i]).name,Tg.ev m.evs[i]))\/(∃(i:Nat) (h:i<m.hs.length),e=((m.hs[i]).name,Tg.hs m.hs[i]))\/(∃(i:Nat) (h:i<m.gates.length),e=((m.gates[i]).name,Tg.gt m.gates[i])):=(by intro e h;simp only[zl,thE,thH,thG,dM,bg]at h;rcases h with(⟨x,hx,rfl⟩|⟨x,hx,rfl⟩)|⟨x,hx,rfl⟩;{obtain⟨i,hi,rfl⟩:=dN hx;exact .inl ⟨i,hi,rfl⟩};{obtain⟨i,hi,rfl⟩:=dN hx;exact .inr (.inl ⟨i,hi,rfl⟩)};obtain⟨i,hi,rfl⟩:=dN hx;exact .inr (.inr ⟨i,hi,rfl⟩));have na:∀e∈zl m,EH e.1=false:=(by intro e h;rcases mem e h with⟨i,hi,rfl⟩|⟨i,hi,rfl⟩|⟨i,hi,rfl⟩;{exact BG (he2 i hi).1};{exact BG (hh2 i hi).1};exact BG (hg i hi).name);refine⟨?_,?_,na,?_⟩;{unfold zl thE thH thG;rw[aV,aV,gZ,gZ,gZ];show(((m.evs.map λx=>x.name)++(m.hs.map λx=>x.name))++(m.gates.map λx=>x.name)).Nodup;rw[fQ,fQ];refine⟨⟨RH λk hk=>(he2 k hk).2.1,RH λk hk=>(hh2 k hk).2.2,?_⟩,RH hg2,?_⟩;{intro x hx y hy e;subst e;obtain⟨u,hu,e1⟩:=bg.1 hx;obtain⟨v,hv,e2⟩:=bg.1 hy;obtain⟨k,hk,rfl⟩:=dN hv;exact W9 (hh2 k hk).2.1 u hu (e1.trans e2.symm)};intro x hx y hy e;subst e;obtain⟨v,hv,e2⟩:=bg.1 hy;obtain⟨k,hk,rfl⟩:=dN hv;have g1:=(hg k hk).b6x;have g2:=(hg k hk).b6w;rcases dM.1 hx with hx|hx;{obtain⟨u,hu,e1⟩:=bg.1 hx;exact W9 (f:=Ev.name) (by unfold rM at g1;omega) u hu (e1.trans e2.symm)};obtain⟨u,hu,e1⟩:=bg.1 hx;exact W9 (f:=Hs.name) (by unfold tN at g2;omega) u hu (e1.trans e2.symm)};{intro e h;have hna:=na e h;rcases mem e h with⟨i,hi,rfl⟩|⟨i,hi,rfl⟩|⟨i,hi,rfl⟩;{refine⟨i,hi,?_,rfl⟩;have:=(he2 i hi).2.1;unfold uV;rw[aB (by rw[hna];simp)];unfold zZ;rw[this,aG aj]};{refine⟨i,hi,?_,rfl⟩;have h1:=(hh2 i hi).2.1;have h2:=(hh2 i hi).2.2;unfold uV;rw[aB (by rw[hna];simp)];unfold zZ;rw[aB h1,h2,aG aj]};refine⟨i,hi,?_,rfl⟩;have h1:=(hg i hi).b6x;have h2:=(hg i hi).b6w;have h3:=hg2 i hi;unfold uV;rw[aB (by rw[hna];simp)];unfold zZ;dsimp only;rw[show qO m (-1)=m.gates from rfl,aB aj,aB aj,h3,aG aj]};intro e h;rcases mem e h with⟨i,hi,rfl⟩|⟨i,hi,rfl⟩|⟨i,hi,rfl⟩;{obtain⟨_,_,p1,p2,p3⟩:=he2 i hi;obtain⟨w1,w2,w3⟩:=hW.evs _ (aN hi);obtain⟨s1,s2,s3⟩:=hX.evs _ (aN hi);unfold yK at p1;unfold Dy at p2 p3;simp only[aK]at p1 p2 p3;exact⟨UD p1.1.1 w1 s1,UD p2.1 w2 s2,UD p3.1 w3 s3⟩};{trivial};have g:=(hg i hi).own;have w:=hW.gts _ (aN hi);have s:=hX.gates _ (aN hi);have l:=hB.gates.2 _ (aN hi);refine⟨UD ?_ w s,aj⟩;unfold uQ at g;split at g;{cases g};split at g;{cases g};split at g;{cases g};split at g;{cases g};split at g;{cases g};split at g;{cases g};split at g;{cases g};rename_i h6 h7;by_cases hk:(m.gates[i]).kind=7
 ·have:yK (m.gates[i]).zi=true:=by
   cases hp:yK (m.gates[i]).zi with
   |true=>rfl
   |false=>exact absurd ⟨hk,hp⟩ h6
  unfold yK at this;simp only[aK]at this;exact this.1.1
 have:FK (m.gates[i]).zi=true:=by
  cases hp:FK (m.gates[i]).zi with
  |true=>rfl
  |false=>exact absurd ⟨hk,hp⟩ h7
 unfold FK at this;simp only[aK,bT,jJ]at this;unfold valid;rw[aG ⟨this.1.2,this.2⟩];exact this.1.1
theorem WM{es:MT}{x:Str}{t:Tg}(h:BQ es x=some t):(x,t)∈es:=by
 induction es with
 |nil=>cases h
 |cons e es ih =>obtain⟨y,v⟩:=e;simp only[BQ]at h;split at h;{rename_i hy;subst hy;cases h;exact dD};exact cZ _ (ih h)
theorem WO{es:MT}{x:Str}:BQ es x=none↔x ∉ es.map (·.1):=by
 induction es with
 |nil=>simp[BQ]
 |cons e es ih =>obtain⟨y,v⟩:=e;simp only[BQ,dF,aU];split;{rename_i hy;subst hy;simp};rename_i hy;rw[ih];constructor;{rintro h (rfl|h');{exact hy rfl};exact h h'};exact λh h'=>h (.inr h')
theorem a6a{es:MT}(hd:(es.map (·.1)).Nodup){x:Str}{t:Tg}(h:(x,t)∈es):BQ es x=some t:=by
 induction es with
 |nil=>cases h
 |cons e es ih =>obtain⟨y,v⟩:=e;rw[dF,lJ]at hd;simp only[BQ];rcases aU.1 h with h|h;{cases h;rw[aG rfl]};rw[aB (λe=>hd.1 (by rw[e];exact lN (f:=(·.1)) h)),ih hd.2 h]
theorem b0N{v:Int}{ns E:List Str}(hv:v=ns.length)(hm:∀s∈ns,s∈E){a:Int}{k:Nat}(h0:0<=a)(h1:a<v+k):0<=ovI v ns E a/\ovI v ns E a<(E.length:Int)+k:=by unfold ovI;split;{have ha:a.toNat<ns.length:=aj;have hs:ns.getD a.toNat []∈E:=(by rw[aF,aH ha];exact hm _ (aN ha));obtain⟨i,hi,e,_⟩:=a5c hs;unfold toE at e;omega};omega
theorem b0O{f:Fo}{ns E:List Str}(h:Om f)(hv:f.vars=ns.length)(hm:∀s∈ns,s∈E)(hE:E.length<=24):Om (ovF f ns E):=by obtain⟨h1,h2,h3,h4⟩:=h;refine⟨⟨by show(0:Int)<=(E.length:Int);omega,by show(E.length:Int)<=24;omega⟩,by show(f.nodes.map _).length<=128;rw[aC];exact h2,λi hi=>?_,?_⟩;{have hi':i<f.nodes.length:=(by have:i<(f.nodes.map (ovN f.vars ns E)).length:=hi;rwa[aC]at this);have g:=h3 i hi';have e:(ovF f ns E).nodes[i]=ovN f.vars ns E f.nodes[i]:=kF _;rw[e];refine⟨g.kind,?_,?_,?_⟩;{have:=g.num;simpa[ovN]using this};{intro a ha;obtain⟨a',ha',rfl⟩:=bg.1 ha;have:=g.args a' ha';exact b0N hv hm this.1 this.2};have:=g.k;simpa[ovN]using this};have:=b0N (k:=f.nodes.length) hv hm h4.1 h4.2;show 0<=ovI f.vars ns E f.top/\ovI f.vars ns E f.top<(E.length:Int)+((f.nodes.map _).length:Nat);rw[aC];exact this
def YI(a b:Md):List Str:=(b1n b).filter λs=>!(b1n a).contains s
def b5q(a b:Md)(chg:Str->Bool):List Str:=(b1n b).filter λs=>(b1n a).contains s&&chg s
def b5i(a b:Md):Df:=Jm (ovF (atR a a.top).1 (BM a) (CV a b)) (ovF (atR b b.top).1 (BM b) (CV a b))
theorem a4b{v:Int}{i:Nat}{x:Nd}(h:NK v i x):zk v i x=0:=by have hn:=h.num;have hk:=h.k;have e2:Wp x.kind x.args.length=true:=(by unfold Wp;split;{rename_i e;rw[aG e]at hn;simpa using hn};rename_i e;rw[aB e]at hn;split;{rename_i e;rw[aG e]at hn;simpa using hn};rename_i e;rw[aB e]at hn;simpa using hn);have e3:¬x.args.any (b0r v i)=true:=(by rw[gB];rintro⟨a,ha,hb⟩;have:=h.args a ha;unfold b0r at hb;have:=eF hb;omega);unfold zk;rw[aB (by have:=h.kind;omega),aB (by rw[e2];simp),aB e3];unfold b2v;split;{rename_i e;rw[aG e]at hk;rw[aB aj]};rename_i e;rw[aB e]at hk;split;{rename_i e;rw[aG e]at hk;rw[aB aj]};rename_i e;rw[aB e]at hk;rw[aB aj]
theorem TK{v:Int}:∀(l:List Nd) (i:Nat),(∀(k:Nat) (h:k<l.length),NK v (i+k) l[k])->DF v i l=0
 | [],_,_=>rfl
 |x::l,i,h=>by unfold DF;have h0:NK v i x:=h 0 ak;rw[aB (by rw[a4b h0];simp)];exact TK l (i+1) λk hk=>by have:=h (k+1) (by simpa using hk);rw[show i+(k+1)=i+1+k by omega]at this;exact this
theorem Xg{f:Fo}(h:Om f):Bg f=0:=by obtain⟨h1,h2,h3,h4⟩:=h;unfold Bg;rw[aB aj,aB aj,aB (by rw[TK f.nodes 0 λk hk=>by rw[bH];exact h3 k hk];simp),aB aj]
theorem a1D{a b:Fo}(ha:Om a)(hb:Om b)(hv:a.vars=b.vars):zo a b=0:=by unfold zo;rw[aB (by rw[Xg ha];simp),aB (by rw[Xg hb];simp),aB (λh=>h hv)]
theorem a4C(a b:Md)(ma:J9 a)(mb:J9 b)(e1:(atR a a.top).2=0)(e2:(atR b b.top).2=0)(hE:(CV a b).length<=10) :
  ZQ 17 [(ovF (atR a a.top).1 (BM a) (CV a b)).av,(ovF (atR b b.top).1 (BM b) (CV a b)).av] [] (.uy [(b5i a b).av,.vK]) []:=by
 obtain⟨f1,v1⟩:=SH ma e1;obtain⟨f2,v2⟩:=SH mb e2;have m1:∀s∈BM a,s∈CV a b:=λs hs=>(Lp a b s).2 (.inl hs);have m2:∀s∈BM b,s∈CV a b:=λs hs=>(Lp a b s).2 (.inr hs);exact a0I _ _ (a1D (b0O f1 (by rw[v1];simp[BM]) m1 aj) (b0O f2 (by rw[v2];simp[BM]) m2 aj) rfl) (by show((CV a b).length:Int)<=10;omega)
open Classical in
noncomputable def b4g(a b:Md)(s:Str):Bool:=match BQ (zl a) s,BQ (zl b) s with
 |some x,some y=>decide (¬FM x y)
 |_,_=>false
def Qa(m:MT)(e:Str×Tg):Bool:=(BQ m e.1).isNone
open Classical in
noncomputable def cgB(m:MT)(e:Str×Tg):Bool:=match BQ m e.1 with
 |some x=>decide (¬FM e.2 x)
 |none=>false
abbrev nms(q:MT):List Str:=q.map (·.1)
theorem a3Q(x y:Tg):FM x y↔FM y x:=by cases x <;> cases y <;> simp only[FM] <;> constructor <;> (intro h;simp[h])
theorem Zz{q:MT}(h:(nms q).Nodup)(p:Str×Tg->Bool):(nms (q.filter p)).Nodup:=(List.filter_sublist.map _).nodup h
theorem Zd{a b:Md}(tb:Yo b){A:List Str}(h:A.Perm (nms ((zl b).filter (Qa (zl a))))):sortL A=YI a b:=by refine SS.ext (PI (h.nodup_iff.2 (Zz tb.nodup _))) ((Va b).filter _) λx=>?_;rw[Gj,h.mem_iff];unfold YI;rw[dZ,LX,bg];simp only[dZ,dU,List.contains_eq_mem,decide_eq_false_iff_not,LX,bg (l:=zl b)];constructor;{rintro⟨e,⟨he,h2⟩,rfl⟩;exact⟨⟨e,he,rfl⟩,WO.1 (Option.isNone_iff_eq_none.1 h2)⟩};rintro⟨⟨e,he,rfl⟩,h2⟩;exact⟨e,⟨he,Option.isNone_iff_eq_none.2 (WO.2 h2)⟩,rfl⟩
theorem a5l{a b:Md}(tb:Yo b){A:List Str}(h:A.Perm (nms ((zl b).filter (cgB (zl a))))):sortL A=b5q a b (b4g a b):=by
 refine SS.ext (PI (h.nodup_iff.2 (Zz tb.nodup _))) ((Va b).filter _) λx=>?_;have hc:∀e∈zl b,(cgB (zl a) e=true↔e.1∈(zl a).map (·.1)/\b4g a b e.1=true):=by
  intro e he;unfold cgB b4g;rw[a6a tb.nodup he];cases hl:BQ (zl a) e.1 with
  |none =>constructor;{exact λg=>nomatch g};exact λg=>nomatch g.2
  |some x =>have hm:e.1∈(zl a).map (·.1):=lN (f:=(·.1)) (WM hl);simp only[bT];rw[a3Q e.2 x];exact⟨λg=>⟨hm,g⟩,λg=>g.2⟩
 rw[Gj,h.mem_iff];unfold b5q;rw[dZ,LX,bg];simp only[dZ,aK,List.contains_eq_mem,bT,LX,bg (l:=zl b)];constructor;{rintro⟨e,⟨he,h2⟩,rfl⟩;exact⟨⟨e,he,rfl⟩,(hc e he).1 h2⟩};rintro⟨⟨e,he,rfl⟩,h2⟩;exact⟨e,⟨he,(hc e he).2 h2⟩,rfl⟩
theorem ZK{m:Md}(h:J9 m):∀s∈BM m,s.length<=24:=by obtain⟨_,_,he,_⟩:=wI h.evs;intro s hs;obtain⟨x,hx,rfl⟩:=bg.1 hs;obtain⟨k,hk,rfl⟩:=dN hx;have:=he k hk;unfold xZ at this;split at this;{cases this};rename_i e;have hn:sV m.evs[k].name=true:=(by simpa using e);unfold sV at hn;simp only[aK,bT]at hn;exact hn.1.1.2
theorem a0n{p:MT}{k v:AV}{rest:List (AV×AV)}(h:(DR p).Perm ((k,v)::rest)):∃e q,p.Perm (e::q)/\k=.str e.1/\v=e.2.av/\(DR q).Perm rest:=by have hm:(k,v)∈DR p:=h.mem_iff.2 dD;obtain⟨e,he,h1⟩:=bg.1 hm;obtain⟨s,t,rfl⟩:=List.append_of_mem he;have hp:(s++e::t).Perm (e::(s++t)):=List.perm_middle;have h2:=(hp.map λe:Str×Tg=>(AV.str e.1,e.2.av)).symm.trans h;rw[dF,h1]at h2;exact⟨e,s++t,hp,(kR Prod.fst h1).symm,(kR Prod.snd h1).symm,h2.cons_inv⟩
theorem PD(n:Nat)(G:Heap):∀X:Heap,CJ [] n G X=X
 | []=>rfl
 |(i,o)::X=>by show(i,o)::CJ [] n G X=_;rw[PD n G X]
theorem b2R(σ:Nat->Nat)(M:MT):zQ σ (DR M)=DR M:=a5x (m:=0) (λ_ h=>absurd h (gW _)) _ (yN 0 M)
theorem Za{m:Md}{M:MT}(h:ZQ 30 [m.av] [] (.mp 1) [(1,.tY (.str []) (DR M)),(0,.gone)])(k:Nat)(o:HO)(X:Heap) :
  ZQ 30 [m.av] ((k,o)::X) (.mp (k+2)) ((k+2,.tY (.str []) (DR M))::(k+1,.gone)::(k,o)::X):=by
 have q:=qZ.frame (H:=(k,o)::X) [] h ⟨rfl,rfl,rfl,rfl⟩ trivial (rQ _);have e:Ri [] [(1,.tY (.str []) (DR M)),(0,.gone)] ((k,o)::X)=(k+2,.tY (.str []) (DR M))::(k+1,.gone)::(k,o)::X:=(by unfold Ri;rw[PD];show(k+2,HO.tY (.str []) (zQ _ (DR M)))::(k+1,.gone)::_=_;rw[b2R];rfl);rw[e]at q;exact q
theorem a9a{m:Md}{l:List Str}(h:ZQ 29 [m.av] [] (.sl 1 (l.map .str) (.own 1)) [(1,.tok 1 l.length),(0,.gone)])(k:Nat)(o:HO)(X:Heap) :
  ZQ 29 [m.av] ((k,o)::X) (.sl 1 (l.map .str) (.own (k+2))) ((k+2,.tok 1 l.length)::(k+1,.gone)::(k,o)::X):=by
 have q:=qZ.frame (H:=(k,o)::X) [] h ⟨rfl,rfl,rfl,rfl⟩ trivial (rQ _);have e:Ri [] [(1,.tok 1 l.length),(0,.gone)] ((k,o)::X)=(k+2,.tok 1 l.length)::(k+1,.gone)::(k,o)::X:=(by unfold Ri;rw[PD];rfl);rw[e]at q;exact q
theorem a5k{l l':List Str}(h:ZQ 27 [.fn 85 [.cp (sL l')]] [] (.gs 0 l.length) [(0,.uH 1 (l.map .str))])(k:Nat)(o:HO)(X:Heap) :
  ZQ 27 [.fn 85 [.cp (sL l')]] ((k,o)::X) (.gs (k+1) l.length) ((k+1,.uH 1 (l.map .str))::(k,o)::X):=by
 have q:=qZ.frame (H:=(k,o)::X) [] h ⟨rfl,rfl,rfl,rfl⟩ trivial (args:=[.fn 85 [.cp (sL l')]]) (rQ _);have e:Ri [] [(0,.uH 1 (l.map .str))] ((k,o)::X)=(k+1,.uH 1 (l.map .str))::(k,o)::X:=(by unfold Ri;rw[PD];rfl);rw[e]at q;exact q
structure Bw(m:Md):Prop where
 b:KI m
 c:MdC m
 x:MdX m
 evs:m.evs.length<=60
noncomputable def mdR(a b:Md):AV:=if ckM a b=0 then cmR (YI a b) (YI b a) (b5q a b (b4g a b)) (CV a b) (b5i a b)else .ag [.qV,.qV,.qV,.qV,zDf]
set_option maxHeartbeats 4000000 in
theorem a3r(a b:Md)(ha:Bw a)(hb:Bw b)(wa:WsM a)(wb:WsM b)(hE:ckM a b=0->(CV a b).length<=10):Uz Tryz.prog 9 [a.av,b.av] [] (λR H=>R=.uy [mdR a b,zh (ckM a b)]/\H=[]):=by
 have la:=ha.evs;have lb:=hb.evs;have k1:rF a≠0->ckM a b=rF a:=λh=>aG h;have k2:rF a=0->rF b≠0->ckM a b=rF b:=λe1 h=>(aB λg=>g e1).trans (aG h);have k3:rF a=0->rF b=0->(atR a a.top).2≠0->ckM a b=(atR a a.top).2:=λe1 e2 h=>(aB λg=>g e1).trans ((aB λg=>g e2).trans (aG h));have k4:rF a=0->rF b=0->(atR a a.top).2=0->(atR b b.top).2≠0->ckM a b=(atR b b.top).2:=λe1 e2 h1 h=>(aB λg=>g e1).trans ((aB λg=>g e2).trans ((aB λg=>g h1).trans (aG h)));have k5:rF a=0->rF b=0->(atR a a.top).2=0->(atR b b.top).2=0->ckM a b=if 24<(CV a b).length then 4 else 0:=λe1 e2 h1 h2=>(aB λg=>g e1).trans ((aB λg=>g e2).trans ((aB λg=>g h1).trans (aB λg=>g h2)));have ck1:=Jo a ha.c ha.b _ rfl;have ck2:=Jo b hb.c hb.b _ rfl;have cs1:rF a=0->ZQ 25 [a.av] [] (.uy [(atR a a.top).1.av,zh (atR a a.top).2]) []:=λe1=>a3q a ha.c ha.b _ (by rw[VH e1]);have cs2:rF b=0->ZQ 25 [b.av] [] (.uy [(atR b b.top).1.av,zh (atR b b.top).2]) []:=λe2=>a3q b hb.c hb.b _ (by rw[VH e2]);have cn1:=a3p a aj;have cnT:=a7B a aj;have cn2:=a3p b aj;have el1:(BM a).length<=60:=(by unfold BM;rw[aC];exact la);have el2:(BM b).length<=60:=(by unfold BM;rw[aC];exact lb);have hEl:XB (sortL (BM a++BM b))=CV a b:=b5f a b;have cv:=a1F (BM a++BM b);have sl:(sortL (BM a++BM b)).length=(BM a++BM b).length:=iT _;have sle:(BM a++BM b).length<=120:=(by rw[bC];omega);have cso:=a9P (BM a++BM b) aj;rw[<- sl]at cso;have ccp:=fun(e1:rF a=0) (e2:rF b=0)=>a7z (sortL (BM a++BM b)) aj (λs hs=>by
  rcases dM.1 ((Gj _ _).1 hs)with h|h;{exact dI (ZK (vZ e1) s h) au};exact dI (ZK (vZ e2) s h) au)
 rw[hEl]at ccp;have co1:=fun(e1:rF a=0) (h1:(atR a a.top).2=0) (hE:(CV a b).length<=10)=>b1h (atR a a.top).1 (BM a) (CV a b) (SH (vZ e1) h1).1 (by rw[(SH (vZ e1) h1).2];simp[BM]) aj;have co2:=fun(e2:rF b=0) (h2:(atR b b.top).2=0) (hE:(CV a b).length<=10)=>b1h (atR b b.top).1 (BM b) (CV a b) (SH (vZ e2) h2).1 (by rw[(SH (vZ e2) h2).2];simp[BM]) aj;have ta:=λe1:rF a=0=>b55 (vZ e1) ha.x ha.b wa;have tb:=λe2:rF b=0=>b55 (vZ e2) hb.x hb.b wb;have ct1:=λh=>a3d a aj (by have:=ha.b.hs;omega) (by have:=ha.b.gates.1;omega) (ta h).nodup;have ct2:=λh=>a3d b aj (by have:=hb.b.hs;omega) (by have:=hb.b.gates.1;omega) (tb h).nodup;have cC:=λe1 e2 h1 h2=>a4C a b (vZ e1) (vZ e2) h1 h2;unfold mdR;generalize CV a b=E at *;generalize b5i a b=D at *;generalize ovF (atR a a.top).1 (BM a) E=oa at *;generalize ovF (atR b b.top).1 (BM b) E=ob at *;generalize (atR a a.top).1=fa at *;generalize (atR b b.top).1=fb at *;generalize sortL (BM a++BM b)=srt at *;refine Uz.b40 (.s .n (.s (.f [0,1] .n) (.r 7 (.f (.f (.f (.m (.m (.o 6 (.f (.f (.f (.x .n)))))))))))) ) lay mixed Tryz.func9 (by kernel_rfl) rfl (by kernel_rfl) rfl λhok=>?_;refine Z0 ?_;refine⟨⟨rfl,rfl⟩,⟨rfl,rfl⟩,ZW ?_⟩;refine qW.step 2 ?_;refine ZW ?_;refine aQ (λ_=>?_) (λh=>absurd ak h);refine ZW ?_;refine Ce.mk ⟨_,⟨au,rfl⟩,ZW ?_⟩;by_cases e1:rF a=0;case neg =>
  rw[rY e1]at ck1;refine .zW ck1 ?_;refine ZW ?_;refine⟨.uy [.ag [.qV,.qV,.qV,.qV,zDf],.uY 49 (.int .i64 (rF a))],[],⟨by rw[k1 e1,aB e1,rY e1],rfl⟩,?_⟩;exact ZX
 rw[e1,rZ]at ck1;refine .zW ck1 ?_;refine ZG ?_;refine aQ (λ_=>?_) (λh=>absurd ak h);refine ZW ?_;refine Ce.mk ⟨_,⟨au,rfl⟩,ZW ?_⟩;by_cases e2:rF b=0;case neg =>
  rw[rY e2]at ck2;refine .zW ck2 ?_;refine ZW ?_;refine⟨.uy [.ag [.qV,.qV,.qV,.qV,zDf],.uY 49 (.int .i64 (rF b))],[],⟨by rw[k2 e1 e2,aB e2,rY e2],rfl⟩,?_⟩;exact ZX
 rw[e2,rZ]at ck2;refine .zW ck2 ?_;refine ZG ?_;refine aQ (λh=>absurd h ak) (λ_=>ZW ?_);refine qW.step 2 ?_;refine ZW ?_;refine aQ (λ_=>?_) (λh=>absurd ak h);refine ZW ?_;refine Ce.mk ⟨_,⟨au,rfl⟩,ZW ?_⟩;have cs1:=cs1 e1;by_cases h1:(atR a a.top).2=0;case neg =>
  rw[rY h1]at cs1;refine .zW cs1 ?_;refine ZW ?_;refine⟨.uy [.ag [.qV,.qV,.qV,.qV,zDf],.uY 49 (.int .i64 ((atR a a.top).2))],[],⟨by rw[k3 e1 e2 h1,aB h1,rY h1],rfl⟩,?_⟩;exact ZX
 rw[h1,rZ]at cs1;refine .zW cs1 ?_;refine⟨au,ZW ?_⟩;refine ZG ?_;refine aQ (λ_=>?_) (λh=>absurd ak h);refine ZW ?_;refine Ce.mk ⟨_,⟨au,rfl⟩,ZW ?_⟩;have cs2:=cs2 e2;by_cases h2:(atR b b.top).2=0;case neg =>
  rw[rY h2]at cs2;refine .zW cs2 ?_;refine ZW ?_;refine⟨.uy [.ag [.qV,.qV,.qV,.qV,zDf],.uY 49 (.int .i64 ((atR b b.top).2))],[],⟨by rw[k4 e1 e2 h1 h2,aB h2,rY h2],rfl⟩,?_⟩;exact ZX
 rw[h2,rZ]at cs2;refine .zW cs2 ?_;refine⟨au,ZW ?_⟩;refine ZG ?_;refine aQ (λh=>absurd h ak) (λ_=>ZW ?_);refine xG.mk ⟨[true,false,true,true,false,true,false,false,true,false],by kernel_rfl,?_⟩;conv=>whnf
 refine .gen _ _ (YP (a9a cnT _ _ _) ?_) λ_=>?_;{exact wk};conv=>whnf
 refine .zK cn2 ?_;refine⟨by rw[aC],.mk (by simp[maxL];omega) aA ?_⟩;rw[<- aV];conv=>whnf
 refine .zK cv ?_;refine .gen _ _ (YP (a5k cso _ _ _) ?_) λ_=>?_;{exact wk};conv=>whnf
 refine .gen _ _ (YP (qZ.frame [13] (ccp e1 e2) ⟨rfl,rfl,rfl,rfl⟩ ?_ (rQ _)) ?_) λ_=>?_;{exact wk};{exact wk};conv=>whnf
 have k5:=k5 e1 e2 h1 h2;constructor<;>intro g;{have k5:=k5.trans (aG (by simp at g;omega));refine ZW ?_;refine⟨.uy [.ag [.qV,.qV,.qV,.qV,zDf],.uY 49 (.int .i64 (4))],[],⟨by rw[k5,aB (by decide:(4:Int)≠0),rY (by decide:(4:Int)≠0)],rfl⟩,?_⟩;exact ZX};have k5:=k5.trans (aB (by simp at g;omega));rw[k5,aG rfl,rZ];have hE:=hE k5;have ta:=ta e1;have tb:=tb e2;have ct1:=ct1 e1;have ct2:=ct2 e2;have co1:=co1 e1 h1 hE;have co2:=co2 e2 h2 hE;have cC:=cC e1 e2 h1 h2 hE;refine ZW ?_;refine xG.mk ⟨[true,false,true,false,true,true],by kernel_rfl,?_⟩;conv=>whnf
 refine .gen _ _ (YP (Za ct1 _ _ _) ?_) λ_=>?_;{exact wk};conv=>whnf
 refine .gen _ _ (YP (Za ct2 _ _ _) ?_) λ_=>?_;{exact wk};refine ZW ?_;refine .grow 10 [0] 1 _ _ rfl rfl rfl (ZW ?_);refine .grow 10 [2] 1 _ _ rfl rfl rfl (ZW ?_);refine .grow 10 [1] 1 _ _ rfl rfl rfl (ZW ?_);refine⟨⟨17,84,85,86,88⟩,17,.str [],DR (zl b),{p:MT×MT // (p.1++p.2).Perm (zl b)},λi=>DR i.1.2,λ_=>[(15,.ptr 10 [] 0),(16,.mp 15),(17,.mp 17),(10,.ptr 5 [] 0),(4,.ptr 2 [] 0),(2,.cp a.av),(3,.cp b.av)],
  λi=>[(20,.uH 1 []),(19,.uH 1 ((nms (i.1.1.filter (cgB (zl a)))).map .str)),(18,.uH 1 ((nms (i.1.1.filter (Qa (zl a)))).map .str)),(17,.gone),(15,.tY (.str []) (DR (zl a))),(10,.box (.ag [.gs 18 (nms (i.1.1.filter (Qa (zl a)))).length,.gs 20 0,.gs 19 (nms (i.1.1.filter (cgB (zl a)))).length,sL E,zDf])),(5,.box (.ag [fa.av,fb.av])),(2,.box (.ag [.qV,.qV,.qV,.qV,zDf]))],
  ⟨⟨rfl,rfl,rfl⟩,⟨⟨_,rfl,_,_,Tryz.underlying84⟩,rfl,rfl⟩,⟨rfl,rfl,rfl⟩,⟨rfl,rfl,rfl⟩,⟨rfl,rfl,rfl⟩,⟨rfl,rfl,rfl,rfl,rfl⟩,by kernel_rfl,by kernel_rfl,by kernel_rfl⟩,rfl,rfl,⟨⟨([],zl b),.refl _⟩,rfl,aT 21,?_,.mk ?_ (by simp[uS])⟩,λ_=>rfl,?_,?_⟩
 ·exact wk
 ·repeat' first|exact Zq|apply aI
  all_goals first|exact qP _|exact yN _ _|skip
 ·rintro⟨⟨p1,p2⟩,hp⟩ b2E hz;have hz:p2=[]:=List.map_eq_nil_iff.1 hz;subst hz;have hp:p1.Perm (zl b):=by simpa using hp
  have hA:(nms (p1.filter (Qa (zl a)))).Perm (nms ((zl b).filter (Qa (zl a)))):=(hp.filter _).map _;have hC:(nms (p1.filter (cgB (zl a)))).Perm (nms ((zl b).filter (cgB (zl a)))):=(hp.filter _).map _;have hlen:p1.length<=300:=(by have:=hp.length_eq;simp only[zl,thE,thH,thG,bC,aC]at this;have:=hb.b.hs;have:=hb.b.gates.1;omega);have b1:(nms (p1.filter (Qa (zl a)))).length<=300:=(by rw[aC];exact dI (iw _ _) hlen);have b2:(nms (p1.filter (cgB (zl a)))).length<=300:=(by rw[aC];exact dI (iw _ _) hlen);clear b2E;dsimp only;generalize nms (p1.filter (Qa (zl a)))=A at *;generalize nms (p1.filter (cgB (zl a)))=C at *;clear hp hlen;refine ZW ?_;refine⟨⟨16,117,118,119,121⟩,15,.str [],DR (zl a),{p:MT×MT // (p.1++p.2).Perm (zl a)},λi=>DR i.1.2,λ_=>[(15,.ptr 10 [] 0),(16,.mp 15),(17,.mp 17),(10,.ptr 5 [] 0),(4,.ptr 2 [] 0),(2,.cp a.av),(3,.cp b.av)],
   λi=>[(20,.uH 1 ((nms (i.1.1.filter (Qa (zl b)))).map .str)),(19,.uH 1 (C.map .str)),(18,.uH 1 (A.map .str)),(17,.tY (.str []) (DR (zl b))),(15,.gone),(10,.box (.ag [.gs 18 A.length,.gs 20 (nms (i.1.1.filter (Qa (zl b)))).length,.gs 19 C.length,sL E,zDf])),(5,.box (.ag [fa.av,fb.av])),(2,.box (.ag [.qV,.qV,.qV,.qV,zDf]))],
   ⟨⟨rfl,rfl,rfl⟩,⟨⟨_,rfl,_,_,Tryz.underlying84⟩,rfl,rfl⟩,⟨rfl,rfl,rfl⟩,⟨rfl,rfl,rfl⟩,⟨rfl,rfl,rfl⟩,⟨rfl,rfl,rfl,rfl,rfl⟩,by kernel_rfl,by kernel_rfl,by kernel_rfl⟩,rfl,rfl,⟨⟨([],zl a),.refl _⟩,rfl,aT 21,?_,.mk ?_ (by simp[uS])⟩,λ_=>rfl,?_,?_⟩
  ·exact wk
  ·repeat' first|exact Zq|apply aI
   all_goals first|exact qP _|exact yN _ _|exact qX _|skip
  ·rintro⟨⟨p1,p2⟩,hp⟩ b2E hz;have hz:p2=[]:=List.map_eq_nil_iff.1 hz;subst hz;have hp:p1.Perm (zl a):=by simpa using hp
   have hB:(nms (p1.filter (Qa (zl b)))).Perm (nms ((zl a).filter (Qa (zl b)))):=(hp.filter _).map _;have hlen:p1.length<=300:=(by have:=hp.length_eq;simp only[zl,thE,thH,thG,bC,aC]at this;have:=ha.b.hs;have:=ha.b.gates.1;omega);have b3:(nms (p1.filter (Qa (zl b)))).length<=300:=(by rw[aC];exact dI (iw _ _) hlen);clear b2E hp hlen;dsimp only;generalize nms (p1.filter (Qa (zl b)))=B at *;have sA:=Nq A aj;have sB:=Nq B aj;have sC:=Nq C aj;have lA:A.length=((sortL A).map AV.str).length:=(by rw[aC];exact(iT _).symm);have lB:B.length=((sortL B).map AV.str).length:=(by rw[aC];exact(iT _).symm);have lC:C.length=((sortL C).map AV.str).length:=(by rw[aC];exact(iT _).symm);rw[Zd ta hB,Zd tb hA,a5l tb hC]at *;refine ZW ?_;refine⟨⟨93,33,138,140,142,143,18,19,20,A.length,C.length,B.length,rfl,rfl,rfl,rfl,⟨rfl,rfl,rfl⟩,⟨rfl,rfl⟩,ZW ?_⟩⟩;refine qW.step 3 ?_;refine ZW ?_;refine aQ (λ_=>?_) (λh=>absurd ak h);refine ZW ?_;refine⟨au,ZW ?_⟩;refine .gen _ _ (YP (qZ.frame [18] sA ⟨rfl,rfl,rfl,rfl⟩ ?_ (rQ _)) ?_) λ_=>?_;{exact wk};{exact wk};refine ZW ?_;refine ZG ?_;refine aQ (λ_=>?_) (λh=>absurd ak h);refine ZW ?_;refine⟨au,ZW ?_⟩;refine .gen _ _ (YP (qZ.frame [19] sC ⟨rfl,rfl,rfl,rfl⟩ ?_ (rQ _)) ?_) λ_=>?_;{exact wk};{exact wk};refine ZW ?_;refine ZG ?_;refine aQ (λ_=>?_) (λh=>absurd ak h);refine ZW ?_;refine⟨au,ZW ?_⟩;refine .gen _ _ (YP (qZ.frame [20] sB ⟨rfl,rfl,rfl,rfl⟩ ?_ (rQ _)) ?_) λ_=>?_;{exact wk};{exact wk};refine ZW ?_;refine ZG ?_;refine aQ (λh=>absurd h ak) (λ_=>ZW ?_);refine .YN 10 [0] 18 1 _ _ _ rfl (kR (λn=>some (AV.gs 18 n)) lA) rfl (by rw[<- lA];simp[maxL];omega) rfl (ZW ?_);refine .YN 10 [2] 19 1 _ _ _ rfl (kR (λn=>some (AV.gs 19 n)) lC) rfl (by rw[<- lC];simp[maxL];omega) rfl (ZW ?_);refine .YN 10 [1] 20 1 _ _ _ rfl (kR (λn=>some (AV.gs 20 n)) lB) rfl (by rw[<- lB];simp[maxL];omega) rfl (ZW ?_);refine ZR ?_;refine⟨au,?_⟩;conv=>whnf
   refine .zK cn1 ?_;refine .zK co1 ?_;refine⟨au,?_⟩;conv=>whnf
   refine .zK cn2 ?_;refine .zK co2 ?_;refine .zK cC ?_;refine⟨_,[],⟨rfl,rfl⟩,?_⟩;exact ZX
  rintro⟨⟨p1,p2⟩,hp⟩ k v rest b2E hperm;obtain⟨⟨nm,th⟩,q,hq,rfl,rfl,hrest⟩:=a0n hperm;have hq:p2.Perm ((nm,th)::q):=hq;have hp:(p1++p2).Perm (zl a):=hp;have hp':((p1++[(nm,th)])++q).Perm (zl a):=by refine List.Perm.trans ?_ hp;rw[bK];exact(hq.symm.append_left p1)
  have hlen:p1.length<=300:=(by have:=hp.length_eq;simp only[zl,thE,thH,thG,bC,aC]at this;have:=ha.b.hs;have:=ha.b.gates.1;omega);have b3:(nms (p1.filter (Qa (zl b)))).length<=300:=(by rw[aC];exact dI (iw _ _) hlen);have n1:nms ((p1++[(nm,th)]).filter (Qa (zl b)))=if Qa (zl b) (nm,th)=true then nms (p1.filter (Qa (zl b)))++[nm]else nms (p1.filter (Qa (zl b))):=(by rw[lX];split;{rename_i e;simp[e]};rename_i e;simp[e]);generalize p1++[(nm,th)]=p1' at *;clear hperm b2E hp hq;dsimp only;generalize nms (p1.filter (Qa (zl b)))=B at *;cases hl:BQ (zl b) nm with
  | none =>
    have m1:=n1.trans (aG (by unfold Qa;rw[hl];rfl));clear n1;refine ZW ?_;refine Uf hl (ZW ?_);refine⟨by rw[aC],ak,.mk (by simp[maxL];omega) aA (ZW ?_)⟩;refine⟨⟨(p1',q),hp'⟩,hrest,aT 21,?_,.mk ?_ (by simp[uS])⟩;{exact wk};dsimp only;rw[m1];repeat' first|exact Zq|apply aI
    all_goals first|exact qP _|exact yN _ _|(show tV _ (List.map _ (_++[_]));rw[aV];exact qX _)|(rw[bC];exact tZ _)|exact qX _|skip
  | some x =>
    have m1:=n1.trans (aB (by unfold Qa;rw[hl];simp));clear n1;cases x;all_goals
     refine ZW ?_;refine LV hl (ZW ?_);refine⟨⟨(p1',q),hp'⟩,hrest,aT 21,?_,.mk ?_ (by simp[uS])⟩;{exact wk};dsimp only;rw[m1];repeat' first|exact Zq|apply aI
     all_goals first|exact qP _|exact yN _ _|exact qX _|skip
 rintro⟨⟨p1,p2⟩,hp⟩ k v rest b2E hperm;obtain⟨⟨nm,th⟩,q,hq,rfl,rfl,hrest⟩:=a0n hperm;have hq:p2.Perm ((nm,th)::q):=hq;have hp:(p1++p2).Perm (zl b):=hp;have hp':((p1++[(nm,th)])++q).Perm (zl b):=by refine List.Perm.trans ?_ hp;rw[bK];exact(hq.symm.append_left p1)
 have hmem:(nm,th)∈zl b:=hp'.mem_iff.1 ak;have hlen:p1.length<=300:=(by have:=hp.length_eq;simp only[zl,thE,thH,thG,bC,aC]at this;have:=hb.b.hs;have:=hb.b.gates.1;omega);have b1:(nms (p1.filter (Qa (zl a)))).length<=300:=(by rw[aC];exact dI (iw _ _) hlen);have b2:(nms (p1.filter (cgB (zl a)))).length<=300:=(by rw[aC];exact dI (iw _ _) hlen);have n1:nms ((p1++[(nm,th)]).filter (Qa (zl a)))=if Qa (zl a) (nm,th)=true then nms (p1.filter (Qa (zl a)))++[nm]else nms (p1.filter (Qa (zl a))):=(by rw[lX];split;{rename_i e;simp[e]};rename_i e;simp[e]);have n2:nms ((p1++[(nm,th)]).filter (cgB (zl a)))=if cgB (zl a) (nm,th)=true then nms (p1.filter (cgB (zl a)))++[nm]else nms (p1.filter (cgB (zl a))):=(by rw[lX];split;{rename_i e;simp[e]};rename_i e;simp[e]);have hth:=tb.ok _ hmem;generalize p1++[(nm,th)]=p1' at *;clear hperm b2E;dsimp only;generalize nms (p1.filter (Qa (zl a)))=A at *;generalize nms (p1.filter (cgB (zl a)))=C at *;cases hl:BQ (zl a) nm with
 | none =>
   have m1:=n1.trans (aG (by unfold Qa;rw[hl];rfl));have m2:=n2.trans (aB (by unfold cgB;rw[hl];simp));clear n1 n2;cases th;all_goals
    refine ZW ?_;refine Uf hl (ZW ?_);refine⟨by rw[aC],ak,.mk (by simp[maxL];omega) aA (ZW ?_)⟩;refine⟨⟨(p1',q),hp'⟩,hrest,aT 21,?_,.mk ?_ (by simp[uS])⟩;{exact wk};dsimp only;rw[m1,m2];repeat' first|exact Zq|apply aI
    all_goals first|exact qP _|exact yN _ _|(show tV _ (List.map _ (_++[_]));rw[aV];exact qX _)|(rw[bC];exact tZ _)|skip
 | some x =>
   have hx:=ta.ok _ (WM hl);have m1:=n1.trans (aB (by unfold Qa;rw[hl];simp));by_cases hs:FM th x
   ·have cs:=b1c th x hth hx true (by simp[hs]);have m2:=n2.trans (aB (by unfold cgB;rw[hl];simp[hs]));have cs:=cs.weak (R':=.tt) rfl;clear n1 n2;cases th <;> cases x;all_goals
     refine ZW ?_;refine LV hl (ZW ?_);refine .zW cs ?_;refine⟨⟨(p1',q),hp'⟩,hrest,aT 21,?_,.mk ?_ (by simp[uS])⟩;{exact wk};dsimp only;rw[m1,m2];repeat' first|exact Zq|apply aI
     all_goals first|exact qP _|exact yN _ _|skip
   have cs:=b1c th x hth hx false (by simp[hs]);have m2:=n2.trans (aG (by unfold cgB;rw[hl];simp[hs]));have cs:=cs.weak (R':=.ff) rfl;clear n1 n2;cases th <;> cases x;all_goals
    refine ZW ?_;refine LV hl (ZW ?_);refine .zW cs ?_;refine⟨by rw[aC],ak,.mk (by simp[maxL];omega) aA (ZW ?_)⟩;refine⟨⟨(p1',q),hp'⟩,hrest,aT 21,?_,.mk ?_ (by simp[uS])⟩;{exact wk};dsimp only;rw[m1,m2];repeat' first|exact Zq|apply aI
    all_goals first|exact qP _|exact yN _ _|(show tV _ (List.map _ (_++[_]));rw[aV];exact qX _)|(rw[bC];exact tZ _)|skip
theorem b7l{f:Nat}{args:List AV}{H:Heap}{R:AV}{G:Heap}(h:Uz Tryz.prog f args H λR' G'=>R'=R/\G'=G):ZQ f args H R G:=by refine⟨h.1,λc vs hr hv=>(h.2 c vs hr hv).mono ?_⟩;rintro _ _ ⟨v,d,_,_,⟨rfl,rfl⟩,h3⟩;exact⟨v,d,h3⟩
open Classical in
def Gm(old new s:Str):Str:=if s=old then new else s
def rnG(old new:Str)(g:Mg):Mg:={ g with ins:=g.ins.map (Gm old new) }
def rnE(old new:Str)(x:Ev):Ev:={ x with name:=Gm old new x.name }
def rnP(old new:Str)(x:Pg):Pg:={ x with top:=Gm old new x.top,gates:=x.gates.map (rnG old new) }
def a8J(old new:Str)(x:Gr):Gr:={ x with mem:=x.mem.map (Gm old new) }
def b4x(old new:Str)(x:Pv):Pv:={ x with ev:=Gm old new x.ev }
def b4a(old new:Str)(x:Ph):Ph:={ x with top:=Gm old new x.top,vals:=x.vals.map (b4x old new) }
def zQ(m:Md)(old new:Str):Md :=
 { name:=m.name,top:=Gm old new m.top,evs:=m.evs.map (rnE old new),hs:=m.hs,gates:=m.gates.map (rnG old new),pages:=m.pages.map (rnP old new),y8:=m.y8.map (a8J old new),zS:=m.zS.map (b4a old new) }
theorem b5v(old new s:Str):ZQ 48 [.str s,.cp (.str old),.cp (.str new)] [] (.str (Gm old new s)) []:=by refine ZN Tryz.func48 λhok=>?_;constructor<;>intro h;{rw[show Gm old new s=new from aG h];exact ZJ};rw[show Gm old new s=s from aB h];exact ZJ
abbrev fn1(old new:Str):AV:=.fn 48 [.cp (.str old),.cp (.str new)]
theorem b5u(old new:Str)(l:List Str)(hl:l.length<=1000000):ZQ 49 [sL l,.cp (fn1 old new)] [] (sL (l.map (Gm old new))) []:=by
 refine ZN Tryz.func49 λhok=>?_;refine qW.of <| qN.inv (.grow 4 1 [] _ rfl (.inl ⟨rfl,rfl⟩) (.refl _ _)) (fun(i:Nat)=>i<=l.length)
  (λi=>[(9,.int .i64 i),(4,.sl 1 (((l.take i).map (Gm old new)).map .str) (.own 0))]) (λi=>[(0,.tok 1 i)]) (λi=>l.length-i) 0 ?_ (λ_=>rfl) ?_ ?_
 ·exact aP _
 ·exact Zv wk wk
 intro i hi _;refine ZS ?_ ?_<;>intro h
 ·have hlt:i<l.length:=(by simpa using h);have ht:(l.take (i+1)).map (Gm old new)=(l.take i).map (Gm old new)++[Gm old new l[i]]:=(by rw[eG,aH hlt,aV];rfl);have hlen:((l.take i).map (Gm old new)).length=i:=aA;refine ZW ?_;refine sH hlt ?_;generalize l[i]=x at *;generalize (l.take i).map (Gm old new)=L at *;refine ZW ?_;refine .zW (b5v old new x) ?_;refine⟨by rw[aC];omega,.mk (by simp[maxL];omega) aA (ZW ?_)⟩;refine ZG ?_;refine⟨i+1,?_,?_,?_⟩;{exact hlt}
  ·rw[ht];refine Zv ?_ ?_
   ·repeat' first|exact Zq|apply aI
    all_goals first|(refine qY ?_;rw[aV];rfl)|(simp;done)|(simp;omega)
   repeat' first|exact Zq|apply aI
   all_goals first|(simp;done)|(simp;omega)
  omega
 have hlt:i=l.length:=(by have:¬i<l.length:=(by simpa using h);omega);subst hlt;rw[bn];exact ZJ
abbrev fn2(old new:Str):AV:=.fn 49 [.cp (fn1 old new)]
theorem Gw(x:Rat)(hx:AY x):ZQ 51 [x.av] [] x.av []:=by have c1:=a0F x.num (by have:=hx.1;omega);have c2:=a0F x.den (by have:=hx.2;omega);refine ZN Tryz.func51 λhok=>?_;refine ZR ?_;refine .zW c1 ?_;refine .zW c2 ?_;exact ZH
theorem b5t(old new:Str)(l:List Mg)(hl:l.length<=1000)(hi:∀g∈l,g.ins.length<=1000)(hd:∀g∈l,AY g.zi):ZQ 50 [gL l,.cp (fn2 old new)] [] (gL (l.map (rnG old new))) []:=by
 refine ZN Tryz.func50 λhok=>?_;refine qW.of <| qN.inv (.grow 4 7 [] _ rfl (.inl ⟨rfl,rfl⟩) (.refl _ _)) (fun(i:Nat)=>i<=l.length)
  (λi=>[(9,.int .i64 i),(4,.sl 7 (((l.take i).map (rnG old new)).map Mg.av) (.own 0))]) (λi=>[(0,.tok 7 i)]) (λi=>l.length-i) 0 ?_ (λ_=>rfl) ?_ ?_
 ·exact aP _
 ·exact Zv wk wk
 intro i hil _;refine ZS ?_ ?_<;>intro h
 ·have hlt:i<l.length:=(by simpa using h);have ht:(l.take (i+1)).map (rnG old new)=(l.take i).map (rnG old new)++[rnG old new l[i]]:=(by rw[eG,aH hlt,aV];rfl);have hlen:((l.take i).map (rnG old new)).length=i:=aA;have c2:=b5u old new (l[i]).ins (by have:=hi _ (aN hlt);omega);have cc:=Gw _ (hd _ (aN hlt));refine ZW ?_;refine sH hlt ?_;generalize l[i]=x at *;generalize (l.take i).map (rnG old new)=L at *;refine ZW ?_;refine .zW c2 ?_;refine .zW cc ?_;refine⟨by rw[aC];omega,.mk (by simp[maxL];omega) aA (ZW ?_)⟩;refine ZG ?_;refine⟨i+1,?_,?_,?_⟩;{exact hlt}
  ·rw[ht];refine Zv ?_ ?_
   ·repeat' first|exact Zq|apply aI
    all_goals first|(refine qY ?_;rw[aV];rfl)|(simp;done)|(simp;omega)
   repeat' first|exact Zq|apply aI
   all_goals first|(simp;done)|(simp;omega)
  omega
 have hlt:i=l.length:=(by have:¬i<l.length:=(by simpa using h);omega);subst hlt;rw[bn];exact ZJ
theorem b7v{m:Md}{old new:Str}(h:MdX m):MdX (zQ m old new):=by refine⟨?_,?_,?_,?_,?_⟩;{intro x hx;obtain⟨y,hy,rfl⟩:=bg.1 hx;exact h.evs y hy};{intro x hx;obtain⟨y,hy,rfl⟩:=bg.1 hx;exact h.gates y hy};{intro x hx;obtain⟨y,hy,rfl⟩:=bg.1 hx;intro g hg;obtain⟨g',hg',rfl⟩:=bg.1 hg;exact h.pages y hy g' hg'};{intro x hx;obtain⟨y,hy,rfl⟩:=bg.1 hx;exact h.y8 y hy};intro x hx v hv;obtain⟨y,hy,rfl⟩:=bg.1 hx;obtain⟨v',hv',rfl⟩:=bg.1 hv;exact h.zS y hy v' hv'
theorem a7E(l:List Hs)(hl:l.length<=1000000):ZQ 52 [.sl 2 (l.map Hs.av) .no] [] (.sl 2 (l.map Hs.av) .no) []:=by
 refine ZI Tryz.func52 λhok=>?_;conv=>whnf
 intro b hb;conv=>whnf
 constructor<;>intro h
 ·have:l=[]:=(by simpa using hb h);subst this;conv=>whnf
  refine ZF ?_;rfl
 conv=>whnf
 refine .pure (by simp[maxL];omega) aA ?_;conv=>whnf
 exact ZH
abbrev NS(m:Md)(old new:Str)(evs pages y8 zS:AV):AV:=.ag [.str m.name,.str (Gm old new m.top),evs,.sl 2 (m.hs.map Hs.av) .no,gL (m.gates.map (rnG old new)),pages,y8,zS]
def PY(m:Md)(old new:Str):Int:=if rM m.evs old<0 then 5 else rF (zQ m old new)
theorem KN{α β:Type}{f:α->β}{l:List α}{k:Nat}(h:k<l.length):(l.take (k+1)).map f=(l.take k).map f++[f l[k]]:=by rw[eG,aH h,aV];rfl
theorem take_len{α β:Type}{f:α->β}{l:List α}{k:Nat}(h:k<=l.length):((l.take k).map f).length=k:=aA
theorem b7x{m:Md}{old new:Str}(h:MdC m):MdC (zQ m old new):=by refine⟨?_,?_,?_,?_,?_⟩;{intro x hx;obtain⟨y,hy,rfl⟩:=bg.1 hx;exact h.evs y hy};{intro x hx;obtain⟨y,hy,rfl⟩:=bg.1 hx;exact h.gates y hy};{intro x hx;obtain⟨y,hy,rfl⟩:=bg.1 hx;intro g hg;obtain⟨g',hg',rfl⟩:=bg.1 hg;exact h.pages y hy g' hg'};{intro x hx;obtain⟨y,hy,rfl⟩:=bg.1 hx;exact h.y8 y hy};intro x hx v hv;obtain⟨y,hy,rfl⟩:=bg.1 hx;obtain⟨v',hv',rfl⟩:=bg.1 hv;exact h.zS y hy v' hv'
theorem b57{m:Md}{old new:Str}(h:KI m):KI (zQ m old new):=by refine⟨by simpa[zQ]using h.evs,h.hs,⟨by simpa[zQ]using h.gates.1,?_⟩,by simpa[zQ]using h.pages,?_,by simpa[zQ]using h.y8,?_,by simpa[zQ]using h.zS,?_⟩;{intro x hx;obtain⟨y,hy,rfl⟩:=bg.1 hx;simpa[rnG]using h.gates.2 y hy};{intro x hx;obtain⟨y,hy,rfl⟩:=bg.1 hx;refine⟨by simpa[rnP]using(h.GI y hy).1,λg hg=>?_⟩;obtain⟨g',hg',rfl⟩:=bg.1 hg;simpa[rnG]using(h.GI y hy).2 g' hg'};{intro x hx;obtain⟨y,hy,rfl⟩:=bg.1 hx;simpa[a8J]using h.mem y hy};intro x hx;obtain⟨y,hy,rfl⟩:=bg.1 hx;simpa[b4a]using h.vals y hy
theorem b0i(m:Md)(old new:Str)(hC:MdC m)(hB:KI m)(hX:MdX m)(h0:rF m=0)(R:AV)(hR:R=if PY m old new=0 then .uy [(zQ m old new).av,.vK]else .uy [zMd,.uY 49 (.int .i64 (PY m old new))]):ZQ 15 [m.av,.str old,.str new] [] R []:=by
 have cc:=Jo m hC hB _ rfl;rw[h0,rZ]at cc;have cc2:=Jo (zQ m old new) (b7x hC) (b57 hB) _ rfl;have ce:=Iq m old;have cn:=λs=>b5v old new s;have ch:=a7E m.hs (by have:=hB.hs;omega);have cg:=b5t old new m.gates (by have:=hB.gates.1;omega) (λg hg=>by have:=hB.gates.2 g hg;omega) hX.gates;have b1:=hB.evs;have b2:=hB.pages;have b3:=hB.y8;have b4:=hB.zS;unfold PY at hR;refine ZN Tryz.func15 λhok=>?_;refine .zW cc ?_;refine .zW ce ?_;constructor<;>intro g0;{rw[aG g0,aB au]at hR;subst hR;exact ZJ};rw[aB g0]at hR;refine ZW ?_
 (refine xG.b2M [0,1,2,4,5] (by kernel_rfl) ?_;(conv=>whnf);(repeat (refine aQ ⟨rfl,rfl⟩ ?_;(conv=>whnf))))
 refine .zW (cn m.top) ?_;refine .zW ch ?_;refine .zW cg ?_;refine qW.of <| qN.inv (.FU 6 [2] 11 [] (NS m old new .qV .qV .qV .qV) .qV _ rfl rfl (.inl ⟨rfl,rfl⟩) rfl (.refl _ _)) (fun(k:Nat)=>k<=m.evs.length)
  (λk=>[(60,.int .i64 k)]) (λk=>[(7,.tok 11 k),(6,.box (NS m old new (.sl 11 (((m.evs.take k).map (rnE old new)).map Ev.av) (.own 7)) .qV .qV .qV)),(5,.gone),(4,.gone),(3,.box zMd),(2,.gone),(1,.gone),(0,.gone)]) (λk=>m.evs.length-k) 0 ?_ (λ_=>rfl) ?_ ?_
 ·exact aP _
 ·exact ZV
 intro k hk _;refine ZS ?_ ?_<;>intro h
 ·have hkl:k<m.evs.length:=(by simpa using h);have ht:=KN (f:=rnE old new) hkl;have hlen:=take_len (f:=rnE old new) hk;obtain⟨x1,x2,x3⟩:=hX.evs _ (aN hkl);refine ZW ?_;refine sH hkl ?_;generalize m.evs[k]=x at *;generalize (m.evs.take k).map (rnE old new)=L at *;refine ZW ?_;refine .zW (cn x.name) ?_;refine ZR ?_;refine .zW (Gw x.p x1) ?_;refine .zW (Gw x.fail x2) ?_;refine .zW (Gw x.repair x3) ?_;refine⟨by rw[aC];omega,.mk (by simp[maxL];omega) aA (ZW ?_)⟩;refine ZG ?_;refine⟨k+1,?_,?_,?_⟩;{exact hkl}
  ·rw[ht];refine Zv ?_ ?_
   ·repeat' first|exact Zq|apply aI
    all_goals first|(simp;done)|(simp;omega)
   repeat' first|exact Zq|apply aI
   all_goals first|(refine qY ?_;rw[aV];rfl)|(simp;done)|(simp;omega)
  omega
 have hkl:k=m.evs.length:=(by have:¬k<m.evs.length:=(by simpa using h);omega);subst hkl;rw[bn];clear h;refine ZW ?_;refine qW.of <| qN.inv (.FU 6 [5] 3 [] (NS m old new (.sl 11 ((m.evs.map (rnE old new)).map Ev.av) (.own 7)) .qV .qV .qV) .qV _ rfl rfl (.inl ⟨rfl,rfl⟩) rfl (.refl _ _)) (fun(k:Nat)=>k<=m.pages.length)
  (λk=>[(91,.int .i64 k)]) (λk=>[(8,.tok 3 k),(7,.gone),(6,.box (NS m old new (.sl 11 ((m.evs.map (rnE old new)).map Ev.av) .no) (.sl 3 (((m.pages.take k).map (rnP old new)).map Pg.av) (.own 8)) .qV .qV)),(5,.gone),(4,.gone),(3,.box zMd),(2,.gone),(1,.gone),(0,.gone)]) (λk=>m.pages.length-k) 0 ?_ (λ_=>rfl) ?_ ?_
 ·exact aP _
 ·exact ZV
 intro k hk _;refine ZS ?_ ?_<;>intro h
 ·have hkl:k<m.pages.length:=(by simpa using h);have ht:=KN (f:=rnP old new) hkl;have hlen:=take_len (f:=rnP old new) hk;have hp:=hB.GI _ (aN hkl);have cgp:=b5t old new (m.pages[k]).gates aj (λg hg=>by have:=hp.2 g hg;omega) (hX.pages _ (aN hkl));refine ZW ?_;refine sH hkl ?_;generalize m.pages[k]=x at *;generalize (m.pages.take k).map (rnP old new)=L at *;refine ZW ?_;refine ZR ?_;refine .zW (cn x.top) ?_;refine .zW cgp ?_;refine⟨by rw[aC];omega,.mk (by simp[maxL];omega) aA (ZW ?_)⟩;refine ZG ?_;refine⟨k+1,?_,?_,?_⟩;{exact hkl}
  ·rw[ht];refine Zv ?_ ?_
   ·repeat' first|exact Zq|apply aI
    all_goals first|(simp;done)|(simp;omega)
   repeat' first|exact Zq|apply aI
   all_goals first|(refine qY ?_;rw[aV];rfl)|(simp;done)|(simp;omega)
  omega
 have hkl:k=m.pages.length:=(by have:¬k<m.pages.length:=(by simpa using h);omega);subst hkl;rw[bn];clear h;refine ZW ?_;refine qW.of <| qN.inv (.FU 6 [6] 4 [] (NS m old new (.sl 11 ((m.evs.map (rnE old new)).map Ev.av) .no) (.sl 3 ((m.pages.map (rnP old new)).map Pg.av) (.own 8)) .qV .qV) .qV _ rfl rfl (.inl ⟨rfl,rfl⟩) rfl (.refl _ _)) (fun(k:Nat)=>k<=m.y8.length)
  (λk=>[(115,.int .i64 k)]) (λk=>[(9,.tok 4 k),(8,.gone),(7,.gone),(6,.box (NS m old new (.sl 11 ((m.evs.map (rnE old new)).map Ev.av) .no) (.sl 3 ((m.pages.map (rnP old new)).map Pg.av) .no) (.sl 4 (((m.y8.take k).map (a8J old new)).map Gr.av) (.own 9)) .qV)),(5,.gone),(4,.gone),(3,.box zMd),(2,.gone),(1,.gone),(0,.gone)]) (λk=>m.y8.length-k) 0 ?_ (λ_=>rfl) ?_ ?_
 ·exact aP _
 ·exact ZV
 intro k hk _;refine ZS ?_ ?_<;>intro h
 ·have hkl:k<m.y8.length:=(by simpa using h);have ht:=KN (f:=a8J old new) hkl;have hlen:=take_len (f:=a8J old new) hk;have hm:=hB.mem _ (aN hkl);have cgp:=b5u old new (m.y8[k]).mem aj;have hf:=hX.y8 _ (aN hkl);refine ZW ?_;refine sH hkl ?_;generalize m.y8[k]=x at *;generalize (m.y8.take k).map (a8J old new)=L at *;refine ZW ?_;refine ZR ?_;refine .zW cgp ?_;refine qW.of <| qN.inv (.FU 11 [3] 3 [] (.ag [.str x.name,.int .i64 x.kind,sL (x.mem.map (Gm old new)),.qV]) .qV _ rfl rfl (.inl ⟨rfl,rfl⟩) rfl (.refl _ _)) (fun(j:Nat)=>j<=x.BX.length)
   (λj=>[(131,.int .i64 j)]) (λj=>[(12,.tok 3 j),(11,.box (.ag [.str x.name,.int .i64 x.kind,sL (x.mem.map (Gm old new)),.sl 3 ((x.BX.take j).map Rat.av) (.own 12)])),(10,.gone),(9,.tok 4 k),(8,.gone),(7,.gone),(6,.box (NS m old new (.sl 11 ((m.evs.map (rnE old new)).map Ev.av) .no) (.sl 3 ((m.pages.map (rnP old new)).map Pg.av) .no) (.sl 4 (L.map Gr.av) (.own 9)) .qV)),(5,.gone),(4,.gone),(3,.box zMd),(2,.gone),(1,.gone),(0,.gone)]) (λj=>x.BX.length-j) 0 ?_ (λ_=>rfl) ?_ ?_
  ·exact aP _
  ·exact ZV
  intro j hj _;refine ZS ?_ ?_<;>intro hh
  ·have hjl:j<x.BX.length:=(by simpa using hh);have ht2:x.BX.take (j+1)=x.BX.take j++[x.BX[j]]:=(by rw[eG,aH hjl];rfl);have hlen2:(x.BX.take j).length=j:=aA;have y1:=hf _ (aN hjl);refine ZW ?_;refine sH hjl ?_;generalize x.BX[j]=y at *;generalize x.BX.take j=L2 at *;refine ZW ?_;refine ZR ?_;refine .zW (Gw y y1) ?_;refine⟨by rw[aC];omega,.mk (by simp[maxL];omega) aA (ZW ?_)⟩;refine ZG ?_;refine⟨j+1,?_,?_,?_⟩;{exact hjl}
   ·rw[ht2];refine Zv wk ?_;repeat' first|exact Zq|apply aI
    all_goals first|(refine qY ?_;rw[aV];rfl)|(simp;done)|(simp;omega)
   omega
  have hjl:j=x.BX.length:=(by have:¬j<x.BX.length:=(by simpa using hh);omega);subst hjl;rw[bn];clear hh;refine ZW ?_;refine⟨by rw[aC];omega,.mk (by simp[maxL];omega) aA (ZW ?_)⟩;refine ZG ?_;refine⟨k+1,?_,?_,?_⟩;{exact hkl}
  ·rw[ht];refine Zv ?_ ?_
   ·repeat' first|exact Zq|apply aI
    all_goals first|(simp;done)|(simp;omega)
   repeat' first|exact Zq|apply aI
   all_goals first|(refine qY ?_;rw[aV];rfl)|(simp;done)|(simp;omega)
  omega
 have hkl:k=m.y8.length:=(by have:¬k<m.y8.length:=(by simpa using h);omega);subst hkl;rw[bn];clear h;refine ZW ?_;refine qW.of <| qN.inv (.FU 6 [7] 3 [] (NS m old new (.sl 11 ((m.evs.map (rnE old new)).map Ev.av) .no) (.sl 3 ((m.pages.map (rnP old new)).map Pg.av) .no) (.sl 4 ((m.y8.map (a8J old new)).map Gr.av) (.own 9)) .qV) .qV _ rfl rfl (.inl ⟨rfl,rfl⟩) rfl (.refl _ _)) (fun(k:Nat)=>k<=m.zS.length)
  (λk=>[(153,.int .i64 k)]) (λk=>[(10,.tok 3 k),(9,.gone),(8,.gone),(7,.gone),(6,.box (NS m old new (.sl 11 ((m.evs.map (rnE old new)).map Ev.av) .no) (.sl 3 ((m.pages.map (rnP old new)).map Pg.av) .no) (.sl 4 ((m.y8.map (a8J old new)).map Gr.av) .no) (.sl 3 (((m.zS.take k).map (b4a old new)).map Ph.av) (.own 10)))),(5,.gone),(4,.gone),(3,.box zMd),(2,.gone),(1,.gone),(0,.gone)]) (λk=>m.zS.length-k) 0 ?_ (λ_=>rfl) ?_ ?_
 ·exact aP _
 ·exact ZV
 intro k hk _;refine ZS ?_ ?_<;>intro h
 ·have hkl:k<m.zS.length:=(by simpa using h);have ht:=KN (f:=b4a old new) hkl;have hlen:=take_len (f:=b4a old new) hk;have hv:=hB.vals _ (aN hkl);have hf:=hX.zS _ (aN hkl);refine ZW ?_;refine sH hkl ?_;generalize m.zS[k]=x at *;generalize (m.zS.take k).map (b4a old new)=L at *;refine ZW ?_;refine ZR ?_;refine .zW (cn x.top) ?_;refine qW.of <| qN.inv (.FU 12 [2] 4 [] (.ag [.str x.name,.str (Gm old new x.top),.qV]) .qV _ rfl rfl (.inl ⟨rfl,rfl⟩) rfl (.refl _ _)) (fun(j:Nat)=>j<=x.vals.length)
   (λj=>[(167,.int .i64 j)]) (λj=>[(13,.tok 4 j),(12,.box (.ag [.str x.name,.str (Gm old new x.top),.sl 4 (((x.vals.take j).map (b4x old new)).map Pv.av) (.own 13)])),(11,.gone),(10,.tok 3 k),(9,.gone),(8,.gone),(7,.gone),(6,.box (NS m old new (.sl 11 ((m.evs.map (rnE old new)).map Ev.av) .no) (.sl 3 ((m.pages.map (rnP old new)).map Pg.av) .no) (.sl 4 ((m.y8.map (a8J old new)).map Gr.av) .no) (.sl 3 (L.map Ph.av) (.own 10)))),(5,.gone),(4,.gone),(3,.box zMd),(2,.gone),(1,.gone),(0,.gone)]) (λj=>x.vals.length-j) 0 ?_ (λ_=>rfl) ?_ ?_
  ·exact aP _
  ·exact ZV
  intro j hj _;refine ZS ?_ ?_<;>intro hh
  ·have hjl:j<x.vals.length:=(by simpa using hh);have ht2:=KN (f:=b4x old new) hjl;have hlen2:=take_len (f:=b4x old new) hj;have y1:=hf _ (aN hjl);refine ZW ?_;refine sH hjl ?_;generalize x.vals[j]=y at *;generalize (x.vals.take j).map (b4x old new)=L2 at *;refine ZW ?_;refine ZR ?_;refine .zW (cn y.ev) ?_;refine .zW (Gw y.p y1) ?_;refine⟨by rw[aC];omega,.mk (by simp[maxL];omega) aA (ZW ?_)⟩;refine ZG ?_;refine⟨j+1,?_,?_,?_⟩;{exact hjl}
   ·rw[ht2];refine Zv wk ?_;repeat' first|exact Zq|apply aI
    all_goals first|(refine qY ?_;rw[aV];rfl)|(simp;done)|(simp;omega)
   omega
  have hjl:j=x.vals.length:=(by have:¬j<x.vals.length:=(by simpa using hh);omega);subst hjl;rw[bn];clear hh;refine ZW ?_;refine⟨by rw[aC];omega,.mk (by simp[maxL];omega) aA (ZW ?_)⟩;refine ZG ?_;refine⟨k+1,?_,?_,?_⟩;{exact hkl}
  ·rw[ht];refine Zv ?_ ?_
   ·repeat' first|exact Zq|apply aI
    all_goals first|(simp;done)|(simp;omega)
   repeat' first|exact Zq|apply aI
   all_goals first|(refine qY ?_;rw[aV];rfl)|(simp;done)|(simp;omega)
  omega
 have hkl:k=m.zS.length:=(by have:¬k<m.zS.length:=(by simpa using h);omega);subst hkl;rw[bn];clear h;by_cases g1:rF (zQ m old new)=0;{rw[g1,rZ]at cc2;rw[aG g1]at hR;subst hR;refine ZW ?_;refine .zW cc2 ?_;exact ZH};rw[rY g1]at cc2;rw[aB g1]at hR;subst hR;refine ZW ?_;refine .zW cc2 ?_;exact ZH
end S