/-
  Contracts of functions of the program, over the logic of the texts before. Nothing is assumed.
-/
import Derived.Test.YtohfjkdpekkmaaaGreatT5

open Go Go.AL Go.Proofs
namespace S
set_option maxRecDepth 100000

theorem c_nodeKind (k : Int) : FnH Tryz.prog 88 [.int .i64 k] [] (.tup [.int .i64 (kindN k),.bool (statK k)]) []:=by
 obtain ⟨a,ha⟩ : ∃ a,kindN k = a:=⟨_,rfl⟩
 obtain ⟨b,hb⟩ : ∃ b,statK k = b:=⟨_,rfl⟩
 rw [ha,hb]
 refine FnH.intro lay mixed Tryz.func88 (by kernel_rfl) rfl (by kernel_rfl) rfl fun hok=>?_
 (try dsimp only[argC,succC]);(try dsimp only[awp]);conv=>whnf
 repeat' (first | (refine And.intro (fun _=>?_) (fun _=>?_) <;> ((try dsimp only[awp]);(conv=>whnf))))
 all_goals
  refine fM ?_;(conv=>whnf);refine ⟨?_,rfl⟩;conv=>whnf
 all_goals
  rw [← ha,← hb]
  repeat' first|exact rfl|exact trivial|exact wR|exact lR _|apply aI
 all_goals
  unfold kindN statK at *
  first | (simp_all [le0]; done) | (show le0 _ _; simp_all [le0]; done) | skip

abbrev xC (vars : Int) (st : CS) : AV:=.ag [.int .i64 vars,.sl 3 (st.nodes.map Nd.av) (.own 2),.int .i64 0]
abbrev hpC (m : Md) (vars : Int) (st : CS) : Heap:=hpF m (xC vars st) (.tok 3 st.nodes.length) (.amap shN (encM st.es))
abbrev compAV (r : (Bool × Int) × CS) : AV:=.tup [.int .i64 r.1.2,errAV (if r.1.1 = true then 7 else 0)]

theorem xC_wk (vars : Int) (st : CS) : WkA (xC vars st):=⟨le0_refl _,rfl⟩
theorem tC_wk (n : Nat) : WkO (.tok 3 n):=⟨⟨rfl,rfl⟩,rfl⟩
theorem mC_wk (es : Marks) : WkO (.amap shN (encM es)):=⟨⟨rfl,leM_refl _⟩,encM_bnd _ _⟩

theorem aupd_eq {es : Marks} {x : Node} {v w : Int} {k : List (AV × AV) → Prop} (e : w = v) (h : k (encM (mark es x v))) : AUpd (encM es) (nAV x) (.int .i64 w) k:=by subst e; exact aupd_es h

def lvl (rank : Node → Nat) (x : Node) : Nat:=if x.1 = 2 then rank x + 1 else 0

theorem c_cinput (m : Md) (hM : MOk m) (hB : MdB m) (rank : Node → Nat) (hr : RankM m rank) : ∀ (n : Nat) (a : Int) (s : Str) (st : CS),(a = -1 ∨ (0 ≤ a ∧ a < (m.pages.length : Int))) → InOk m a s → lvl rank (resR m a s) < n → CInv m st →
  FnH Tryz.prog 47 [.ptr 1 [] 0,.int .i64 a,.str s] (hpC m m.evs.length st) (compAV (compN m m.evs.length n (resR m a s) st)) (hpC m m.evs.length (compN m m.evs.length n (resR m a s) st).2):=by
 intro n
 induction n with
 | zero=>intro a s st _ _ h; omega
 | succ n ih =>
   intro a s st ha hin hn hI
   have hev:=hM.lens.1
   have cf:=c_cfind m (xC m.evs.length st) (.tok 3 st.nodes.length) (.amap shN (encM st.es)) (xC_wk _ _) (tC_wk _) (mC_wk _) a s hin.pos ha hin.pg
   have hxo:=hin.ok
   have hshort:=hI.short hB
   have hcl:=hM.closed
   have hkk:=fun h2=>okN_kids hcl hxo h2
   have hrk:=hr _ hxo
   have hInv:=comp_inv hcl hr m.evs.length n
   generalize hx : resR m a s = x at *
   generalize hve : (m.evs.length : Int) = ve at *
   refine FnH.intro lay mixed Tryz.func47 (by kernel_rfl) rfl (by kernel_rfl) rfl fun hok=>?_
   (try dsimp only[argC,succC]);(try dsimp only[awp]);conv=>whnf
   refine .gen _ _ cf fun _=>?_
   (try dsimp only[awp]);conv=>whnf
   refine And.intro (fun h0=>?_) (fun h0=>?_)
   ·rw [show compN m ve (n + 1) x st = ((false,x.2.2),st) from if_pos h0]
    (try dsimp only[awp]);conv=>whnf
    refine ⟨⟨_,_,.refl _ _,?_⟩⟩
    conv=>whnf
    refine ⟨?_,rfl,by simp [nextId],.mk ?_ (by simp [idsOk])⟩
    ·all_goals exact wk
    ·repeat' first|exact rfl|exact trivial|exact wR|exact lR _|apply aI
     all_goals first | exact leM_refl _ | exact leM_nr _ _ | exact encM_bnd _ _ | (show leRL _ (List.map _ (_ ++ [_])); rw [List.map_append]; refine leRL_snoc ?_ (lR _); (repeat' first|exact rfl|exact trivial|exact wR|exact lR _|apply aI); done) | (simp [pushN]; done) | (simp [pushN]; omega)
   (try dsimp only[awp]);conv=>whnf
   refine ADraw.auto (by kernel_rfl) ?_;conv=>whnf
   refine alook_opt (fun v hv=>?_) (fun hv=>?_)
   ·rw [show compN m ve (n + 1) x st = ((false,v),st) from by unfold compN; rw [if_neg h0,hv]]
    (try dsimp only[awp]);conv=>whnf
    refine ⟨⟨_,_,.refl _ _,?_⟩⟩
    conv=>whnf
    refine ⟨?_,rfl,by simp [nextId],.mk ?_ (by simp [idsOk])⟩
    ·all_goals exact wk
    ·repeat' first|exact rfl|exact trivial|exact wR|exact lR _|apply aI
     all_goals first | exact leM_refl _ | exact leM_nr _ _ | exact encM_bnd _ _ | (show leRL _ (List.map _ (_ ++ [_])); rw [List.map_append]; refine leRL_snoc ?_ (lR _); (repeat' first|exact rfl|exact trivial|exact wR|exact lR _|apply aI); done) | (simp [pushN]; done) | (simp [pushN]; omega)
   (try dsimp only[awp]);conv=>whnf
   refine And.intro (fun h1=>?_) (fun h1=>?_)
   ·have hh : 0 ≤ x.2.2 ∧ x.2.2 < (m.hs.length : Int):=by
     rcases hxo with h | h | h
     ·omega
     ·exact ⟨h.2.2.1,h.2.2.2⟩
     ·have:=(mem_all.1 h).1; omega
    have hR : compN m ve (n + 1) x st = pushN ve st x ⟨0,if (houseAt m x).on = true then 1 else 0,[]⟩:=by unfold compN; rw [if_neg h0,hv]; exact if_pos h1
    rw [hR]
    (try dsimp only[awp]);conv=>whnf
    refine ADraw.auto (by kernel_rfl) ?_;conv=>whnf
    refine aidxD default hh ?_
    rw [show m.hs.getD x.2.2.toNat default = houseAt m x from rfl]
    generalize houseAt m x = hs at *
    (try dsimp only[awp]);conv=>whnf
    refine And.intro (fun g=>?_) (fun g=>?_)
    ·rw [if_pos g]
     (try dsimp only[awp]);conv=>whnf
     (try dsimp only[awp]);conv=>whnf
     refine ADraw.auto (by kernel_rfl) ?_;conv=>whnf
     refine ⟨by rw [List.length_map],.mk (by simp [maxL]; omega) (by simp; omega) ?_⟩
     (try dsimp only[awp]);conv=>whnf
     refine ADraw.auto (by kernel_rfl) ?_;conv=>whnf
     refine ⟨inr64 (by simp; omega) (by simp; omega),?_⟩
     (try dsimp only[awp]);conv=>whnf
     refine ⟨inr64 (by simp; omega) (by simp; omega),?_⟩
     (try dsimp only[awp]);conv=>whnf
     refine aupd_eq (v:=ve + st.nodes.length) (by simp; omega) ?_
     (try dsimp only[awp]);conv=>whnf
     refine ADraw.auto (by kernel_rfl) ?_;conv=>whnf
     refine alook_put ?_
     (try dsimp only[awp]);conv=>whnf
     refine ⟨⟨_,_,.refl _ _,?_⟩⟩
     conv=>whnf
     refine ⟨?_,rfl,by simp [nextId],.mk ?_ (by simp [idsOk])⟩
     ·all_goals exact wk
     ·repeat' first|exact rfl|exact trivial|exact wR|exact lR _|apply aI
      all_goals first | exact leM_refl _ | exact leM_nr _ _ | exact encM_bnd _ _ | (show leRL _ (List.map _ (_ ++ [_])); rw [List.map_append]; refine leRL_snoc ?_ (lR _); (repeat' first|exact rfl|exact trivial|exact wR|exact lR _|apply aI); done) | (simp [pushN]; done) | (simp [pushN]; omega)
    ·rw [if_neg (by rw [g]; simp)]
     (try dsimp only[awp]);conv=>whnf
     refine ADraw.auto (by kernel_rfl) ?_;conv=>whnf
     refine ⟨by rw [List.length_map],.mk (by simp [maxL]; omega) (by simp; omega) ?_⟩
     (try dsimp only[awp]);conv=>whnf
     refine ADraw.auto (by kernel_rfl) ?_;conv=>whnf
     refine ⟨inr64 (by simp; omega) (by simp; omega),?_⟩
     (try dsimp only[awp]);conv=>whnf
     refine ⟨inr64 (by simp; omega) (by simp; omega),?_⟩
     (try dsimp only[awp]);conv=>whnf
     refine aupd_eq (v:=ve + st.nodes.length) (by simp; omega) ?_
     (try dsimp only[awp]);conv=>whnf
     refine ADraw.auto (by kernel_rfl) ?_;conv=>whnf
     refine alook_put ?_
     (try dsimp only[awp]);conv=>whnf
     refine ⟨⟨_,_,.refl _ _,?_⟩⟩
     conv=>whnf
     refine ⟨?_,rfl,by simp [nextId],.mk ?_ (by simp [idsOk])⟩
     ·all_goals exact wk
     ·repeat' first|exact rfl|exact trivial|exact wR|exact lR _|apply aI
      all_goals first | exact leM_refl _ | exact leM_nr _ _ | exact encM_bnd _ _ | (show leRL _ (List.map _ (_ ++ [_])); rw [List.map_append]; refine leRL_snoc ?_ (lR _); (repeat' first|exact rfl|exact trivial|exact wR|exact lR _|apply aI); done) | (simp [pushN]; done) | (simp [pushN]; omega)
   have h2 : x.1 = 2:=by
    rcases hxo with h | h | h
    ·omega
    ·omega
    ·exact (mem_all.1 h).1
   obtain ⟨hxa,hkk⟩:=hkk h2
   obtain ⟨_,hpg,hix⟩:=mem_all.1 hxa
   have hrk:=hrk h2
   have hlv : rank x < n:=by unfold lvl at hn; rw [if_pos h2] at hn; omega
   have hil : (gateAt m x).ins.length ≤ 40:=by
    have : gateAt m x ∈ gatesM m x.2.1:=by
     unfold gateAt
     rw [List.getD_eq_getElem?_getD,List.getElem?_eq_getElem (by omega)]
     exact List.getElem_mem _
    unfold gatesM at this
    split at this
    ·exact hB.gates.2 _ this
    ·rw [List.getD_eq_getElem?_getD] at this
     cases hp : m.pages[x.2.1.toNat]? with
     | none=>rw [hp] at this; exact absurd this (by show ¬ gateAt m x ∈ ([] : List Mg); simp)
     | some p=>rw [hp] at this; exact (hB.pgates p (List.mem_of_getElem? hp)).2 _ this
   have hins : ∀ (j : Nat) (h : j < (gateAt m x).ins.length),InOk m x.2.1 (gateAt m x).ins[j] ∧ (kidsM m x)[j]? = some (resR m x.2.1 (gateAt m x).ins[j]):=fun j h=>by
    have hg : gateAt m x ∈ gatesM m x.2.1:=by
     unfold gateAt
     rw [List.getD_eq_getElem?_getD,List.getElem?_eq_getElem (by omega)]
     exact List.getElem_mem _
    exact ⟨hM.inOk hpg (hM.ins_in hpg hg (List.getElem_mem h)),by simp [kidsM,h]⟩
   have hlen : (kidsM m x).length = (gateAt m x).ins.length:=by simp [kidsM]
   have hmem : ∀ y ∈ kidsM m x,lvl rank y < n:=fun y hy=>by
    unfold lvl
    split
    ·rename_i e; have:=hrk y hy e; omega
    ·omega
   have hR : compN m ve (n + 1) x st = if statK (gateAt m x).kind = false then ((true,0),st)
    else if (compL (compN m ve n) (kidsM m x) st []).1.1 = true then ((true,0),(compL (compN m ve n) (kidsM m x) st []).2)
    else pushN ve (compL (compN m ve n) (kidsM m x) st []).2 x ⟨kindN (gateAt m x).kind,(gateAt m x).k,(compL (compN m ve n) (kidsM m x) st []).1.2⟩:=by
    conv=>lhs; unfold compN
    rw [if_neg h0,hv]
    exact if_neg h1
   have cK:=c_nodeKind (gateAt m x).kind
   (try dsimp only[awp]);conv=>whnf
   refine ADraw.frz [3] ?_
   conv=>whnf
   refine And.intro ⟨rfl,rfl⟩ ?_
   conv=>whnf
   refine ⟨[true,true,true,false,true,true,true,true,false,false],by kernel_rfl,?_⟩
   conv=>whnf
   refine .gen _ _ (c_cgates m _ _ _ _ _ x.2.1 hpg) fun _=>?_
   (try dsimp only[awp]);conv=>whnf
   refine aidxD default hix ?_
   have hga : (gatesM m x.2.1).getD x.2.2.toNat default = gateAt m x:=rfl
   rw [hga]
   generalize gateAt m x = g at *
   generalize kidsM m x = K at *
   (try dsimp only[awp]);conv=>whnf
   refine .pure _ _ ?_ ⟨rfl,rfl⟩ cK fun _=>?_
   ·exact leL_refl _
   (try dsimp only[awp]);conv=>whnf
   refine And.intro (fun g1=>?_) (fun g1=>?_)
   ·rw [hR,if_pos (by simpa using g1)]
    (try dsimp only[awp]);conv=>whnf
    refine ⟨⟨_,_,.refl _ _,?_⟩⟩
    conv=>whnf
    refine ⟨?_,rfl,by simp [nextId],.mk ?_ (by simp [idsOk])⟩
    ·all_goals exact wk
    ·repeat' first|exact rfl|exact trivial|exact wR|exact lR _|apply aI
     all_goals first | exact leM_refl _ | exact leM_nr _ _ | exact encM_bnd _ _ | (show leRL _ (List.map _ (_ ++ [_])); rw [List.map_append]; refine leRL_snoc ?_ (lR _); (repeat' first|exact rfl|exact trivial|exact wR|exact lR _|apply aI); done) | (simp [pushN]; done) | (simp [pushN]; omega)
   have g1 : statK g.kind = true:=by simpa using g1
   rw [if_neg (by rw [g1]; simp)] at hR
   generalize hW : compN m ve n = W at *
   generalize hS : compL W K st [] = Rz at *
   (try dsimp only[awp]);conv=>whnf
   refine LoopE.of <| LoopSpec.inv (.growF 4 [2] 1 [] (.ag [.int .i64 (kindN g.kind),.int .i64 g.k,.nils]) .nils _ rfl rfl (.inl ⟨rfl,rfl⟩) rfl (.refl _ _))
    (fun (q : Nat × CS × List Int)=>q.1 ≤ g.ins.length ∧ compL W (K.drop q.1) q.2.1 q.2.2 = Rz ∧ q.2.2.length = q.1 ∧ CInv m q.2.1 ∧ (∀ z : Node,z.1 = 2 → rank x ≤ rank z → lookO st.es z = none → lookO q.2.1.es z = none))
    (fun q=>[(78,.int .i64 q.1)]) (fun q=>(6,.tok 1 q.1) :: (5,.gone) :: (4,.box (.ag [.int .i64 (kindN g.kind),.int .i64 g.k,.sl 1 (q.2.2.map (.int .i64)) (.own 6)])) :: (3,.gone) :: hpC m ve q.2.1) (fun q=>g.ins.length - q.1) (0,st,[]) ?_ (fun _=>rfl) ?_ ?_
   ·exact ⟨Nat.zero_le _,hS,rfl,hI,fun _ _ _ h=>h⟩
   ·refine ⟨?_,.mk ?_ (by simp [idsOk])⟩
    ·all_goals exact wk
    ·repeat' first|exact rfl|exact trivial|exact wR|exact lR _|apply aI
     all_goals first | exact leM_refl _ | exact encM_bnd _ _
   rintro ⟨j,sj,acc⟩ ⟨hj,hnj,hacc,hIj,hzj⟩ _
   dsimp only at hj hnj hacc hIj hzj
   (try dsimp only[awp]);conv=>whnf
   refine And.intro (fun hh=>?_) (fun hh=>?_)
   ·have hjl : j < g.ins.length:=by simpa using hh
    obtain ⟨hij,hKj⟩:=hins j hjl
    rw [drop_of_get? hKj] at hnj
    unfold compL at hnj
    have hyK:=List.mem_of_getElem? hKj
    have hlj:=hmem _ hyK
    have cw:=ih x.2.1 g.ins[j] sj hpg hij hlj hIj
    have hIr:=hInv (resR m x.2.1 g.ins[j]) sj hij.ok hIj
    have hyr:=hrk _ hyK
    (try dsimp only[awp]);conv=>whnf
    refine aidx hjl ?_
    generalize g.ins[j] = s2 at *
    generalize resR m x.2.1 s2 = y at *
    generalize hr0 : W y sj = r at *
    obtain ⟨⟨rb,ra⟩,rs⟩:=r
    dsimp only at hnj hIr cw
    cases rb with
    | true =>
      rw [if_pos rfl] at hnj
      rw [show compAV ((true,ra),rs) = .tup [.int .i64 ra,.ifc 79 (.int .i64 7)] from rfl] at cw
      (try dsimp only[awp]);conv=>whnf
      refine .gen _ _ (FnH.frame [0,1,2] cw ⟨rfl,rfl,rfl,rfl⟩ ?_ ?_) fun _=>?_
      ·repeat' first|exact rfl|exact trivial|exact wR|exact lR _|apply aI
       all_goals first | exact leM_rn _ _ | exact encM_bnd _ _
      ·all_goals exact wk
      rw [hR,← hnj,if_pos rfl]
      (try dsimp only[awp]);conv=>whnf
      refine ⟨⟨_,_,.refl _ _,?_⟩⟩
      conv=>whnf
      refine ⟨?_,rfl,by simp [nextId],.mk ?_ (by simp [idsOk])⟩
      ·all_goals exact wk
      ·repeat' first|exact rfl|exact trivial|exact wR|exact lR _|apply aI
       all_goals first | exact leM_refl _ | exact leM_nr _ _ | exact encM_bnd _ _ | (show leRL _ (List.map _ (_ ++ [_])); rw [List.map_append]; refine leRL_snoc ?_ (lR _); (repeat' first|exact rfl|exact trivial|exact wR|exact lR _|apply aI); done) | (simp [pushN]; done) | (simp [pushN]; omega)
    | false =>
      rw [if_neg (by simp)] at hnj
      rw [show compAV ((false,ra),rs) = .tup [.int .i64 ra,.nilI] from rfl] at cw
      (try dsimp only[awp]);conv=>whnf
      refine .gen _ _ (FnH.frame [0,1,2] cw ⟨rfl,rfl,rfl,rfl⟩ ?_ ?_) fun _=>?_
      ·repeat' first|exact rfl|exact trivial|exact wR|exact lR _|apply aI
       all_goals first | exact leM_rn _ _ | exact encM_bnd _ _
      ·all_goals exact wk
      (try dsimp only[awp]);conv=>whnf
      refine ⟨by rw [List.length_map,hacc],.mk (by simp [maxL]; omega) (by simp; omega) ?_⟩
      (try dsimp only[awp]);conv=>whnf
      refine zA ?_;conv=>whnf
      refine ⟨(j + 1,rs,acc ++ [ra]),?_,?_,?_⟩
      ·exact ⟨hjl,hnj,by simp [hacc],hIr.1,fun z hz hxz hs=>hIr.2 z hz (fun e=>by have:=hyr e; omega) (hzj z hz hxz hs)⟩
      ·refine ⟨?_,.mk ?_ (by simp [idsOk])⟩
       ·all_goals exact wk
       ·repeat' first|exact rfl|exact trivial|exact wR|exact lR _|apply aI
        all_goals first | exact leM_nr _ _ | exact encM_bnd _ _ | (show leRL _ (List.map _ (_ ++ [_])); rw [List.map_append]; exact lR _) | (simp [hacc]; done) | (simp; omega)
      ·show g.ins.length - (j + 1) < g.ins.length - j
       omega
   have hjl : K.length ≤ j:=by (have : ¬ j < g.ins.length:=by simpa using hh); omega
   rw [List.drop_eq_nil_of_le hjl] at hnj
   unfold compL at hnj
   rw [← hnj,if_neg (by simp)] at hR
   rw [hR]
   have hshort:=hIj.short hB
   (try dsimp only[awp]);conv=>whnf
   (try dsimp only[awp]);conv=>whnf
   refine ADraw.auto (by kernel_rfl) ?_;conv=>whnf
   refine ⟨by rw [List.length_map],.mk (by simp [maxL]; omega) (by simp; omega) ?_⟩
   (try dsimp only[awp]);conv=>whnf
   refine ADraw.auto (by kernel_rfl) ?_;conv=>whnf
   refine ⟨inr64 (by simp; omega) (by simp; omega),?_⟩
   (try dsimp only[awp]);conv=>whnf
   refine ⟨inr64 (by simp; omega) (by simp; omega),?_⟩
   (try dsimp only[awp]);conv=>whnf
   refine aupd_eq (v:=ve + sj.nodes.length) (by simp; omega) ?_
   (try dsimp only[awp]);conv=>whnf
   refine ADraw.auto (by kernel_rfl) ?_;conv=>whnf
   refine alook_put ?_
   (try dsimp only[awp]);conv=>whnf
   refine ⟨⟨_,_,.refl _ _,?_⟩⟩
   conv=>whnf
   refine ⟨?_,rfl,by simp [nextId],.mk ?_ (by simp [idsOk])⟩
   ·all_goals exact wk
   ·repeat' first|exact rfl|exact trivial|exact wR|exact lR _|apply aI
    all_goals first | exact leM_refl _ | exact leM_nr _ _ | exact encM_bnd _ _ | (show leRL _ (List.map _ (_ ++ [_])); rw [List.map_append]; refine leRL_snoc ?_ (lR _); (repeat' first|exact rfl|exact trivial|exact wR|exact lR _|apply aI); done) | (simp [pushN]; done) | (simp [pushN]; omega)

theorem countP_lt {α : Type} {p q : α → Bool} : ∀ {l : List α},(∀ x ∈ l,p x = true → q x = true) → (∃ y ∈ l,q y = true ∧ p y = false) → l.countP p < l.countP q
 | [],_,h=>by obtain ⟨y,hy,_⟩:=h; simp at hy
 | x :: l,h1,h2=>by
   simp only [List.countP_cons]
   have hle : l.countP p ≤ l.countP q:=List.countP_mono_left fun y hy=>h1 y (by simp [hy])
   obtain ⟨y,hy,hq,hp⟩:=h2
   rcases List.mem_cons.1 hy with rfl | hy
   ·rw [if_pos hq,if_neg (by rw [hp]; simp)]; omega
   ·have ih:=countP_lt (l:=l) (fun z hz=>h1 z (by simp [hz])) ⟨y,hy,hq,hp⟩
    have:=h1 x (by simp)
    split
    ·rename_i hpx; rw [if_pos (this hpx)]; omega
    ·omega

theorem ok_gateC {m : Md} {x : Node} (h : okN m x) (h2 : x.1 = 2) : x ∈ allNodes m:=by
 rcases h with h | h | h
 ·omega
 ·omega
 ·exact h

theorem rank_bd {m : Md} (hc : ClosedM m) {rank : Node → Nat} (hr : RankM m rank) : ∃ rank',RankM m rank' ∧ ∀ x,rank' x ≤ (allNodes m).length:=by
 refine ⟨fun x=>(allNodes m).countP fun z=>decide (rank z < rank x),?_,fun x=>List.countP_le_length⟩
 intro x hx h2 y hy hy2
 have hxa:=(okN_kids hc hx h2)
 have hlt:=hr x hx h2 y hy hy2
 refine countP_lt (fun z _ h=>?_) ⟨y,?_,?_,?_⟩
 ·have:=of_decide_eq_true h
  exact decide_eq_true (by omega)
 ·exact ok_gateC (hxa.2 y hy) hy2
 ·exact decide_eq_true hlt
 ·exact decide_eq_false (by omega)
def fuelC (m : Md) : Nat:=(allNodes m).length + 2

theorem MOk.rank {m : Md} (hM : MOk m) : ∃ rank,RankM m rank ∧ ∀ x,lvl rank x < fuelC m:=by
 obtain ⟨rank,hr⟩:=cyc_rank hM.closed hM.cyc
 obtain ⟨rank',hr',hb⟩:=rank_bd hM.closed hr
 refine ⟨rank',hr',fun x=>?_⟩
 have:=hb x
 unfold lvl fuelC
 split <;> omega

def compTop (m : Md) (s : Str) : (Bool × Int) × CS:=compN m m.evs.length (fuelC m) (resR m (-1) s) ⟨[],[]⟩

def atR (m : Md) (s : Str) : Fo × Int :=
 if (inputR m (-1) s).2 ≠ 0 then (⟨0,[],0⟩,(inputR m (-1) s).2) else if (compTop m s).1.1 = true then (⟨0,[],0⟩,7)
 else (⟨m.evs.length,(compTop m s).2.nodes,(compTop m s).1.2⟩,0)

abbrev atAV (r : Fo × Int) : AV:=.tup [r.1.av,errAV r.2]

theorem CInv.nil (m : Md) : CInv m ⟨[],[]⟩:=⟨rfl,by simp,by simp⟩

theorem c_at (m : Md) (s : Str) (hC : MdC m) (hB : MdB m) (R : AV) (hR : R = atAV (atR m s)) : FnH Tryz.prog 23 [m.av,.str s] [] R []:=by
 have ci:=c_Input m (-1) s hC hB _ rfl
 have bE:=errAV_bnd (inputR m (-1) s).2
 by_cases hi : (inputR m (-1) s).2 ≠ 0
 ·rw [show atR m s = (⟨0,[],0⟩,(inputR m (-1) s).2) from if_pos hi] at hR
  subst hR
  rw [errAV_ne hi] at ci
  rw [show atAV (⟨0,[],0⟩,(inputR m (-1) s).2) = .tup [(⟨0,[],0⟩ : Fo).av,.ifc 79 (.int .i64 (inputR m (-1) s).2)] from by unfold atAV; rw [errAV_ne hi]]
  generalize inputR m (-1) s = q at *
  obtain ⟨⟨q1,q2,q3⟩,e⟩:=q
  refine FnH.intro lay mixed Tryz.func23 (by kernel_rfl) rfl (by kernel_rfl) rfl fun hok=>?_
  (try dsimp only[argC,succC]);(try dsimp only[awp]);conv=>whnf
  refine .pure _ _ ?_ ⟨rfl,rfl⟩ ci fun _=>?_
  ·exact leL_refl _
  (try dsimp only[awp]);conv=>whnf
  refine ⟨⟨_,_,.refl _ _,?_⟩⟩
  conv=>whnf
  refine ⟨?_,rfl,by simp [nextId],.mk ?_ (by simp [idsOk])⟩
  ·all_goals exact wk
  ·all_goals exact wk
 have hi : (inputR m (-1) s).2 = 0:=by simpa using hi
 have hin0 : checkM m = 0 ∧ isInR m (-1) s = true:=by
  unfold inputR at hi
  split at hi
  ·rename_i h; exact absurd hi h
  rename_i h0
  rw [if_neg (by omega),if_neg (by omega)] at hi
  split at hi
  ·cases hi
  ·rename_i h; exact ⟨by simpa using h0,by simpa using h⟩
 have hM:=checkM_ok hin0.1
 have hin:=hM.inOk (.inl rfl) hin0.2
 obtain ⟨rank,hr,hb⟩:=hM.rank
 have cw:=c_cinput m hM hB rank hr (fuelC m) (-1) s ⟨[],[]⟩ (.inl rfl) hin (hb _) (.nil m)
 rw [show compN m m.evs.length (fuelC m) (resR m (-1) s) ⟨[],[]⟩ = compTop m s from rfl] at cw
 rw [hi,errAV_zero] at ci
 have hR2 : atR m s = if (compTop m s).1.1 = true then (⟨0,[],0⟩,7) else (⟨m.evs.length,(compTop m s).2.nodes,(compTop m s).1.2⟩,0):=if_neg (by rw [hi]; simp)
 rw [hR2] at hR
 clear hR2 hi
 generalize inputR m (-1) s = q at *
 obtain ⟨⟨q1,q2,q3⟩,e⟩:=q
 generalize compTop m s = r at *
 obtain ⟨⟨rb,ra⟩,rn,re⟩:=r
 dsimp only at hR
 have cv : Cv [] [(3,.box (.ag [m.av,.ag [.int .i64 m.evs.length,.nils,.int .i64 0],.mp 2])),(2,.amap shN []),(1,.box (.ag [.int .i64 0,.nils,.int .i64 0])),(0,.box m.av)] [] [(4,.tok 3 0),(3,.box (.ag [m.av,.ag [.int .i64 m.evs.length,.sl 3 [] (.own 4),.int .i64 0],.mp 2])),(2,.amap shN []),(1,.box (.ag [.int .i64 0,.nils,.int .i64 0])),(0,.box m.av)] :=
  .growF 3 [1,1] 3 [] (.ag [m.av,.ag [.int .i64 m.evs.length,.nils,.int .i64 0],.mp 2]) .nils _ rfl rfl (.inl ⟨rfl,rfl⟩) rfl (.refl _ _)
 cases rb with
 | true =>
   rw [if_pos rfl] at hR
   subst hR
   rw [show compAV ((true,ra),⟨rn,re⟩) = .tup [.int .i64 ra,.ifc 79 (.int .i64 7)] from rfl] at cw
   refine FnH.intro lay mixed Tryz.func23 (by kernel_rfl) rfl (by kernel_rfl) rfl fun hok=>?_
   (try dsimp only[argC,succC]);(try dsimp only[awp]);conv=>whnf
   refine .pure _ _ ?_ ⟨rfl,rfl⟩ ci fun _=>?_
   ·exact leL_refl _
   (try dsimp only[awp]);conv=>whnf
   rw [show (((m.evs.map Ev.av).length : Nat) : Int) = (m.evs.length : Int) by simp]
   refine .gen _ _ (FnH.pre cv (FnH.frame [2,3,4] cw ⟨rfl,rfl,rfl,rfl⟩ ?_ ?_)) fun _=>?_
   ·all_goals exact wk
   ·all_goals exact wk
   (try dsimp only[awp]);conv=>whnf
   refine ⟨⟨_,_,.refl _ _,?_⟩⟩
   conv=>whnf
   refine ⟨?_,rfl,by simp [nextId],.mk ?_ (by simp [idsOk])⟩
   ·all_goals exact wk
   ·all_goals exact wk
 | false =>
   rw [if_neg (by simp)] at hR
   subst hR
   rw [show compAV ((false,ra),⟨rn,re⟩) = .tup [.int .i64 ra,.nilI] from rfl] at cw
   refine FnH.intro lay mixed Tryz.func23 (by kernel_rfl) rfl (by kernel_rfl) rfl fun hok=>?_
   (try dsimp only[argC,succC]);(try dsimp only[awp]);conv=>whnf
   refine .pure _ _ ?_ ⟨rfl,rfl⟩ ci fun _=>?_
   ·exact leL_refl _
   (try dsimp only[awp]);conv=>whnf
   rw [show (((m.evs.map Ev.av).length : Nat) : Int) = (m.evs.length : Int) by simp]
   refine .gen _ _ (FnH.pre cv (FnH.frame [2,3,4] cw ⟨rfl,rfl,rfl,rfl⟩ ?_ ?_)) fun _=>?_
   ·all_goals exact wk
   ·all_goals exact wk
   (try dsimp only[awp]);conv=>whnf
   refine ⟨⟨_,_,.refl _ _,?_⟩⟩
   conv=>whnf
   refine ⟨?_,rfl,by simp [nextId],.mk ?_ (by simp [idsOk])⟩
   ·all_goals exact wk
   ·all_goals exact wk

theorem errAV_two (e : Int) : errAV e = .nilI ∨ ∃ c : Int,errAV e = .ifc 79 (.int .i64 c):=by
 by_cases h : e = 0
 ·left; rw [h]; rfl
 ·right; exact ⟨e,errAV_ne h⟩

def staticR (m : Md) : Fo × Int:=if checkM m ≠ 0 then (⟨0,[],0⟩,checkM m) else atR m m.top

theorem c_Static (m : Md) (hC : MdC m) (hB : MdB m) (R : AV) (hR : R = atAV (staticR m)) : FnH Tryz.prog 17 [m.av] [] R []:=by
 have cc:=c_mCheck m hC hB _ rfl
 by_cases h0 : checkM m ≠ 0
 ·rw [errAV_ne h0] at cc
  rw [show staticR m = (⟨0,[],0⟩,checkM m) from if_pos h0] at hR
  rw [show atAV (⟨0,[],0⟩,checkM m) = .tup [(⟨0,[],0⟩ : Fo).av,.ifc 79 (.int .i64 (checkM m))] from by unfold atAV; rw [errAV_ne h0]] at hR
  subst hR
  refine FnH.intro lay mixed Tryz.func17 (by kernel_rfl) rfl (by kernel_rfl) rfl fun hok=>?_
  (try dsimp only[argC,succC]);(try dsimp only[awp]);conv=>whnf
  refine .pure _ _ ?_ ⟨rfl,rfl⟩ cc fun _=>?_
  ·exact leL_refl _
  (try dsimp only[awp]);conv=>whnf
  refine ⟨⟨_,_,.refl _ _,?_⟩⟩
  conv=>whnf
  refine ⟨?_,rfl,by simp [nextId],.mk ?_ (by simp [idsOk])⟩
  ·all_goals exact wk
  ·all_goals exact wk
 have h0 : checkM m = 0:=by simpa using h0
 rw [h0,errAV_zero] at cc
 have ca:=c_at m m.top hC hB _ rfl
 rw [show staticR m = atR m m.top from if_neg (by rw [h0]; simp)] at hR
 subst hR
 unfold atAV at *
 have hE:=errAV_two (atR m m.top).2
 generalize errAV (atR m m.top).2 = E at *
 generalize (atR m m.top).1 = f at *
 rcases hE with rfl | ⟨c,rfl⟩
 all_goals
  refine FnH.intro lay mixed Tryz.func17 (by kernel_rfl) rfl (by kernel_rfl) rfl fun hok=>?_
  (try dsimp only[argC,succC]);(try dsimp only[awp]);conv=>whnf
  refine .pure _ _ ?_ ⟨rfl,rfl⟩ cc fun _=>?_
  ·exact leL_refl _
  (try dsimp only[awp]);conv=>whnf
  refine .pure _ _ ?_ ⟨rfl,rfl⟩ ca fun _=>?_
  ·exact leL_refl _
  (try dsimp only[awp]);conv=>whnf
  refine ⟨⟨_,_,.refl _ _,?_⟩⟩
  conv=>whnf
  refine ⟨?_,rfl,by simp [nextId],.mk ?_ (by simp [idsOk])⟩
  ·all_goals exact wk
  ·all_goals exact wk

def shortX (x : Rat) : Prop:=x.num.length ≤ 40 ∧ x.den.length ≤ 40

structure MdX (m : Md) : Prop where
 evs : ∀ x ∈ m.evs,shortX x.p ∧ shortX x.fail ∧ shortX x.repair
 gates : ∀ x ∈ m.gates,shortX x.dorm
 pages : ∀ p ∈ m.pages,∀ x ∈ p.gates,shortX x.dorm
 grs : ∀ x ∈ m.grs,∀ f ∈ x.fac,shortX f
 phs : ∀ x ∈ m.phs,∀ v ∈ x.vals,shortX v.p

theorem shortX_of {x : Rat} (h : shortR x = true) : shortX x:=by
 simpa [shortR,shortX] using h

theorem few_X {l : List Mg} (h : fewR l = true) : ∀ x ∈ l,shortX x.dorm:=by
 intro x hx
 unfold fewR at h
 simp only [Bool.and_eq_true] at h
 have:=List.all_eq_true.1 h.1 x hx
 simp only [fewG,Bool.and_eq_true] at this
 exact shortX_of this.2

theorem lightM_X {m : Md} (h : lightM m = true) : MdX m:=by
 unfold lightM at h
 simp only [Bool.and_eq_true,decide_eq_true_eq] at h
 obtain ⟨⟨⟨⟨⟨⟨⟨⟨⟨h1,h2⟩,h3⟩,h4⟩,h5⟩,h6⟩,h7⟩,h8⟩,h9⟩,h10⟩:=h
 refine ⟨fun x hx=>?_,few_X h6,fun p hp=>few_X (List.all_eq_true.1 h8 p hp),fun g hg f hf=>?_,fun p hp v hv=>?_⟩
 ·have:=List.all_eq_true.1 h7 x hx
  simp only [evS,Bool.and_eq_true] at this
  exact ⟨shortX_of this.1.1,shortX_of this.1.2,shortX_of this.2⟩
 ·have:=List.all_eq_true.1 h9 g hg
  simp only [grS,Bool.and_eq_true] at this
  exact shortX_of (List.all_eq_true.1 this.2 f hf)
 ·have:=List.all_eq_true.1 h10 p hp
  simp only [phS,Bool.and_eq_true] at this
  exact shortX_of (List.all_eq_true.1 this.2 v hv)



theorem c_rParts (r : Rat) (l1 : r.num.length ≤ 300000) (l2 : r.den.length ≤ 300000) :
  FnH Tryz.prog 121 [r.av] [] (if valid r = true ∧ r.num ≠ [] then .tup [.bool r.neg,wL r.num,wL r.den] else .tup [.bool false,wL [],wL [1]]) []:=by
 have cv:=c_rValid r l1 l2
 generalize hR : (if valid r = true ∧ r.num ≠ [] then AV.tup [.bool r.neg,wL r.num,wL r.den] else .tup [.bool false,wL [],wL [1]]) = R
 refine FnH.intro lay mixed Tryz.func121 (by kernel_rfl) rfl (by kernel_rfl) rfl fun hok=>?_
 have en : (((r.num.map (AV.int .u32)).length : Nat) : Int) = (r.num.length : Int):=by simp
 (try dsimp only[argC,succC]);(try dsimp only[awp]);conv=>whnf
 refine .pure _ _ ?_ ⟨rfl,rfl⟩ cv fun _=>?_
 ·exact leL_refl _
 (try dsimp only[awp]);conv=>whnf
 refine And.intro (fun p1=>?_) (fun p1=>?_)
 ·have p1 : valid r = false:=by simpa using p1
  rw [if_neg (by simp [p1])] at hR
  subst hR
  (try dsimp only[awp]);conv=>whnf
  refine fM ?_;(conv=>whnf);refine ⟨?_,rfl⟩;conv=>whnf
  all_goals exact wk
 ·have p1 : valid r = true:=by simpa using p1
  (try dsimp only[awp]);conv=>whnf
  refine And.intro (fun p2=>?_) (fun p2=>?_)
  ·have p2 : r.num = []:=List.eq_nil_of_length_eq_zero (by rw [en] at p2; omega)
   rw [if_neg (by simp [p2])] at hR
   subst hR
   (try dsimp only[awp]);conv=>whnf
   refine fM ?_;(conv=>whnf);refine ⟨?_,rfl⟩;conv=>whnf
   all_goals exact wk
  ·have p2 : ¬ r.num = []:=fun e=>p2 (by rw [e]; rfl)
   rw [if_pos ⟨p1,p2⟩] at hR
   subst hR
   (try dsimp only[awp]);conv=>whnf
   refine ADraw.auto (by kernel_rfl) ?_;conv=>whnf
   refine fM ?_;(conv=>whnf);refine ⟨?_,rfl⟩;conv=>whnf
   all_goals exact wk

theorem c_rFrom (neg : Bool) (n d : Nat) (hn : (wd n).length ≤ 300000) (hd : (wd d).length ≤ 300000) (h0 : d ≠ 0) : FnH Tryz.prog 133 [.bool neg,wL (wd n),wL (wd d)] [] (.tup [(formR neg n d).av,.int .i64 0]) []:=by
 have cb:=c_rBits (wd n) (by omega)
 have cd:=c_rBits (wd d) (by omega)
 rw [val_wd] at cb cd
 have hbd : blen d ≠ 0:=fun h=>h0 (blen_zero.1 h)
 by_cases hz : n = 0
 ·have hb : blen n = 0:=blen_zero.2 hz
  rw [hb] at cb
  rw [show formR neg n d = ⟨false,[],[]⟩ from if_pos hz]
  refine FnH.intro lay mixed Tryz.func133 (by kernel_rfl) rfl (by kernel_rfl) rfl fun hok=>?_
  (try dsimp only[argC,succC]);(try dsimp only[awp]);conv=>whnf
  refine .pure _ _ ?_ ⟨rfl,rfl⟩ cd fun _=>?_
  ·exact leL_refl _
  (try dsimp only[awp]);conv=>whnf
  refine And.intro (fun h=>by exfalso; omega) (fun _=>?_)
  (try dsimp only[awp]);conv=>whnf
  refine .pure _ _ ?_ ⟨rfl,rfl⟩ cb fun _=>?_
  ·exact leL_refl _
  (try dsimp only[awp]);conv=>whnf
  refine And.intro (fun _=>?_) (fun h=>absurd rfl h)
  (try dsimp only[awp]);conv=>whnf
  refine fM ?_;(conv=>whnf);refine ⟨?_,rfl⟩;conv=>whnf
  all_goals exact wk
 have hb : blen n ≠ 0:=fun h=>hz (blen_zero.1 h)
 have hg0 : Nat.gcd n d ≠ 0:=by
  have:=Nat.gcd_pos_of_pos_left d (show 0 < n by omega)
  omega
 have hgn : Nat.gcd n d ≤ n:=Nat.gcd_le_left d (by omega)
 have hgl:=wd_len_mono hgn
 have cg:=c_rGcd (wd n) (wd d) (by omega) (by omega)
 rw [val_wd,val_wd] at cg
 have d1:=c_rDiv (wd n) (wd (Nat.gcd n d)) (by omega) (by omega) (by rw [val_wd]; exact hg0)
 have d2:=c_rDiv (wd d) (wd (Nat.gcd n d)) (by omega) (by omega) (by rw [val_wd]; exact hg0)
 rw [val_wd,val_wd] at d1 d2
 rw [show formR neg n d = ⟨neg,wd (n / Nat.gcd n d),wd (d / Nat.gcd n d)⟩ from if_neg hz]
 generalize Nat.gcd n d = g at *
 refine FnH.intro lay mixed Tryz.func133 (by kernel_rfl) rfl (by kernel_rfl) rfl fun hok=>?_
 (try dsimp only[argC,succC]);(try dsimp only[awp]);conv=>whnf
 refine .pure _ _ ?_ ⟨rfl,rfl⟩ cd fun _=>?_
 ·exact leL_refl _
 (try dsimp only[awp]);conv=>whnf
 refine And.intro (fun h=>by exfalso; omega) (fun _=>?_)
 (try dsimp only[awp]);conv=>whnf
 refine .pure _ _ ?_ ⟨rfl,rfl⟩ cb fun _=>?_
 ·exact leL_refl _
 (try dsimp only[awp]);conv=>whnf
 refine And.intro (fun h=>by exfalso; omega) (fun _=>?_)
 (try dsimp only[awp]);conv=>whnf
 refine .pure _ _ ?_ ⟨rfl,rfl⟩ cg fun _=>?_
 ·exact leL_refl _
 (try dsimp only[awp]);conv=>whnf
 refine .pure _ _ ?_ ⟨rfl,rfl⟩ d1 fun _=>?_
 ·exact leL_refl _
 (try dsimp only[awp]);conv=>whnf
 refine .pure _ _ ?_ ⟨rfl,rfl⟩ d2 fun _=>?_
 ·exact leL_refl _
 (try dsimp only[awp]);conv=>whnf
 refine fM ?_;(conv=>whnf);refine ⟨?_,rfl⟩;conv=>whnf
 all_goals exact wk

theorem partsLe {r : Rat} (w1 : Ws r.num) (w2 : Ws r.den) (l1 : r.num.length ≤ 100000) (l2 : r.den.length ≤ 100000) : (wd (partsR r).2.1).length ≤ 100000 ∧ (wd (partsR r).2.2).length ≤ 100000:=by
 by_cases h : valid r = true ∧ r.num ≠ []
 ·have hp : partsR r = (r.neg,val r.num,val r.den):=if_pos h
  obtain ⟨h1,h2⟩:=h
  unfold valid at h1
  rw [if_neg (fun h=>h2 h.1)] at h1
  simp only [Bool.and_eq_true] at h1
  obtain ⟨e1,_⟩:=plain_wd h1.1.1 w1
  obtain ⟨e2,n2⟩:=plain_wd h1.1.2 w2
  rw [hp,show wd (r.neg,val r.num,val r.den).2.1 = r.num from e1,show wd (r.neg,val r.num,val r.den).2.2 = r.den from e2]
  exact ⟨l1,l2⟩
 ·have hp : partsR r = (false,0,1):=if_neg h
  have e1 : wd 1 = [1]:=wd_small (by omega) (by omega)
  rw [hp,show wd ((false,0,1) : Bool × Nat × Nat).2.1 = [] from wd_zero,show wd ((false,0,1) : Bool × Nat × Nat).2.2 = [1] from e1]
  simp

theorem c_words (a b : List Int) : FnH Tryz.prog 62 [wL a,wL b] [] (.bool (decide (a = b))) []:=by
 refine FnH.intro lay mixed Tryz.func62 (by kernel_rfl) rfl (by kernel_rfl) rfl fun hok=>?_
 have ha : a.length ≤ 9223372036854775807:=by simpa [OkL,Ok,maxL] using hok.1.1
 (try dsimp only[argC,succC]);(try dsimp only[awp]);conv=>whnf
 refine And.intro (fun h=>?_) (fun h=>?_)
 ·have h : a ≠ b:=by intro e; apply h; rw [e]
  conv=>whnf
  refine fM ?_;(conv=>whnf);refine ⟨?_,rfl⟩;conv=>whnf
  simpa using h
 have h : a.length = b.length:=by simp only [List.length_map] at h; omega
 (try dsimp only[awp]);conv=>whnf
 refine LoopE.of <| LoopSpec.inv (.refl _ _) (fun (i : Nat)=>i ≤ a.length ∧ (a = b ↔ a.drop i = b.drop i)) (fun (i : Nat)=>[(13,.int .i64 i)]) (fun _=>_) (fun (i : Nat)=>a.length - i) 0 ?_ (fun _=>rfl) ?_ ?_
 ·exact ⟨Nat.zero_le _,by simp⟩
 ·all_goals exact wk
 rintro i ⟨hi,hx⟩ _
 (try dsimp only[awp]);conv=>whnf
 refine And.intro (fun h1=>?_) (fun h1=>?_)
 ·have hlt : i < a.length:=by simpa using h1
  have hlt2 : i < b.length:=by omega
  rw [List.drop_eq_getElem_cons hlt,List.drop_eq_getElem_cons hlt2] at hx
  (try dsimp only[awp]);conv=>whnf
  refine ADraw.auto (by kernel_rfl) ?_;conv=>whnf
  refine aidx hlt ?_
  (try dsimp only[awp]);conv=>whnf
  refine aidx hlt2 ?_
  (try dsimp only[awp]);conv=>whnf
  refine And.intro (fun h2=>?_) (fun h2=>?_)
  ·(try dsimp only[awp]);conv=>whnf
   refine fM ?_;(conv=>whnf);refine ⟨?_,rfl⟩;conv=>whnf
   have : ¬ a = b:=fun e=>h2 (by simpa using (List.cons.inj (hx.1 e)).1)
   simpa using this
  ·have h2 : a[i] = b[i]:=by simpa using h2
   (try dsimp only[awp]);conv=>whnf
   refine zA ?_;conv=>whnf
   refine ⟨i + 1,?_,?_,?_⟩
   ·refine ⟨hlt,?_⟩
    rw [hx,h2]
    exact ⟨fun e=>(List.cons.inj e).2,fun e=>by rw [e]⟩
   ·all_goals exact wk
   ·omega
 ·have hil : i = a.length:=by have : ¬ i < a.length:=by simpa using h1
                              omega
  (try dsimp only[awp]);conv=>whnf
  refine fM ?_;(conv=>whnf);refine ⟨?_,rfl⟩;conv=>whnf
  have : a = b:=hx.2 (by rw [hil,List.drop_length,h,List.drop_length])
  simpa using this

theorem c_ratEq (a b : Rat) : FnH Tryz.prog 35 [a.av,b.av] [] (.bool (decide (a = b))) []:=by
 have c1:=c_words a.num b.num
 have c2:=c_words a.den b.den
 have e : a = b ↔ a.neg = b.neg ∧ a.num = b.num ∧ a.den = b.den:=by cases a; cases b; simp
 refine FnH.intro lay mixed Tryz.func35 (by kernel_rfl) rfl (by kernel_rfl) rfl fun hok=>?_
 (try dsimp only[argC,succC]);(try dsimp only[awp]);conv=>whnf
 refine And.intro (fun h1=>?_) (fun h1=>?_)
 ·(try dsimp only[awp]);conv=>whnf
  refine .pure _ _ ?_ ⟨rfl,rfl⟩ c1 fun _=>?_
  ·exact leL_refl _
  (try dsimp only[awp]);conv=>whnf
  refine And.intro (fun h2=>?_) (fun h2=>?_)
  ·have h2 : a.num = b.num:=by simpa using h2
   (try dsimp only[awp]);conv=>whnf
   refine .pure _ _ ?_ ⟨rfl,rfl⟩ c2 fun _=>?_
   ·exact leL_refl _
   (try dsimp only[awp]);conv=>whnf
   refine fM ?_;(conv=>whnf);refine ⟨?_,rfl⟩;conv=>whnf
   simp [e,h1,h2]
  ·have h2 : ¬ a.num = b.num:=by simpa using h2
   (try dsimp only[awp]);conv=>whnf
   refine fM ?_;(conv=>whnf);refine ⟨?_,rfl⟩;conv=>whnf
   simp [e,h2]
 ·(try dsimp only[awp]);conv=>whnf
  refine fM ?_;(conv=>whnf);refine ⟨?_,rfl⟩;conv=>whnf
  simp [e,h1]


theorem c_Num (e : Int) : FnH Tryz.prog 11 [errAV e] [] (.int .i64 e) []:=by
 by_cases h0 : e = 0
 ·subst h0
  rw [errAV_zero]
  refine FnH.intro lay mixed Tryz.func11 (by kernel_rfl) rfl (by kernel_rfl) rfl fun hok=>?_
  (try dsimp only[argC,succC]);(try dsimp only[awp]);conv=>whnf
  refine fM ?_;(conv=>whnf);refine ⟨?_,rfl⟩;conv=>whnf
  all_goals exact wk
 ·rw [errAV_ne h0]
  refine FnH.intro lay mixed Tryz.func11 (by kernel_rfl) rfl (by kernel_rfl) rfl fun hok=>?_
  (try dsimp only[argC,succC]);(try dsimp only[awp]);conv=>whnf
  refine fM ?_;(conv=>whnf);refine ⟨?_,rfl⟩;conv=>whnf
  all_goals exact wk

def boundsR (k : Int) : Int × Int :=
 if k = 0 ∨ k = 1 ∨ k = 4 ∨ k = 2 then (1,16) else if k = 3 then (1,1) else if k = 5 then (2,2) else if k = 6 ∨ k = 7 ∨ k = 8 then (2,16) else (0,0)


theorem radd_arith {p x y c s va vb D : Nat} (hD : x + y + c = D) (h : s + p * c = va + vb) : s + p * (D % 4294967296) + p * 4294967296 * (D / 4294967296) = va + p * x + (vb + p * y):=by
 have e : D = D % 4294967296 + 4294967296 * (D / 4294967296):=(Nat.mod_add_div _ _).symm
 have e2 : p * D = p * (D % 4294967296) + p * (4294967296 * (D / 4294967296)):=by rw [← Nat.mul_add,← e]
 have e3 : p * D = p * x + p * y + p * c:=by rw [← hD,Nat.mul_add,Nat.mul_add]
 rw [← Nat.mul_assoc] at e2
 omega

theorem radd_fin {B m la lb a b s c : Nat} (hB : 2 ≤ B) (ha : a < B ^ la) (hb : b < B ^ lb) (hla : la < m) (hlb : lb < m) (h : s + B ^ m * c = a + b) : s = a + b:=by
 have h1 : B ^ la ≤ B ^ (m - 1):=Nat.pow_le_pow_right (by omega) (by omega)
 have h2 : B ^ lb ≤ B ^ (m - 1):=Nat.pow_le_pow_right (by omega) (by omega)
 have h3 : B ^ m = B ^ (m - 1) * B:=by rw [← Nat.pow_succ]; congr 1; omega
 have h4 : B ^ (m - 1) * 2 ≤ B ^ (m - 1) * B:=Nat.mul_le_mul_left _ hB
 cases c with
 | zero=>simpa using h
 | succ c =>
   exfalso
   have h5 : B ^ m * 1 ≤ B ^ m * (c + 1):=Nat.mul_le_mul_left _ (by omega)
   rw [h3] at h5 h
   omega

theorem c_r1Add (a b : List Int) (ha : a.length ≤ 900000) (hb : b.length ≤ 900000) : FnH Tryz.prog 142 [wL a,wL b] [] (wL (wd (val a + val b))) []:=by
 refine FnH.intro lay mixed Tryz.func142 (by kernel_rfl) rfl (by kernel_rfl) rfl fun hok=>?_
 have wa : Ws a:=Ws.ok hok.1.2
 have wb : Ws b:=Ws.ok hok.2.1.2
 (try dsimp only[argC,succC]);(try dsimp only[awp]);conv=>whnf
 obtain ⟨m,hm⟩ : ∃ m,max a.length b.length + 1 = m:=⟨_,rfl⟩
 have em : max (((a.map (AV.int .u32)).length : Nat) : Int) (((b.map (AV.int .u32)).length : Nat) : Int) + 1 = (m : Int):=by simp only [List.length_map]; omega
 refine And.intro (by rw [em]; exact inr64 (by omega) (by omega)) ?_
 rw [em]
 conv=>whnf
 refine LoopE.of <| LoopSpec.inv (.grow 5 1 [] _ rfl (.inl ⟨rfl,rfl⟩) (.refl _ _)) (fun x : Nat × Nat × List Int=>x.1 ≤ m ∧ x.2.1 ≤ 1 ∧ Ws x.2.2 ∧ x.2.2.length = x.1 ∧ val x.2.2 + 4294967296 ^ x.1 * x.2.1 = val (a.take x.1) + val (b.take x.1))
  (fun | (i,c,s)=>[(15,.int .i64 i),(6,.int .u64 c),(5,.sl 1 (s.map (.int .u32)) (.own 0))]) (fun | (_,_,s)=>[(0,.tok 1 s.length)])
  (fun x=>m - x.1) (0,0,[]) ?_ (fun _=>rfl) ?_ ?_
 ·exact ⟨Nat.zero_le _,by simp,Ws.nil,rfl,by simp [val]⟩
 ·refine ⟨?_,.mk ?_ ⟨by simp,trivial⟩⟩
  ·all_goals exact wk
  ·all_goals exact wk
 rintro ⟨i,c,s⟩ ⟨hi,hc,hws,hsl,hv⟩ _
 simp only at hi hc hws hsl hv
 (try dsimp only[awp]);conv=>whnf
 refine And.intro (fun h=>?_) (fun h=>?_)
 ·have hlt : i < m:=by omega
  have ca:=c_rWord a i
  have cb:=c_rWord b i
  have hva:=val_take_getD (l:=a) (i:=i)
  have hvb:=val_take_getD (l:=b) (i:=i)
  have hxa:=wa.getD (i:=i)
  have hxb:=wb.getD (i:=i)
  generalize a.getD i 0 = x0 at *
  generalize b.getD i 0 = y0 at *
  obtain ⟨x,rfl⟩ : ∃ x : Nat,x0 = x:=⟨x0.toNat,by omega⟩
  obtain ⟨w,rfl⟩ : ∃ x : Nat,y0 = x:=⟨y0.toNat,by omega⟩
  rw [Int.toNat_natCast] at hva hvb
  (try dsimp only[awp]);conv=>whnf
  refine .gen _ _ (FnH.ofPure ca (leL_refl _) ⟨rfl,rfl⟩) fun _=>?_
  (try dsimp only[awp]);conv=>whnf
  refine .gen _ _ (FnH.ofPure cb (leL_refl _) ⟨rfl,rfl⟩) fun _=>?_
  conv=>whnf
  rw [show ((x : Int) + (w : Int)) = ((x + w : Nat) : Int) from (Int.natCast_add x w).symm,wrap_u64 (n:=((x + w : Nat) : Int)) (by omega) (by omega)]
  rw [show (((x + w : Nat) : Int) + (c : Int)) = ((x + w + c : Nat) : Int) from (Int.natCast_add (x + w) c).symm,wrap_u64 (n:=((x + w + c : Nat) : Int)) (by omega) (by omega)]
  obtain ⟨D,hD⟩ : ∃ D,x + w + c = D:=⟨_,rfl⟩
  rw [hD]
  conv=>whnf
  rw [wrapu32_mod (a:=D)]
  refine ⟨by rw [List.length_map],?_⟩
  refine ⟨by simp [maxL]; omega,by simp; omega,?_⟩
  conv=>whnf
  refine ⟨by decide,?_⟩
  rw [shr_word rfl]
  conv=>whnf
  refine zA ?_;conv=>whnf
  refine ⟨(i + 1,D / 4294967296,s ++ [((D % 4294967296 : Nat) : Int)]),?_,?_,?_⟩
  ·refine ⟨hlt,(by omega : D / 4294967296 ≤ 1),hws.append (Ws.cons (by omega) Ws.nil),by simp [hsl],?_⟩
   show val (s ++ [((D % 4294967296 : Nat) : Int)]) + 4294967296 ^ (i + 1) * (D / 4294967296) = val (a.take (i + 1)) + val (b.take (i + 1))
   have e1 : val (s ++ [((D % 4294967296 : Nat) : Int)]) = val s + 4294967296 ^ i * (D % 4294967296):=by
    rw [val_append,hsl]
    show _ + _ * ((((D % 4294967296 : Nat) : Int)).toNat + 4294967296 * 0) = _
    rw [Int.toNat_natCast]; rfl
   rw [hva,hvb,e1,Nat.pow_succ]
   exact radd_arith hD hv
  ·refine ⟨?_,.mk ?_ ⟨by simp,trivial⟩⟩
   ·repeat' first|exact rfl|exact trivial|exact wR|exact lR _|apply aI
    all_goals first | (refine leRL_of ?_; simp [strip]; done) | simp
   ·repeat' first|exact rfl|exact trivial|exact wR|exact lR _|apply aI
    all_goals simp
  ·show m - (i + 1) < m - i
   omega
 ·have hil : i = m:=by omega
  subst hil
  rw [List.take_of_length_le (by omega),List.take_of_length_le (by omega)] at hv
  have hfin : val s = val a + val b:=radd_fin (by omega) (val_lt wa) (val_lt wb) (by omega) (by omega) hv
  have ct:=c_rTrim s (by omega)
  rw [hfin] at ct
  (try dsimp only[awp]);conv=>whnf
  refine .pure _ _ ?_ ⟨rfl,rfl⟩ ct fun _=>?_
  ·all_goals exact wk
  (try dsimp only[awp]);conv=>whnf
  refine fM ?_;(conv=>whnf);refine ⟨?_,rfl⟩;conv=>whnf
  all_goals exact wk

def negR (a : Rat) : Rat:=formR (!(partsR a).1) (partsR a).2.1 (partsR a).2.2

def sumR (s t : Bool) (x y d : Nat) : Rat:=if s = t then formR s (x + y) d else if x < y then formR t (y - x) d else formR s (x - y) d

def addR (a b : Rat) : Rat:=sumR (partsR a).1 (partsR b).1 ((partsR a).2.1 * (partsR b).2.2) ((partsR b).2.1 * (partsR a).2.2) ((partsR a).2.2 * (partsR b).2.2)

theorem c_rNeg (a : Rat) (a1 : a.num.length ≤ 100000) (a2 : a.den.length ≤ 100000) : FnH Tryz.prog 132 [a.av] [] (negR a).av []:=by
 have ca:=c_rParts a (by omega) (by omega)
 refine FnH.intro lay mixed Tryz.func132 (by kernel_rfl) rfl (by kernel_rfl) rfl fun hok=>?_
 have pa:=partsOk (ratWs hok).1 (ratWs hok).2 (by omega) (by omega)
 have qa:=partsLe (ratWs hok).1 (ratWs hok).2 a1 a2
 rw [pa.eq] at ca
 have cf:=c_rFrom (!(partsR a).1) (partsR a).2.1 (partsR a).2.2 (by omega) (by omega) pa.den
 have hm : negR a = formR (!(partsR a).1) (partsR a).2.1 (partsR a).2.2:=rfl
 rw [← hm] at cf
 generalize negR a = R at *
 (try dsimp only[argC,succC]);(try dsimp only[awp]);conv=>whnf
 refine .pure _ _ ?_ ⟨rfl,rfl⟩ ca fun _=>?_
 ·exact leL_refl _
 (try dsimp only[awp]);conv=>whnf
 refine .pure _ _ ?_ ⟨rfl,rfl⟩ cf fun _=>?_
 ·all_goals exact wk
 (try dsimp only[awp]);conv=>whnf
 refine fM ?_;(conv=>whnf);refine ⟨?_,rfl⟩;conv=>whnf
 all_goals exact wk

theorem wd_eq_nil {x : Nat} : wd x = [] ↔ x = 0:=by
 constructor
 ·intro h
  apply Classical.byContradiction
  intro h0
  rw [wd_pos h0] at h; cases h
 ·rintro rfl; exact wd_zero

theorem wd_len_add {x y k : Nat} (hx : (wd x).length ≤ k) (hy : (wd y).length ≤ k) : (wd (x + y)).length ≤ k + 1:=by
 refine wd_len_lt ?_
 have h1:=val_lt (wd_Ws x)
 have h2:=val_lt (wd_Ws y)
 rw [val_wd] at h1 h2
 have h3 : 4294967296 ^ (wd x).length ≤ 4294967296 ^ k:=Nat.pow_le_pow_right (by omega) hx
 have h4 : 4294967296 ^ (wd y).length ≤ 4294967296 ^ k:=Nat.pow_le_pow_right (by omega) hy
 rw [Nat.pow_succ]
 generalize 4294967296 ^ k = p at *
 generalize 4294967296 ^ (wd x).length = q at *
 generalize 4294967296 ^ (wd y).length = r at *
 omega

theorem c_rAdd (a b : Rat) (a1 : a.num.length ≤ 100000) (a2 : a.den.length ≤ 100000) (b1 : b.num.length ≤ 100000) (b2 : b.den.length ≤ 100000) : FnH Tryz.prog 131 [a.av,b.av] [] (addR a b).av []:=by
 have ca:=c_rParts a (by omega) (by omega)
 have cb:=c_rParts b (by omega) (by omega)
 refine FnH.intro lay mixed Tryz.func131 (by kernel_rfl) rfl (by kernel_rfl) rfl fun hok=>?_
 have pa:=partsOk (ratWs hok).1 (ratWs hok).2 (by omega) (by omega)
 have pb:=partsOk (ratWs hok.2).1 (ratWs hok.2).2 (by omega) (by omega)
 have qa:=partsLe (ratWs hok).1 (ratWs hok).2 a1 a2
 have qb:=partsLe (ratWs hok.2).1 (ratWs hok.2).2 b1 b2
 rw [pa.eq] at ca
 rw [pb.eq] at cb
 have hR : addR a b = sumR (partsR a).1 (partsR b).1 ((partsR a).2.1 * (partsR b).2.2) ((partsR b).2.1 * (partsR a).2.2) ((partsR a).2.2 * (partsR b).2.2):=rfl
 have m1:=c_rMul (wd (partsR a).2.1) (wd (partsR b).2.2) pa.ln pb.ld
 have m2:=c_rMul (wd (partsR b).2.1) (wd (partsR a).2.2) pb.ln pa.ld
 have m3:=c_rMul (wd (partsR a).2.2) (wd (partsR b).2.2) pa.ld pb.ld
 rw [val_wd,val_wd] at m1 m2 m3
 have l1:=wd_len_mul qa.1 qb.2
 have l2:=wd_len_mul qb.1 qa.2
 have l3:=wd_len_mul qa.2 qb.2
 have hne : (partsR a).2.2 * (partsR b).2.2 ≠ 0:=Nat.mul_ne_zero pa.den pb.den
 generalize addR a b = R at *
 generalize (partsR a).2.1 * (partsR b).2.2 = x at *
 generalize (partsR b).2.1 * (partsR a).2.2 = y at *
 generalize (partsR a).2.2 * (partsR b).2.2 = d at *
 have l4:=wd_len_add l1 l2
 have l5:=wd_len_mono (Nat.sub_le x y)
 have l6:=wd_len_mono (Nat.sub_le y x)
 have cA:=c_r1Add (wd x) (wd y) (by omega) (by omega)
 have cC:=c_rCmp (wd x) (wd y) (by omega) (by omega)
 have cS:=c_rSub (wd x) (wd y) (by omega) (by omega) _ rfl
 have cS2:=c_rSub (wd y) (wd x) (by omega) (by omega) _ rfl
 rw [val_wd,val_wd] at cA cC cS cS2
 have cf1:=c_rFrom (partsR a).1 (x + y) d (by omega) (by omega) hne
 have cf2:=c_rFrom (partsR a).1 (x - y) d (by omega) (by omega) hne
 have cf3:=c_rFrom (partsR b).1 (y - x) d (by omega) (by omega) hne
 unfold sumR at hR
 generalize (partsR a).1 = s at *
 generalize (partsR b).1 = t at *
 (try dsimp only[argC,succC]);(try dsimp only[awp]);conv=>whnf
 refine .pure _ _ ?_ ⟨rfl,rfl⟩ ca fun _=>?_
 ·exact leL_refl _
 (try dsimp only[awp]);conv=>whnf
 refine .pure _ _ ?_ ⟨rfl,rfl⟩ cb fun _=>?_
 ·exact leL_refl _
 (try dsimp only[awp]);conv=>whnf
 refine .pure _ _ ?_ ⟨rfl,rfl⟩ m1 fun _=>?_
 ·exact leL_refl _
 (try dsimp only[awp]);conv=>whnf
 refine .pure _ _ ?_ ⟨rfl,rfl⟩ m2 fun _=>?_
 ·exact leL_refl _
 (try dsimp only[awp]);conv=>whnf
 refine .pure _ _ ?_ ⟨rfl,rfl⟩ m3 fun _=>?_
 ·exact leL_refl _
 (try dsimp only[awp]);conv=>whnf
 refine And.intro (fun hst=>?_) (fun hst=>?_)
 ·have hst : s = t:=by simpa using hst
  rw [if_pos hst] at hR
  subst hR
  (try dsimp only[awp]);conv=>whnf
  refine .pure _ _ ?_ ⟨rfl,rfl⟩ cA fun _=>?_
  ·exact leL_refl _
  (try dsimp only[awp]);conv=>whnf
  refine .pure _ _ ?_ ⟨rfl,rfl⟩ cf1 fun _=>?_
  ·exact leL_refl _
  (try dsimp only[awp]);conv=>whnf
  refine fM ?_;(conv=>whnf);refine ⟨?_,rfl⟩;conv=>whnf
  all_goals exact wk
 have hst : ¬ s = t:=by simpa using hst
 rw [if_neg hst] at hR
 (try dsimp only[awp]);conv=>whnf
 refine .pure _ _ ?_ ⟨rfl,rfl⟩ cC fun _=>?_
 ·exact leL_refl _
 (try dsimp only[awp]);conv=>whnf
 refine And.intro (fun hxy=>?_) (fun hxy=>?_)
 ·have hlt : x < y:=by
   unfold cmpN at hxy
   split at hxy
   ·assumption
   ·split at hxy <;> omega
  rw [if_pos hlt] at hR
  subst hR
  rw [if_neg (by omega)] at cS2
  (try dsimp only[awp]);conv=>whnf
  refine .pure _ _ ?_ ⟨rfl,rfl⟩ cS2 fun _=>?_
  ·exact leL_refl _
  (try dsimp only[awp]);conv=>whnf
  refine .pure _ _ ?_ ⟨rfl,rfl⟩ cf3 fun _=>?_
  ·exact leL_refl _
  (try dsimp only[awp]);conv=>whnf
  refine fM ?_;(conv=>whnf);refine ⟨?_,rfl⟩;conv=>whnf
  all_goals exact wk
 ·have hlt : ¬ x < y:=by
   intro hlt
   unfold cmpN at hxy
   rw [if_pos hlt] at hxy
   omega
  rw [if_neg hlt] at hR
  subst hR
  rw [if_neg hlt] at cS
  (try dsimp only[awp]);conv=>whnf
  refine .pure _ _ ?_ ⟨rfl,rfl⟩ cS fun _=>?_
  ·exact leL_refl _
  (try dsimp only[awp]);conv=>whnf
  refine .pure _ _ ?_ ⟨rfl,rfl⟩ cf2 fun _=>?_
  ·exact leL_refl _
  (try dsimp only[awp]);conv=>whnf
  refine fM ?_;(conv=>whnf);refine ⟨?_,rfl⟩;conv=>whnf
  all_goals exact wk

def signR (r : Rat) : Int:=if (partsR r).2.1 = 0 then 0 else if (partsR r).1 = true then -1 else 1

theorem c_rSign (a : Rat) (a1 : a.num.length ≤ 300000) (a2 : a.den.length ≤ 300000) : FnH Tryz.prog 92 [a.av] [] (.int .i64 (signR a)) []:=by
 have ca:=c_rParts a (by omega) (by omega)
 have hR : signR a = if (partsR a).2.1 = 0 then 0 else if (partsR a).1 = true then -1 else 1:=rfl
 refine FnH.intro lay mixed Tryz.func92 (by kernel_rfl) rfl (by kernel_rfl) rfl fun hok=>?_
 have pa:=partsOk (ratWs hok).1 (ratWs hok).2 (by omega) (by omega)
 rw [pa.eq] at ca
 have hz:=wd_eq_nil (x:=(partsR a).2.1)
 generalize signR a = R at *
 generalize (partsR a).2.1 = x at *
 generalize (partsR a).1 = s at *
 (try dsimp only[argC,succC]);(try dsimp only[awp]);conv=>whnf
 refine .pure _ _ ?_ ⟨rfl,rfl⟩ ca fun _=>?_
 ·exact leL_refl _
 (try dsimp only[awp]);conv=>whnf
 refine And.intro (fun h=>?_) (fun h=>?_)
 ·have h0 : x = 0:=hz.1 (List.eq_nil_of_length_eq_zero (by simpa using h))
  rw [if_pos h0] at hR
  subst hR
  (try dsimp only[awp]);conv=>whnf
  refine fM ?_;(conv=>whnf);refine ⟨?_,rfl⟩;conv=>whnf
  all_goals exact wk
 have h0 : ¬ x = 0:=by
  intro h0
  apply h
  rw [hz.2 h0]; rfl
 rw [if_neg h0] at hR
 (try dsimp only[awp]);conv=>whnf
 refine And.intro (fun hs=>?_) (fun hs=>?_)
 ·rw [if_pos hs] at hR
  subst hR
  (try dsimp only[awp]);conv=>whnf
  refine fM ?_;(conv=>whnf);refine ⟨?_,rfl⟩;conv=>whnf
  all_goals exact wk
 ·rw [if_neg (by simp [hs])] at hR
  subst hR
  (try dsimp only[awp]);conv=>whnf
  refine fM ?_;(conv=>whnf);refine ⟨?_,rfl⟩;conv=>whnf
  all_goals exact wk


theorem plain_of_wd {x : Nat} (h : x ≠ 0) : plainR (wd x) = true:=by
 have h1 : wd x ≠ []:=fun e=>h (wd_eq_nil.1 e)
 have h2 : (wd x).getLastD 0 ≠ 0:=by
  rcases wd_Pl x with h2 | h2
  ·exact absurd h2 h1
  ·exact h2
 simp only [plainR,Bool.and_eq_true,decide_eq_true_eq]
 exact ⟨h1,h2⟩

theorem parts_form {neg : Bool} {x d : Nat} (hx : x ≠ 0) (hd : d ≠ 0) : partsR (formR neg x d) = (neg,x / Nat.gcd x d,d / Nat.gcd x d) ∧ x / Nat.gcd x d ≠ 0:=by
 have hg : 0 < Nat.gcd x d:=Nat.gcd_pos_of_pos_left d (by omega)
 have h1 : x / Nat.gcd x d ≠ 0:=by
  have:=Nat.div_pos (Nat.gcd_le_left d (by omega : 0 < x)) hg
  omega
 have h2 : d / Nat.gcd x d ≠ 0:=by
  have:=Nat.div_pos (Nat.gcd_le_right x (by omega : 0 < d)) hg
  omega
 have hc : Nat.gcd (x / Nat.gcd x d) (d / Nat.gcd x d) = 1:=Nat.gcd_div_gcd_div_gcd_of_pos_left (by omega)
 unfold formR
 rw [if_neg hx]
 generalize x / Nat.gcd x d = a at *
 generalize d / Nat.gcd x d = b at *
 refine ⟨?_,h1⟩
 have hn : wd a ≠ []:=fun e=>h1 (wd_eq_nil.1 e)
 have hv : valid ⟨neg,wd a,wd b⟩ = true:=by
  unfold valid
  rw [if_neg (fun h=>hn h.1)]
  show (plainR (wd a) && plainR (wd b) && decide (Nat.gcd (val (wd a)) (val (wd b)) = 1)) = true
  rw [plain_of_wd h1,plain_of_wd h2,val_wd,val_wd]
  simpa using hc
 unfold partsR
 rw [if_pos ⟨hv,hn⟩]
 show (neg,val (wd a),val (wd b)) = _
 rw [val_wd,val_wd]

theorem sign_form {neg : Bool} {x d : Nat} (hd : d ≠ 0) : signR (formR neg x d) = if x = 0 then 0 else if neg = true then -1 else 1:=by
 by_cases hx : x = 0
 ·rw [if_pos hx]
  unfold formR
  rw [if_pos hx]
  have e : partsR ⟨false,[],[]⟩ = (false,0,1):=if_neg (fun h=>h.2 rfl)
  unfold signR
  rw [e]
  rfl
 ·rw [if_neg hx]
  obtain ⟨h1,h2⟩:=parts_form (neg:=neg) hx hd
  unfold signR
  rw [h1,if_neg h2]

theorem signR_eq {r : Rat} (w1 : Ws r.num) : signR r = sign r:=by
 unfold signR sign partsR
 by_cases h : valid r = true ∧ r.num ≠ []
 ·rw [if_pos h,if_pos h]
  obtain ⟨h1,h2⟩:=h
  unfold valid at h1
  rw [if_neg (fun h=>h2 h.1)] at h1
  simp only [Bool.and_eq_true] at h1
  rw [if_neg (plain_wd h1.1.1 w1).2]
 ·rw [if_neg h,if_neg h]; rfl

abbrev oneR : Rat:=⟨false,[1],[1]⟩

theorem wd_one : wd 1 = [1]:=wd_small (by omega) (by omega)

theorem parts_one (neg : Bool) : partsR ⟨neg,[1],[1]⟩ = (neg,1,1):=by
 have h:=(parts_form (neg:=neg) (x:=1) (d:=1) (by omega) (by omega)).1
 have e : formR neg 1 1 = ⟨neg,[1],[1]⟩:=by
  unfold formR
  rw [if_neg (by omega)]
  simp [wd_one]
 rw [e] at h
 simpa using h

theorem neg_one : negR oneR = ⟨true,[1],[1]⟩:=by
 unfold negR
 rw [parts_one]
 unfold formR
 rw [if_neg (by simp)]
 simp [wd_one]

theorem prob_law {r : Rat} (w1 : Ws r.num) (w2 : Ws r.den) : (valid r && decide (0 ≤ sign r) && decide (signR (addR r (negR oneR)) ≤ 0)) = prob r:=by
 unfold prob
 cases hv : valid r with
 | false=>simp
 | true =>
   rw [neg_one]
   unfold addR
   rw [parts_one]
   have hp : partsR r = if r.num ≠ [] then (r.neg,val r.num,val r.den) else (false,0,1):=by
    unfold partsR; simp [hv]
   have hs : sign r = if r.num ≠ [] then (if r.neg then -1 else 1) else 0:=by
    unfold sign; simp [hv]
   have hv':=hv
   unfold valid at hv'
   by_cases hn : r.num = []
   ·rw [hp,hs,if_neg (by simp [hn]),if_neg (by simp [hn])]
    have hdn : r.den = []:=by
     apply Classical.byContradiction
     intro hd
     rw [if_neg (fun h=>hd h.2),hn] at hv'
     simp [plainR] at hv'
    rw [if_pos ⟨hn,hdn⟩] at hv'
    have hneg : r.neg = false:=by simpa using hv'
    have e : sumR false true (0 * 1) (1 * 1) (1 * 1) = formR true 1 1:=rfl
    show (true && decide ((0 : Int) ≤ 0) && decide (signR (sumR false true (0 * 1) (1 * 1) (1 * 1)) ≤ 0)) = _
    rw [e,sign_form (by omega),hn,hdn,hneg]
    decide
   ·rw [hp,hs,if_pos hn,if_pos hn]
    rw [if_neg (fun h=>hn h.1)] at hv'
    simp only [Bool.and_eq_true] at hv'
    obtain ⟨e1,n1⟩:=plain_wd hv'.1.1 w1
    obtain ⟨e2,n2⟩:=plain_wd hv'.1.2 w2
    cases hneg : r.neg with
    | true=>simp
    | false =>
      show (true && decide ((0 : Int) ≤ 1) && decide (signR (sumR false true (val r.num * 1) (1 * val r.den) (val r.den * 1)) ≤ 0)) = (true && !false && decide (val r.num ≤ val r.den))
      rw [Nat.mul_one,Nat.one_mul,Nat.mul_one]
      unfold sumR
      rw [if_neg (by decide)]
      by_cases hlt : val r.num < val r.den
      ·rw [if_pos hlt,sign_form n2,if_neg (by omega)]
       simp; omega
      ·rw [if_neg hlt,sign_form n2]
       by_cases h0 : val r.num - val r.den = 0
       ·rw [if_pos h0]; simp; omega
       ·rw [if_neg h0]; simp; omega

theorem c_rSub1 (a : Rat) (a1 : a.num.length ≤ 90000) (a2 : a.den.length ≤ 90000) : FnH Tryz.prog 122 [a.av,oneR.av] [] (addR a (negR oneR)).av []:=by
 have c1:=c_rNeg oneR (by simp) (by simp)
 have n1 : (negR oneR).num.length ≤ 90000:=by rw [neg_one]; simp
 have n2 : (negR oneR).den.length ≤ 90000:=by rw [neg_one]; simp
 have c2:=c_rAdd a (negR oneR) (by omega) (by omega) (by omega) (by omega)
 generalize addR a (negR oneR) = R at *
 generalize negR oneR = N at *
 refine FnH.intro lay mixed Tryz.func122 (by kernel_rfl) rfl (by kernel_rfl) rfl fun hok=>?_
 (try dsimp only[argC,succC]);(try dsimp only[awp]);conv=>whnf
 refine ADraw.auto (by kernel_rfl) ?_;conv=>whnf
 refine ACallP.pure _ _ ?_ ⟨rfl,rfl⟩ c1 ?_
 ·exact leL_refl _
 (try dsimp only[awp]);conv=>whnf
 refine ACallP.pure _ _ ?_ ⟨rfl,rfl⟩ c2 ?_
 ·exact leL_refl _
 (try dsimp only[awp]);conv=>whnf
 refine fM ?_;(conv=>whnf);refine ⟨?_,rfl⟩;conv=>whnf
 all_goals exact wk

theorem form_len {neg : Bool} {x d k : Nat} (hx : (wd x).length ≤ k) (hd : (wd d).length ≤ k) : (formR neg x d).num.length ≤ k ∧ (formR neg x d).den.length ≤ k:=by
 unfold formR
 split
 ·simp
 ·have h1:=wd_len_mono (Nat.div_le_self x (Nat.gcd x d))
  have h2:=wd_len_mono (Nat.div_le_self d (Nat.gcd x d))
  exact ⟨by show (wd _).length ≤ k; omega,by show (wd _).length ≤ k; omega⟩

theorem add_len {a b : Rat} (wa : Ws a.num ∧ Ws a.den) (wb : Ws b.num ∧ Ws b.den) (a1 : a.num.length ≤ 100000) (a2 : a.den.length ≤ 100000) (b1 : b.num.length ≤ 100000) (b2 : b.den.length ≤ 100000) :
  (addR a b).num.length ≤ 200001 ∧ (addR a b).den.length ≤ 200001:=by
 have qa:=partsLe wa.1 wa.2 a1 a2
 have qb:=partsLe wb.1 wb.2 b1 b2
 have l1:=wd_len_mul qa.1 qb.2
 have l2:=wd_len_mul qb.1 qa.2
 have l3:=wd_len_mul qa.2 qb.2
 unfold addR sumR
 generalize (partsR a).2.1 * (partsR b).2.2 = x at *
 generalize (partsR b).2.1 * (partsR a).2.2 = y at *
 generalize (partsR a).2.2 * (partsR b).2.2 = d at *
 have l4:=wd_len_add l1 l2
 have l5:=wd_len_mono (Nat.sub_le x y)
 have l6:=wd_len_mono (Nat.sub_le y x)
 split
 ·exact form_len (by omega) (by omega)
 ·split
  ·exact form_len (by omega) (by omega)
  ·exact form_len (by omega) (by omega)

theorem c_rCmp1 (a : Rat) (a1 : a.num.length ≤ 90000) (a2 : a.den.length ≤ 90000) : FnH Tryz.prog 93 [a.av,oneR.av] [] (.int .i64 (signR (addR a (negR oneR)))) []:=by
 have c1:=c_rSub1 a a1 a2
 refine FnH.intro lay mixed Tryz.func93 (by kernel_rfl) rfl (by kernel_rfl) rfl fun hok=>?_
 have w:=ratWs hok
 have hl:=add_len w (b:=negR oneR) (by rw [neg_one]; exact ⟨Ws.cons (by omega) Ws.nil,Ws.cons (by omega) Ws.nil⟩) (by omega) (by omega) (by rw [neg_one]; simp) (by rw [neg_one]; simp)
 have c2:=c_rSign (addR a (negR oneR)) (by omega) (by omega)
 generalize addR a (negR oneR) = R at *
 (try dsimp only[argC,succC]);(try dsimp only[awp]);conv=>whnf
 refine .pure _ _ ?_ ⟨rfl,rfl⟩ c1 fun _=>?_
 ·exact leL_refl _
 (try dsimp only[awp]);conv=>whnf
 refine .pure _ _ ?_ ⟨rfl,rfl⟩ c2 fun _=>?_
 ·exact leL_refl _
 (try dsimp only[awp]);conv=>whnf
 refine fM ?_;(conv=>whnf);refine ⟨?_,rfl⟩;conv=>whnf
 all_goals exact wk

theorem c_rProb (h1 : OneC) (a : Rat) (a1 : a.num.length ≤ 90000) (a2 : a.den.length ≤ 90000) : FnH Tryz.prog 50 [a.av] [] (.bool (prob a)) []:=by
 have cv:=c_rValid a (by omega) (by omega)
 have cs:=c_rSign a (by omega) (by omega)
 have cc:=c_rCmp1 a a1 a2
 refine FnH.intro lay mixed Tryz.func50 (by kernel_rfl) rfl (by kernel_rfl) rfl fun hok=>?_
 have w:=ratWs hok
 have hl:=prob_law w.1 w.2
 rw [signR_eq w.1] at cs
 generalize signR (addR a (negR oneR)) = z at *
 rw [← hl]
 (try dsimp only[argC,succC]);(try dsimp only[awp]);conv=>whnf
 refine ADraw.auto (by kernel_rfl) ?_;conv=>whnf
 refine ACallP.pure _ _ ?_ ⟨rfl,rfl⟩ cv ?_
 ·exact leL_refl _
 (try dsimp only[awp]);conv=>whnf
 refine And.intro (fun p1=>?_) (fun p1=>?_)
 ·(try dsimp only[awp]);conv=>whnf
  refine ACallP.pure _ _ ?_ ⟨rfl,rfl⟩ cs ?_
  ·exact leL_refl _
  (try dsimp only[awp]);conv=>whnf
  refine And.intro (fun p2=>?_) (fun p2=>?_)
  ·(try dsimp only[awp]);conv=>whnf
   refine ACallP.pure _ _ ?_ ⟨rfl,rfl⟩ h1 ?_
   ·exact leL_refl _
   (try dsimp only[awp]);conv=>whnf
   refine ACallP.pure _ _ ?_ ⟨rfl,rfl⟩ cc ?_
   ·exact leL_refl _
   (try dsimp only[awp]);conv=>whnf
   refine fM ?_;(conv=>whnf);refine ⟨?_,rfl⟩;conv=>whnf
   show _ ↔ _
   simp [p1,p2]
  ·(try dsimp only[awp]);conv=>whnf
   refine fM ?_;(conv=>whnf);refine ⟨?_,rfl⟩;conv=>whnf
   simp [p1,p2]
 ·(try dsimp only[awp]);conv=>whnf
  refine fM ?_;(conv=>whnf);refine ⟨?_,rfl⟩;conv=>whnf
  simp [p1]

theorem c_revent (m : Md) (s : Str) : FnH Tryz.prog 49 [m.av,.str s] [] (.int .i64 (i_event m.evs s)) []:=by
 refine FnH.intro lay mixed Tryz.func49 (by kernel_rfl) rfl (by kernel_rfl) rfl fun hok=>?_
 have hl : m.evs.length ≤ 9223372036854775807:=by
  have:=hok.1
  simp only [Ok,OkL] at this
  have : (m.evs.map Ev.av).length ≤ maxL:=by simp only [this]
  simpa [maxL] using this
 (try dsimp only[argC,succC]);(try dsimp only[awp]);conv=>whnf
 refine LoopE.of <| LoopSpec.inv (.refl _ _) (fun (i : Nat)=>i ≤ m.evs.length ∧ ∀ (j : Nat) (hj : j < m.evs.length),j < i → decide ((m.evs)[j].name = s) = false) (fun (i : Nat)=>[(10,.int .i64 i)]) (fun _=>_) (fun (i : Nat)=>m.evs.length - i) 0 ?_ (fun _=>rfl) ?_ ?_
 ·exact ⟨Nat.zero_le _,by omega⟩
 ·all_goals exact wk
 rintro i ⟨hi,hn⟩ _
 (try dsimp only[awp]);conv=>whnf
 refine And.intro (fun h=>?_) (fun h=>?_)
 ·have hlt : i < m.evs.length:=by simpa using h
  have hyes : (m.evs)[i].name = s → i_event m.evs s = i:=fun e=>(by unfold i_event; exact idxP_some (p:=fun x=>decide (x.name = s)) hlt (by simpa using e) fun j hj=>hn j (by omega) hj)
  have hno : (m.evs)[i].name ≠ s → ∀ (j : Nat) (hj : j < m.evs.length),j < i + 1 → decide ((m.evs)[j].name = s) = false:=by
   intro e j hj hji
   by_cases e2 : j = i
   ·subst e2; exact decide_eq_false e
   ·exact hn j hj (by omega)
  (try dsimp only[awp]);conv=>whnf
  refine aidx hlt ?_
  generalize (m.evs)[i] = x at *
  (try dsimp only[awp]);conv=>whnf
  refine And.intro (fun h1=>?_) (fun h1=>?_)
  ·rw [hyes h1]
   (try dsimp only[awp]);conv=>whnf
   refine fM ?_;(conv=>whnf);refine ⟨?_,rfl⟩;conv=>whnf
   all_goals exact wk
  ·(try dsimp only[awp]);conv=>whnf
   refine zA ?_;conv=>whnf
   refine ⟨i + 1,?_,?_,?_⟩
   ·exact ⟨hlt,hno h1⟩
   ·refine ⟨?_,.mk ?_ ⟨by simp,trivial⟩⟩
    ·all_goals exact wk
    ·all_goals exact wk
   ·omega
 ·have hlt : ¬ i < m.evs.length:=by simpa using h
  rw [show i_event m.evs s = -1 from by unfold i_event; exact idxP_none (p:=fun x=>decide (x.name = s)) fun j hj=>hn j hj (by omega)]
  (try dsimp only[awp]);conv=>whnf
  refine fM ?_;(conv=>whnf);refine ⟨?_,rfl⟩;conv=>whnf
  all_goals exact wk
theorem c_rhouse (m : Md) (s : Str) : FnH Tryz.prog 52 [m.av,.str s] [] (.int .i64 (i_house m.hs s)) []:=by
 refine FnH.intro lay mixed Tryz.func52 (by kernel_rfl) rfl (by kernel_rfl) rfl fun hok=>?_
 have hl : m.hs.length ≤ 9223372036854775807:=by
  have:=hok.1
  simp only [Ok,OkL] at this
  have : (m.hs.map Hs.av).length ≤ maxL:=by simp only [this]
  simpa [maxL] using this
 (try dsimp only[argC,succC]);(try dsimp only[awp]);conv=>whnf
 refine LoopE.of <| LoopSpec.inv (.refl _ _) (fun (i : Nat)=>i ≤ m.hs.length ∧ ∀ (j : Nat) (hj : j < m.hs.length),j < i → decide ((m.hs)[j].name = s) = false) (fun (i : Nat)=>[(10,.int .i64 i)]) (fun _=>_) (fun (i : Nat)=>m.hs.length - i) 0 ?_ (fun _=>rfl) ?_ ?_
 ·exact ⟨Nat.zero_le _,by omega⟩
 ·all_goals exact wk
 rintro i ⟨hi,hn⟩ _
 (try dsimp only[awp]);conv=>whnf
 refine And.intro (fun h=>?_) (fun h=>?_)
 ·have hlt : i < m.hs.length:=by simpa using h
  have hyes : (m.hs)[i].name = s → i_house m.hs s = i:=fun e=>(by unfold i_house; exact idxP_some (p:=fun x=>decide (x.name = s)) hlt (by simpa using e) fun j hj=>hn j (by omega) hj)
  have hno : (m.hs)[i].name ≠ s → ∀ (j : Nat) (hj : j < m.hs.length),j < i + 1 → decide ((m.hs)[j].name = s) = false:=by
   intro e j hj hji
   by_cases e2 : j = i
   ·subst e2; exact decide_eq_false e
   ·exact hn j hj (by omega)
  (try dsimp only[awp]);conv=>whnf
  refine aidx hlt ?_
  generalize (m.hs)[i] = x at *
  (try dsimp only[awp]);conv=>whnf
  refine And.intro (fun h1=>?_) (fun h1=>?_)
  ·rw [hyes h1]
   (try dsimp only[awp]);conv=>whnf
   refine fM ?_;(conv=>whnf);refine ⟨?_,rfl⟩;conv=>whnf
   all_goals exact wk
  ·(try dsimp only[awp]);conv=>whnf
   refine zA ?_;conv=>whnf
   refine ⟨i + 1,?_,?_,?_⟩
   ·exact ⟨hlt,hno h1⟩
   ·refine ⟨?_,.mk ?_ ⟨by simp,trivial⟩⟩
    ·all_goals exact wk
    ·all_goals exact wk
   ·omega
 ·have hlt : ¬ i < m.hs.length:=by simpa using h
  rw [show i_house m.hs s = -1 from by unfold i_house; exact idxP_none (p:=fun x=>decide (x.name = s)) fun j hj=>hn j hj (by omega)]
  (try dsimp only[awp]);conv=>whnf
  refine fM ?_;(conv=>whnf);refine ⟨?_,rfl⟩;conv=>whnf
  all_goals exact wk
theorem c_rpage (m : Md) (s : Str) : FnH Tryz.prog 53 [m.av,.str s] [] (.int .i64 (i_page m.pages s)) []:=by
 refine FnH.intro lay mixed Tryz.func53 (by kernel_rfl) rfl (by kernel_rfl) rfl fun hok=>?_
 have hl : m.pages.length ≤ 9223372036854775807:=by
  have:=hok.1
  simp only [Ok,OkL] at this
  have : (m.pages.map Pg.av).length ≤ maxL:=by simp only [this]
  simpa [maxL] using this
 (try dsimp only[argC,succC]);(try dsimp only[awp]);conv=>whnf
 refine LoopE.of <| LoopSpec.inv (.refl _ _) (fun (i : Nat)=>i ≤ m.pages.length ∧ ∀ (j : Nat) (hj : j < m.pages.length),j < i → decide ((m.pages)[j].name = s) = false) (fun (i : Nat)=>[(10,.int .i64 i)]) (fun _=>_) (fun (i : Nat)=>m.pages.length - i) 0 ?_ (fun _=>rfl) ?_ ?_
 ·exact ⟨Nat.zero_le _,by omega⟩
 ·all_goals exact wk
 rintro i ⟨hi,hn⟩ _
 (try dsimp only[awp]);conv=>whnf
 refine And.intro (fun h=>?_) (fun h=>?_)
 ·have hlt : i < m.pages.length:=by simpa using h
  have hyes : (m.pages)[i].name = s → i_page m.pages s = i:=fun e=>(by unfold i_page; exact idxP_some (p:=fun x=>decide (x.name = s)) hlt (by simpa using e) fun j hj=>hn j (by omega) hj)
  have hno : (m.pages)[i].name ≠ s → ∀ (j : Nat) (hj : j < m.pages.length),j < i + 1 → decide ((m.pages)[j].name = s) = false:=by
   intro e j hj hji
   by_cases e2 : j = i
   ·subst e2; exact decide_eq_false e
   ·exact hn j hj (by omega)
  (try dsimp only[awp]);conv=>whnf
  refine aidx hlt ?_
  generalize (m.pages)[i] = x at *
  (try dsimp only[awp]);conv=>whnf
  refine And.intro (fun h1=>?_) (fun h1=>?_)
  ·rw [hyes h1]
   (try dsimp only[awp]);conv=>whnf
   refine fM ?_;(conv=>whnf);refine ⟨?_,rfl⟩;conv=>whnf
   all_goals exact wk
  ·(try dsimp only[awp]);conv=>whnf
   refine zA ?_;conv=>whnf
   refine ⟨i + 1,?_,?_,?_⟩
   ·exact ⟨hlt,hno h1⟩
   ·refine ⟨?_,.mk ?_ ⟨by simp,trivial⟩⟩
    ·all_goals exact wk
    ·all_goals exact wk
   ·omega
 ·have hlt : ¬ i < m.pages.length:=by simpa using h
  rw [show i_page m.pages s = -1 from by unfold i_page; exact idxP_none (p:=fun x=>decide (x.name = s)) fun j hj=>hn j hj (by omega)]
  (try dsimp only[awp]);conv=>whnf
  refine fM ?_;(conv=>whnf);refine ⟨?_,rfl⟩;conv=>whnf
  all_goals exact wk

theorem c_rgate (l : List Mg) (s : Str) : FnH Tryz.prog 55 [gL l,.str s] [] (.int .i64 (i_gate l s)) []:=by
 refine FnH.intro lay mixed Tryz.func55 (by kernel_rfl) rfl (by kernel_rfl) rfl fun hok=>?_
 have hl : l.length ≤ 9223372036854775807:=by have:=hok.1.1; simpa [maxL] using this
 (try dsimp only[argC,succC]);(try dsimp only[awp]);conv=>whnf
 refine LoopE.of <| LoopSpec.inv (.refl _ _) (fun (i : Nat)=>i ≤ l.length ∧ ∀ (j : Nat) (hj : j < l.length),j < i → decide (l[j].name = s) = false) (fun (i : Nat)=>[(9,.int .i64 i)]) (fun _=>_) (fun (i : Nat)=>l.length - i) 0 ?_ (fun _=>rfl) ?_ ?_
 ·exact ⟨Nat.zero_le _,by omega⟩
 ·all_goals exact wk
 rintro i ⟨hi,hn⟩ _
 (try dsimp only[awp]);conv=>whnf
 refine And.intro (fun h=>?_) (fun h=>?_)
 ·have hlt : i < l.length:=by simpa using h
  have hyes : l[i].name = s → i_gate l s = i:=fun e=>(by unfold i_gate; exact idxP_some (p:=fun x=>decide (x.name = s)) hlt (by simpa using e) fun j hj=>hn j (by omega) hj)
  have hno : l[i].name ≠ s → ∀ (j : Nat) (hj : j < l.length),j < i + 1 → decide (l[j].name = s) = false:=by
   intro e j hj hji
   by_cases e2 : j = i
   ·subst e2; exact decide_eq_false e
   ·exact hn j hj (by omega)
  (try dsimp only[awp]);conv=>whnf
  refine aidx hlt ?_
  generalize l[i] = x at *
  (try dsimp only[awp]);conv=>whnf
  refine And.intro (fun h1=>?_) (fun h1=>?_)
  ·rw [hyes h1]
   (try dsimp only[awp]);conv=>whnf
   refine fM ?_;(conv=>whnf);refine ⟨?_,rfl⟩;conv=>whnf
   all_goals exact wk
  ·(try dsimp only[awp]);conv=>whnf
   refine zA ?_;conv=>whnf
   refine ⟨i + 1,?_,?_,?_⟩
   ·exact ⟨hlt,hno h1⟩
   ·refine ⟨?_,.mk ?_ trivial⟩
    ·all_goals exact wk
    ·all_goals exact wk
   ·omega
 ·have hlt : ¬ i < l.length:=by simpa using h
  rw [show i_gate l s = -1 from by unfold i_gate; exact idxP_none (p:=fun x=>decide (x.name = s)) fun j hj=>hn j hj (by omega)]
  (try dsimp only[awp]);conv=>whnf
  refine fM ?_;(conv=>whnf);refine ⟨?_,rfl⟩;conv=>whnf
  all_goals exact wk

theorem c_letter21 (n : Int) : FnH Tryz.prog 89 [.int .u8 n] [] (.bool (letterN n)) []:=by
 refine FnH.intro lay mixed Tryz.func89 (by kernel_rfl) rfl (by kernel_rfl) rfl fun hok=>?_
 (try dsimp only[argC,succC]);(try dsimp only[awp]);conv=>whnf
 repeat' (first | (refine And.intro (fun _=>?_) (fun _=>?_) <;> ((try dsimp only[awp]);(conv=>whnf))))
 all_goals
  refine fM ?_;(conv=>whnf);refine ⟨?_,rfl⟩;conv=>whnf
  try simp_all [letterN]
 all_goals omega

theorem c_digit21 (n : Int) : FnH Tryz.prog 118 [.int .u8 n] [] (.bool (digitN n)) []:=by
 refine FnH.intro lay mixed Tryz.func118 (by kernel_rfl) rfl (by kernel_rfl) rfl fun hok=>?_
 (try dsimp only[argC,succC]);(try dsimp only[awp]);conv=>whnf
 repeat' (first | (refine And.intro (fun _=>?_) (fun _=>?_) <;> ((try dsimp only[awp]);(conv=>whnf))))
 all_goals
  refine fM ?_;(conv=>whnf);refine ⟨?_,rfl⟩;conv=>whnf
  try simp_all [digitN]
 all_goals omega

theorem c_inside (n : Int) : FnH Tryz.prog 90 [.int .u8 n] [] (.bool (inN n)) []:=by
 refine FnH.intro lay mixed Tryz.func90 (by kernel_rfl) rfl (by kernel_rfl) rfl fun hok=>?_
 (try dsimp only[argC,succC]);(try dsimp only[awp]);conv=>whnf
 refine .pure _ _ ?_ ⟨rfl,rfl⟩ (c_letter21 n) fun _=>?_
 ·exact leL_refl _
 (try dsimp only[awp]);conv=>whnf
 refine And.intro (fun h1=>?_) (fun h1=>?_)
 ·(try dsimp only[awp]);conv=>whnf
  refine fM ?_;(conv=>whnf);refine ⟨?_,rfl⟩;conv=>whnf
  simp [inN,h1]
 (try dsimp only[awp]);conv=>whnf
 refine .pure _ _ ?_ ⟨rfl,rfl⟩ (c_digit21 n) fun _=>?_
 ·exact leL_refl _
 (try dsimp only[awp]);conv=>whnf
 refine And.intro (fun h2=>?_) (fun h2=>?_)
 ·(try dsimp only[awp]);conv=>whnf
  refine fM ?_;(conv=>whnf);refine ⟨?_,rfl⟩;conv=>whnf
  simp [inN,h2]
 (try dsimp only[awp]);conv=>whnf
 refine And.intro (fun h3=>?_) (fun h3=>?_)
 ·(try dsimp only[awp]);conv=>whnf
  refine fM ?_;(conv=>whnf);refine ⟨?_,rfl⟩;conv=>whnf
  simp [inN,h3]
 (try dsimp only[awp]);conv=>whnf
 refine fM ?_;(conv=>whnf);refine ⟨?_,rfl⟩;conv=>whnf
 simp [inN,h1,h2,h3]

theorem c_Name21 (s : Str) : FnH Tryz.prog 48 [.str s] [] (.bool (nameR s)) []:=by
 have cl:=c_letter21 (s.getD 0 0).toNat
 obtain ⟨R,hR⟩ : ∃ R,AV.bool (nameR s) = R:=⟨_,rfl⟩
 rw [hR]
 refine FnH.intro lay mixed Tryz.func48 (by kernel_rfl) rfl (by kernel_rfl) rfl fun hok=>?_
 have hl : s.length ≤ 9223372036854775807:=by have:=hok.1; simpa [maxL,Ok] using this
 (try dsimp only[argC,succC]);(try dsimp only[awp]);conv=>whnf
 refine And.intro (fun h1=>?_) (fun h1=>?_)
 ·obtain rfl : R = .bool false:=by rw [← hR]; congr 1; unfold nameR; rw [decide_eq_false (show ¬ 0 < s.length by omega)]; rfl
  (try dsimp only[awp]);conv=>whnf
  refine fM ?_;(conv=>whnf);refine ⟨?_,rfl⟩;conv=>whnf
  all_goals exact wk
 have h1 : 0 < s.length:=by omega
 (try dsimp only[awp]);conv=>whnf
 refine And.intro (fun h2=>?_) (fun h2=>?_)
 ·obtain rfl : R = .bool false:=by rw [← hR]; congr 1; unfold nameR; rw [decide_eq_false (show ¬ s.length ≤ 24 by omega)]; simp
  (try dsimp only[awp]);conv=>whnf
  refine fM ?_;(conv=>whnf);refine ⟨?_,rfl⟩;conv=>whnf
  all_goals exact wk
 have h2 : s.length ≤ 24:=by omega
 (try dsimp only[awp]);conv=>whnf
 refine sidx0 h1 ?_
 (try dsimp only[awp]);conv=>whnf
 refine .pure _ _ ?_ ⟨rfl,rfl⟩ cl fun _=>?_
 ·exact leL_refl _
 (try dsimp only[awp]);conv=>whnf
 refine And.intro (fun h3=>?_) (fun h3=>?_)
 ·have h3 : letterN (s.getD 0 0).toNat = false:=by simpa using h3
  obtain rfl : R = .bool false:=by rw [← hR]; congr 1; unfold nameR; rw [h3]; simp
  (try dsimp only[awp]);conv=>whnf
  refine fM ?_;(conv=>whnf);refine ⟨?_,rfl⟩;conv=>whnf
  all_goals exact wk
 have h3 : letterN (s.getD 0 0).toNat = true:=by simpa using h3
 have hna : nameR s = s.all fun c=>inN c.toNat:=by unfold nameR; rw [decide_eq_true h1,decide_eq_true h2,h3]; rfl
 (try dsimp only[awp]);conv=>whnf
 refine LoopE.of <| LoopSpec.inv (.refl _ _) (fun (i : Nat)=>i ≤ s.length ∧ (s.take i).all (fun c=>inN c.toNat) = true) (fun (i : Nat)=>[(20,.int .i64 i)]) (fun _=>_) (fun (i : Nat)=>s.length - i) 0 ?_ (fun _=>rfl) ?_ ?_
 ·exact ⟨Nat.zero_le _,by simp⟩
 ·all_goals exact wk
 rintro i ⟨hi,hn⟩ _
 (try dsimp only[awp]);conv=>whnf
 refine And.intro (fun h=>?_) (fun h=>?_)
 ·have hlt : i < s.length:=by omega
  have hall:=all_take (p:=fun c : UInt8=>inN c.toNat) hlt
  have hmem:=List.getElem_mem hlt
  have cin:=c_inside s[i].toNat
  (try dsimp only[awp]);conv=>whnf
  refine sidx hlt ?_
  (try dsimp only[awp]);conv=>whnf
  refine .pure _ _ ?_ ⟨rfl,rfl⟩ cin fun _=>?_
  ·exact leL_refl _
  (try dsimp only[awp]);conv=>whnf
  refine And.intro (fun h4=>?_) (fun h4=>?_)
  ·have h4 : inN s[i].toNat = false:=by simpa using h4
   obtain rfl : R = .bool false:=by rw [← hR,hna,all_false (p:=fun c : UInt8=>inN c.toNat) hmem h4]
   (try dsimp only[awp]);conv=>whnf
   refine fM ?_;(conv=>whnf);refine ⟨?_,rfl⟩;conv=>whnf
   all_goals exact wk
  ·have h4 : inN s[i].toNat = true:=by simpa using h4
   (try dsimp only[awp]);conv=>whnf
   refine zA ?_;conv=>whnf
   refine ⟨i + 1,?_,?_,?_⟩
   ·exact ⟨hlt,by rw [hall,hn,h4]; rfl⟩
   ·all_goals exact wk
   ·omega
 ·have hil : i = s.length:=by omega
  rw [hil,List.take_length] at hn
  obtain rfl : R = .bool true:=by rw [← hR,hna,hn]
  (try dsimp only[awp]);conv=>whnf
  refine fM ?_;(conv=>whnf);refine ⟨?_,rfl⟩;conv=>whnf
  all_goals exact wk

theorem c_rrate (x : Rat) (hx : shortX x) : FnH Tryz.prog 51 [x.av] [] (.bool (rateB x)) []:=by
 have cv:=c_rValid x (by have:=hx.1; omega) (by have:=hx.2; omega)
 have cs:=c_rSign x (by have:=hx.1; omega) (by have:=hx.2; omega)
 refine FnH.intro lay mixed Tryz.func51 (by kernel_rfl) rfl (by kernel_rfl) rfl fun hok=>?_
 have w:=ratWs hok
 rw [signR_eq w.1] at cs
 (try dsimp only[argC,succC]);(try dsimp only[awp]);conv=>whnf
 refine .pure _ _ ?_ ⟨rfl,rfl⟩ cv fun _=>?_
 ·exact leL_refl _
 (try dsimp only[awp]);conv=>whnf
 refine And.intro (fun h1=>?_) (fun h1=>?_)
 ·(try dsimp only[awp]);conv=>whnf
  refine .pure _ _ ?_ ⟨rfl,rfl⟩ cs fun _=>?_
  ·exact leL_refl _
  (try dsimp only[awp]);conv=>whnf
  refine fM ?_;(conv=>whnf);refine ⟨?_,rfl⟩;conv=>whnf
  simp [rateB,h1]
 ·(try dsimp only[awp]);conv=>whnf
  refine fM ?_;(conv=>whnf);refine ⟨?_,rfl⟩;conv=>whnf
  simp [rateB,h1]

theorem c_rzero (r : Rat) : FnH Tryz.prog 56 [r.av] [] (.bool (zeroR r)) []:=by
 refine FnH.intro lay mixed Tryz.func56 (by kernel_rfl) rfl (by kernel_rfl) rfl fun hok=>?_
 (try dsimp only[argC,succC]);(try dsimp only[awp]);conv=>whnf
 refine And.intro (fun h=>?_) (fun h=>?_)
 all_goals
  (try dsimp only[awp]);conv=>whnf
  (repeat' (first|(refine aI (fun _=>?_) (fun _=>?_)<;>(conv=>whnf))|(refine ADraw.auto (by kernel_rfl) ?_;(conv=>whnf))|(refine fM ?_;(conv=>whnf);refine ⟨?_,rfl⟩;(conv=>whnf))|(refine aI (inr64 (by omega) (by omega)) ?_;(conv=>whnf))|(refine aI (by decide) ?_;(conv=>whnf))))
 all_goals (simp_all [zeroR]; done)


theorem c_rProbX (h1 : OneC) (x : Rat) (hx : shortX x) : FnH Tryz.prog 50 [x.av] [] (.bool (prob x)) []:=c_rProb h1 x (by have:=hx.1; omega) (by have:=hx.2; omega)

def firstR (m : Md) : Int:=if nameR m.name = false then 5 else if eventsErr m ≠ 0 then eventsErr m else pagesErr m

theorem c_first (h1 : OneC) (m : Md) (hX : MdX m) (hB : MdB m) (R : AV) (hR : R = .int .i64 (firstR m)) : FnH Tryz.prog 26 [m.av] [] R []:=by
 have ce:=fun s=>c_revent m s
 have ch:=fun s=>c_rhouse m s
 have cp:=fun s=>c_rpage m s
 have hpl:=hB.pages
 have hgl:=hB.gates.1
 refine FnH.intro lay mixed Tryz.func26 (by kernel_rfl) rfl (by kernel_rfl) rfl fun hok=>?_
 (try dsimp only[argC,succC]);(try dsimp only[awp]);conv=>whnf
 refine .pure _ _ ?_ ⟨rfl,rfl⟩ (c_Name21 m.name) fun _=>?_
 ·exact leL_refl _
 (try dsimp only[awp]);conv=>whnf
 refine And.intro (fun g0=>?_) (fun g0=>?_)
 ·have g0 : nameR m.name = false:=by simpa using g0
  obtain rfl : R = .int .i64 5:=by rw [hR,show firstR m = 5 from by unfold firstR; rw [if_pos g0]]
  (try dsimp only[awp]);conv=>whnf
  refine fM ?_;(conv=>whnf);refine ⟨?_,rfl⟩;conv=>whnf
  all_goals exact wk
 have g0 : ¬ nameR m.name = false:=by simpa using g0
 have ofE : ∀ e : Int,e ≠ 0 → eventsErr m = e → firstR m = e:=fun e he h=>by unfold firstR; rw [if_neg g0,h,if_pos he]
 (try dsimp only[awp]);conv=>whnf
 refine And.intro (fun n1=>?_) (fun n1=>?_)
 ·have n1 : 24 < m.evs.length:=by simp only [List.length_map] at n1; omega
  obtain rfl : R = .int .i64 4:=by rw [hR,show firstR m = 4 from by exact ofE 4 (by decide) (by unfold eventsErr; rw [if_pos n1])]
  (try dsimp only[awp]);conv=>whnf
  refine fM ?_;(conv=>whnf);refine ⟨?_,rfl⟩;conv=>whnf
  all_goals exact wk
 have n1 : ¬ 24 < m.evs.length:=by simp only [List.length_map] at n1; omega
 (try dsimp only[awp]);conv=>whnf
 refine LoopE.of <| LoopSpec.inv (.refl _ _) (fun (i : Nat)=>i ≤ m.evs.length ∧ errL (evErr m) 0 m.evs = errL (evErr m) i (m.evs.drop i)) (fun (i : Nat)=>[(23,.int .i64 i)]) (fun _=>_) (fun (i : Nat)=>m.evs.length - i) 0 ?_ (fun _=>rfl) ?_ ?_
 ·exact ⟨Nat.zero_le _,rfl⟩
 ·all_goals exact wk
 rintro i ⟨hi,hn⟩ _
 (try dsimp only[awp]);conv=>whnf
 refine And.intro (fun h=>?_) (fun h=>?_)
 ·have hlt : i < m.evs.length:=by simpa using h
  obtain ⟨rp,rf,rr⟩:=hX.evs _ (List.getElem_mem hlt)
  rw [errL_step hlt] at hn
  have cpr:=c_rProbX h1 _ rp
  have cf:=c_rrate _ rf
  have cr:=c_rrate _ rr
  have bad : ∀ e : Int,e ≠ 0 → evErr m i m.evs[i] = e → firstR m = e:=by
   intro e he h
   refine ofE e he ?_
   unfold eventsErr
   rw [h,if_pos he] at hn
   rw [if_neg n1,hn,if_pos he]
  (try dsimp only[awp]);conv=>whnf
  refine aidx hlt ?_
  generalize m.evs[i] = x at *
  (try dsimp only[awp]);conv=>whnf
  refine .pure _ _ ?_ ⟨rfl,rfl⟩ (c_Name21 x.name) fun _=>?_
  ·exact leL_refl _
  (try dsimp only[awp]);conv=>whnf
  refine And.intro (fun g1=>?_) (fun g1=>?_)
  ·have g1 : nameR x.name = false:=by simpa using g1
   obtain rfl : R = .int .i64 5:=by rw [hR,show firstR m = 5 from by exact bad 5 (by decide) (by unfold evErr; rw [if_pos g1])]
   (try dsimp only[awp]);conv=>whnf
   refine fM ?_;(conv=>whnf);refine ⟨?_,rfl⟩;conv=>whnf
   all_goals exact wk
  have g1 : ¬ nameR x.name = false:=by simpa using g1
  (try dsimp only[awp]);conv=>whnf
  refine .pure _ _ ?_ ⟨rfl,rfl⟩ (ce x.name) fun _=>?_
  ·exact leL_refl _
  (try dsimp only[awp]);conv=>whnf
  refine And.intro (fun g2=>?_) (fun g2=>?_)
  ·obtain rfl : R = .int .i64 6:=by rw [hR,show firstR m = 6 from by exact bad 6 (by decide) (by unfold evErr; rw [if_neg g1,if_pos g2])]
   (try dsimp only[awp]);conv=>whnf
   refine fM ?_;(conv=>whnf);refine ⟨?_,rfl⟩;conv=>whnf
   all_goals exact wk
  (try dsimp only[awp]);conv=>whnf
  refine .pure _ _ ?_ ⟨rfl,rfl⟩ cpr fun _=>?_
  ·exact leL_refl _
  (try dsimp only[awp]);conv=>whnf
  refine And.intro (fun g3=>?_) (fun g3=>?_)
  ·have g3 : prob x.p = false:=by simpa using g3
   (try dsimp only[awp]);conv=>whnf
   refine And.intro (fun _=>?_) (fun h=>by exfalso; simp [g3] at h)
   obtain rfl : R = .int .i64 3:=by rw [hR,show firstR m = 3 from by exact bad 3 (by decide) (by unfold evErr; rw [if_neg g1,if_neg g2,if_pos g3])]
   (try dsimp only[awp]);conv=>whnf
   refine fM ?_;(conv=>whnf);refine ⟨?_,rfl⟩;conv=>whnf
   all_goals exact wk
  have g3 : ¬ prob x.p = false:=by simpa using g3
  (try dsimp only[awp]);conv=>whnf
  refine .pure _ _ ?_ ⟨rfl,rfl⟩ cf fun _=>?_
  ·exact leL_refl _
  (try dsimp only[awp]);conv=>whnf
  refine And.intro (fun g4=>?_) (fun g4=>?_)
  ·have g4 : rateB x.fail = false:=by simpa using g4
   (try dsimp only[awp]);conv=>whnf
   refine And.intro (fun _=>?_) (fun h=>by exfalso; simp [g4] at h)
   obtain rfl : R = .int .i64 3:=by rw [hR,show firstR m = 3 from by exact bad 3 (by decide) (by unfold evErr; rw [if_neg g1,if_neg g2,if_neg g3,if_pos g4])]
   (try dsimp only[awp]);conv=>whnf
   refine fM ?_;(conv=>whnf);refine ⟨?_,rfl⟩;conv=>whnf
   all_goals exact wk
  have g4 : ¬ rateB x.fail = false:=by simpa using g4
  (try dsimp only[awp]);conv=>whnf
  refine .pure _ _ ?_ ⟨rfl,rfl⟩ cr fun _=>?_
  ·exact leL_refl _
  (try dsimp only[awp]);conv=>whnf
  refine And.intro (fun g5=>?_) (fun g5=>?_)
  ·have g5 : rateB x.repair = false:=by simpa using g5
   (try dsimp only[awp]);conv=>whnf
   refine And.intro (fun _=>?_) (fun h=>by exfalso; simp [g5] at h)
   obtain rfl : R = .int .i64 3:=by rw [hR,show firstR m = 3 from by exact bad 3 (by decide) (by unfold evErr; rw [if_neg g1,if_neg g2,if_neg g3,if_neg g4,if_pos g5])]
   (try dsimp only[awp]);conv=>whnf
   refine fM ?_;(conv=>whnf);refine ⟨?_,rfl⟩;conv=>whnf
   all_goals exact wk
  have g5 : ¬ rateB x.repair = false:=by simpa using g5
  (try dsimp only[awp]);conv=>whnf
  refine And.intro (fun g6=>?_) (fun g6=>?_)
  ·(try dsimp only[awp]);conv=>whnf
   refine And.intro (fun _=>?_) (fun h=>by exfalso; exact h g6)
   obtain rfl : R = .int .i64 3:=by rw [hR,show firstR m = 3 from by exact bad 3 (by decide) (by unfold evErr; rw [if_neg g1,if_neg g2,if_neg g3,if_neg g4,if_neg g5,if_pos g6])]
   (try dsimp only[awp]);conv=>whnf
   refine fM ?_;(conv=>whnf);refine ⟨?_,rfl⟩;conv=>whnf
   all_goals exact wk
  (try dsimp only[awp]);conv=>whnf
  refine And.intro (fun g7=>?_) (fun g7=>?_)
  ·obtain rfl : R = .int .i64 3:=by rw [hR,show firstR m = 3 from by exact bad 3 (by decide) (by unfold evErr; rw [if_neg g1,if_neg g2,if_neg g3,if_neg g4,if_neg g5,if_neg g6,if_pos g7])]
   (try dsimp only[awp]);conv=>whnf
   refine fM ?_;(conv=>whnf);refine ⟨?_,rfl⟩;conv=>whnf
   all_goals exact wk
  (try dsimp only[awp]);conv=>whnf
  refine zA ?_;conv=>whnf
  refine ⟨i + 1,?_,?_,?_⟩
  ·exact ⟨hlt,by rw [hn,if_neg (by rw [show evErr m i x = 0 from by unfold evErr; rw [if_neg g1,if_neg g2,if_neg g3,if_neg g4,if_neg g5,if_neg g6,if_neg g7]]; simp)]⟩
  ·refine ⟨?_,.mk ?_ ⟨by simp,trivial⟩⟩
   ·all_goals exact wk
   ·all_goals exact wk
  ·omega
 have hil : i = m.evs.length:=by have : ¬ i < m.evs.length:=by simpa using h
                                 omega
 rw [errL_end (by omega)] at hn
 clear h
 subst hil
 have e1 : ¬ errL (evErr m) 0 m.evs ≠ 0:=by rw [hn]; simp
 (try dsimp only[awp]);conv=>whnf
 refine And.intro (fun n2=>?_) (fun n2=>?_)
 ·have n2 : 16 < m.hs.length:=by simp only [List.length_map] at n2; omega
  obtain rfl : R = .int .i64 4:=by rw [hR,show firstR m = 4 from by exact ofE 4 (by decide) (by unfold eventsErr; rw [if_neg n1,if_neg e1,if_pos n2])]
  (try dsimp only[awp]);conv=>whnf
  refine fM ?_;(conv=>whnf);refine ⟨?_,rfl⟩;conv=>whnf
  all_goals exact wk
 have n2 : ¬ 16 < m.hs.length:=by simp only [List.length_map] at n2; omega
 clear hn hi
 (try dsimp only[awp]);conv=>whnf
 refine LoopE.of <| LoopSpec.inv (.refl _ _) (fun (i : Nat)=>i ≤ m.hs.length ∧ errL (hsErr m) 0 m.hs = errL (hsErr m) i (m.hs.drop i)) (fun (i : Nat)=>[(67,.int .i64 i)]) (fun _=>_) (fun (i : Nat)=>m.hs.length - i) 0 ?_ (fun _=>rfl) ?_ ?_
 ·exact ⟨Nat.zero_le _,rfl⟩
 ·all_goals exact wk
 rintro i ⟨hi,hn⟩ _
 (try dsimp only[awp]);conv=>whnf
 refine And.intro (fun h=>?_) (fun h=>?_)
 ·have hlt : i < m.hs.length:=by simpa using h
  rw [errL_step hlt] at hn
  have bad : ∀ e : Int,e ≠ 0 → hsErr m i m.hs[i] = e → firstR m = e:=by
   intro e he h
   refine ofE e he ?_
   unfold eventsErr
   rw [h,if_pos he] at hn
   rw [if_neg n1,if_neg e1,if_neg n2,hn]
  (try dsimp only[awp]);conv=>whnf
  refine aidx hlt ?_
  generalize m.hs[i] = x at *
  (try dsimp only[awp]);conv=>whnf
  refine .pure _ _ ?_ ⟨rfl,rfl⟩ (c_Name21 x.name) fun _=>?_
  ·exact leL_refl _
  (try dsimp only[awp]);conv=>whnf
  refine And.intro (fun g1=>?_) (fun g1=>?_)
  ·have g1 : nameR x.name = false:=by simpa using g1
   obtain rfl : R = .int .i64 5:=by rw [hR,show firstR m = 5 from by exact bad 5 (by decide) (by unfold hsErr; rw [if_pos g1])]
   (try dsimp only[awp]);conv=>whnf
   refine fM ?_;(conv=>whnf);refine ⟨?_,rfl⟩;conv=>whnf
   all_goals exact wk
  have g1 : ¬ nameR x.name = false:=by simpa using g1
  (try dsimp only[awp]);conv=>whnf
  refine .pure _ _ ?_ ⟨rfl,rfl⟩ (ce x.name) fun _=>?_
  ·exact leL_refl _
  (try dsimp only[awp]);conv=>whnf
  refine And.intro (fun g2=>?_) (fun g2=>?_)
  ·(try dsimp only[awp]);conv=>whnf
   refine And.intro (fun _=>?_) (fun h=>by exfalso; exact h g2)
   obtain rfl : R = .int .i64 6:=by rw [hR,show firstR m = 6 from by exact bad 6 (by decide) (by unfold hsErr; rw [if_neg g1,if_pos g2])]
   (try dsimp only[awp]);conv=>whnf
   refine fM ?_;(conv=>whnf);refine ⟨?_,rfl⟩;conv=>whnf
   all_goals exact wk
  (try dsimp only[awp]);conv=>whnf
  refine .pure _ _ ?_ ⟨rfl,rfl⟩ (ch x.name) fun _=>?_
  ·exact leL_refl _
  (try dsimp only[awp]);conv=>whnf
  refine And.intro (fun g3=>?_) (fun g3=>?_)
  ·obtain rfl : R = .int .i64 6:=by rw [hR,show firstR m = 6 from by exact bad 6 (by decide) (by unfold hsErr; rw [if_neg g1,if_neg g2,if_pos g3])]
   (try dsimp only[awp]);conv=>whnf
   refine fM ?_;(conv=>whnf);refine ⟨?_,rfl⟩;conv=>whnf
   all_goals exact wk
  (try dsimp only[awp]);conv=>whnf
  refine zA ?_;conv=>whnf
  refine ⟨i + 1,?_,?_,?_⟩
  ·exact ⟨hlt,by rw [hn,if_neg (by rw [show hsErr m i x = 0 from by unfold hsErr; rw [if_neg g1,if_neg g2,if_neg g3]]; simp)]⟩
  ·refine ⟨?_,.mk ?_ ⟨by simp,trivial⟩⟩
   ·all_goals exact wk
   ·all_goals exact wk
  ·omega
 have hil : i = m.hs.length:=by have : ¬ i < m.hs.length:=by simpa using h
                                omega
 rw [errL_end (by omega)] at hn
 have eE : eventsErr m = 0:=by unfold eventsErr; rw [if_neg n1,if_neg e1,if_neg n2,hn]
 have ofP : firstR m = pagesErr m:=by unfold firstR; rw [if_neg g0,if_neg (by rw [eE]; simp)]
 clear h hn hi ofE
 (try dsimp only[awp]);conv=>whnf
 refine LoopE.of <| LoopSpec.inv (.refl _ _) (fun (i : Nat)=>i ≤ m.pages.length) (fun (i : Nat)=>[(96,.int .i64 i),(7,.int .i64 ((m.pages.take i).foldl (fun n x=>n + x.gates.length) m.gates.length : Nat))]) (fun _=>_) (fun (i : Nat)=>m.pages.length - i) 0 ?_ (fun _=>rfl) ?_ ?_
 ·exact Nat.zero_le _
 ·repeat' first|exact rfl|exact trivial|exact wR|exact lR _|apply aI
  simp
 rintro i hi _
 (try dsimp only[awp]);conv=>whnf
 refine And.intro (fun h=>?_) (fun h=>?_)
 ·have hlt : i < m.pages.length:=by simpa using h
  have hs:=foldl_take (f:=fun (n : Nat) (x : Pg)=>n + x.gates.length) (s:=m.gates.length) hlt
  have hb:=total_le (m.pages.take i) m.gates.length fun p hp=>(hB.pgates p (List.mem_of_mem_take hp)).1
  rw [List.length_take] at hb
  have hx:=(hB.pgates _ (List.getElem_mem hlt)).1
  generalize (m.pages.take i).foldl (fun n x=>n + x.gates.length) m.gates.length = y at *
  (try dsimp only[awp]);conv=>whnf
  refine aidx hlt ?_
  generalize m.pages[i] = x at *
  (try dsimp only[awp]);conv=>whnf
  refine ⟨inr64 (by simp; omega) (by simp; omega),?_⟩
  (try dsimp only[awp]);conv=>whnf
  refine zA ?_;conv=>whnf
  refine ⟨i + 1,?_,?_,?_⟩
  ·exact hlt
  ·rw [hs]
   refine ⟨?_,.mk ?_ ⟨by simp,trivial⟩⟩
   ·repeat' first|exact rfl|exact trivial|exact wR|exact lR _|apply aI
    simp
   ·all_goals exact wk
  ·omega
 have hil : i = m.pages.length:=by have : ¬ i < m.pages.length:=by simpa using h
                                   omega
 subst hil
 rw [List.take_length,show m.pages.foldl (fun n x=>n + x.gates.length) m.gates.length = totalM m from rfl]
 (try dsimp only[awp]);conv=>whnf
 refine And.intro (fun p1=>?_) (fun p1=>?_)
 ·have p1 : 8 < m.pages.length:=by simp only [List.length_map] at p1; omega
  obtain rfl : R = .int .i64 4:=by rw [hR,show firstR m = 4 from by rw [ofP]; unfold pagesErr; rw [if_pos p1]]
  (try dsimp only[awp]);conv=>whnf
  refine fM ?_;(conv=>whnf);refine ⟨?_,rfl⟩;conv=>whnf
  all_goals exact wk
 have p1 : ¬ 8 < m.pages.length:=by simp only [List.length_map] at p1; omega
 (try dsimp only[awp]);conv=>whnf
 refine And.intro (fun p2=>?_) (fun p2=>?_)
 ·have p2 : 64 < totalM m:=by omega
  obtain rfl : R = .int .i64 4:=by rw [hR,show firstR m = 4 from by rw [ofP]; unfold pagesErr; rw [if_neg p1,if_pos p2]]
  (try dsimp only[awp]);conv=>whnf
  refine fM ?_;(conv=>whnf);refine ⟨?_,rfl⟩;conv=>whnf
  all_goals exact wk
 have p2 : ¬ 64 < totalM m:=by omega
 clear hi h
 (try dsimp only[awp]);conv=>whnf
 refine LoopE.of <| LoopSpec.inv (.refl _ _) (fun (i : Nat)=>i ≤ m.pages.length ∧ errL (pgErr m) 0 m.pages = errL (pgErr m) i (m.pages.drop i)) (fun (i : Nat)=>[(117,.int .i64 i)]) (fun _=>_) (fun (i : Nat)=>m.pages.length - i) 0 ?_ (fun _=>rfl) ?_ ?_
 ·exact ⟨Nat.zero_le _,rfl⟩
 ·all_goals exact wk
 rintro i ⟨hi,hn⟩ _
 (try dsimp only[awp]);conv=>whnf
 refine And.intro (fun h=>?_) (fun h=>?_)
 ·have hlt : i < m.pages.length:=by simpa using h
  rw [errL_step hlt] at hn
  have bad : ∀ e : Int,e ≠ 0 → pgErr m i m.pages[i] = e → firstR m = e:=by
   intro e he h
   rw [ofP]
   unfold pagesErr
   rw [h,if_pos he] at hn
   rw [if_neg p1,if_neg p2,hn]
  (try dsimp only[awp]);conv=>whnf
  refine aidx hlt ?_
  generalize m.pages[i] = x at *
  (try dsimp only[awp]);conv=>whnf
  refine .pure _ _ ?_ ⟨rfl,rfl⟩ (c_Name21 x.name) fun _=>?_
  ·exact leL_refl _
  (try dsimp only[awp]);conv=>whnf
  refine And.intro (fun g1=>?_) (fun g1=>?_)
  ·have g1 : nameR x.name = false:=by simpa using g1
   obtain rfl : R = .int .i64 5:=by rw [hR,show firstR m = 5 from by exact bad 5 (by decide) (by unfold pgErr; rw [if_pos g1])]
   (try dsimp only[awp]);conv=>whnf
   refine fM ?_;(conv=>whnf);refine ⟨?_,rfl⟩;conv=>whnf
   all_goals exact wk
  have g1 : ¬ nameR x.name = false:=by simpa using g1
  (try dsimp only[awp]);conv=>whnf
  refine .pure _ _ ?_ ⟨rfl,rfl⟩ (cp x.name) fun _=>?_
  ·exact leL_refl _
  (try dsimp only[awp]);conv=>whnf
  refine And.intro (fun g2=>?_) (fun g2=>?_)
  ·obtain rfl : R = .int .i64 6:=by rw [hR,show firstR m = 6 from by exact bad 6 (by decide) (by unfold pgErr; rw [if_neg g1,if_pos g2])]
   (try dsimp only[awp]);conv=>whnf
   refine fM ?_;(conv=>whnf);refine ⟨?_,rfl⟩;conv=>whnf
   all_goals exact wk
  (try dsimp only[awp]);conv=>whnf
  refine zA ?_;conv=>whnf
  refine ⟨i + 1,?_,?_,?_⟩
  ·exact ⟨hlt,by rw [hn,if_neg (by rw [show pgErr m i x = 0 from by unfold pgErr; rw [if_neg g1,if_neg g2]]; simp)]⟩
  ·refine ⟨?_,.mk ?_ ⟨by simp,trivial⟩⟩
   ·all_goals exact wk
   ·all_goals exact wk
  ·omega
 have hil : i = m.pages.length:=by have : ¬ i < m.pages.length:=by simpa using h
                                   omega
 rw [errL_end (by omega)] at hn
 obtain rfl : R = .int .i64 0:=by rw [hR,show firstR m = 0 from by rw [ofP]; unfold pagesErr; rw [if_neg p1,if_neg p2,hn]]
 (try dsimp only[awp]);conv=>whnf
 refine fM ?_;(conv=>whnf);refine ⟨?_,rfl⟩;conv=>whnf
 all_goals exact wk

theorem c_bounds22 (k : Int) (R : AV) (hR : R = .tup [.int .i64 (boundsR k).1,.int .i64 (boundsR k).2]) : FnH Tryz.prog 54 [.int .i64 k] [] R []:=by
 obtain ⟨x,hx⟩ : ∃ x,boundsR k = x:=⟨_,rfl⟩
 rw [hx] at hR
 subst hR
 refine FnH.intro lay mixed Tryz.func54 (by kernel_rfl) rfl (by kernel_rfl) rfl fun hok=>?_
 (try dsimp only[argC,succC]);(try dsimp only[awp]);conv=>whnf
 repeat' (first | (refine And.intro (fun _=>?_) (fun _=>?_) <;> ((try dsimp only[awp]);(conv=>whnf))))
 all_goals
  refine fM ?_;(conv=>whnf);refine ⟨?_,rfl⟩;conv=>whnf
  try simp_all [boundsR]
 all_goals
  subst hx
  repeat' first|exact rfl|exact trivial|exact wR|exact lR _|apply aI






theorem bounds_zero (k : Int) : (boundsR k).2 = 0 ↔ (k < 0 ∨ 8 < k):=by
 unfold boundsR
 split
 ·constructor
  ·intro h; cases h
  ·intro h; omega
 split
 ·constructor
  ·intro h; cases h
  ·intro h; omega
 split
 ·constructor
  ·intro h; cases h
  ·intro h; omega
 split
 ·constructor
  ·intro h; cases h
  ·intro h; omega
 ·constructor
  ·intro _; omega
  ·intro _; rfl

theorem bounds_args {k n : Int} (h : (boundsR k).2 ≠ 0) : argsR k n = (decide ((boundsR k).1 ≤ n) && decide (n ≤ (boundsR k).2)):=by
 have h0 : ¬ (k < 0 ∨ 8 < k):=fun e=>h ((bounds_zero k).2 e)
 unfold boundsR at *
 unfold argsR
 by_cases h3 : k = 3
 ·subst h3; rw [Bool.eq_iff_iff]; simp; omega
 rw [if_neg h3]
 by_cases h5 : k = 5
 ·subst h5; rw [Bool.eq_iff_iff]; simp; omega
 rw [if_neg h5]
 by_cases h6 : k = 6 ∨ k = 7 ∨ k = 8
 ·rw [if_pos h6,if_neg (by omega),if_neg h3,if_neg h5,if_pos h6]
  simp
 ·rw [if_neg h6,if_pos (by omega)]
  simp


theorem c_rGates (m : Md) (a : Int) (h : a = -1 ∨ (0 ≤ a ∧ a < (m.pages.length : Int))) : FnH Tryz.prog 27 [m.av,.int .i64 a] [] (gL (gatesM m a)) []:=by
 refine FnH.intro lay mixed Tryz.func27 (by kernel_rfl) rfl (by kernel_rfl) rfl fun hok=>?_
 (try dsimp only[argC,succC]);(try dsimp only[awp]);conv=>whnf
 refine And.intro (fun h1=>?_) (fun h1=>?_)
 ·rw [show gatesM m a = m.gates from if_pos (by omega)]
  (try dsimp only[awp]);conv=>whnf
  refine fM ?_;(conv=>whnf);refine ⟨?_,rfl⟩;conv=>whnf
  all_goals exact wk
 ·rw [show gatesM m a = (m.pages.getD a.toNat default).gates from if_neg (by omega)]
  (try dsimp only[awp]);conv=>whnf
  refine aidxD default (by omega) ?_
  (try dsimp only[awp]);conv=>whnf
  refine fM ?_;(conv=>whnf);refine ⟨?_,rfl⟩;conv=>whnf
  all_goals exact wk

theorem c_shape (h1 : OneC) (m : Md) (a : Int) (i : Nat) (ha : a = -1 ∨ (0 ≤ a ∧ a < (m.pages.length : Int))) (hi : i < (gatesM m a).length) (hX : shortX (gatesM m a)[i].dorm) (R : AV) (hR : R = .int .i64 (gateErrM m a i (gatesM m a)[i])) :
  FnH Tryz.prog 28 [m.av,.int .i64 a,.int .i64 i] [] R []:=by
 have ce:=fun s=>c_revent m s
 have ch:=fun s=>c_rhouse m s
 have cg:=fun s=>c_rgate (gatesM m a) s
 have cG:=c_rGates m a ha
 refine FnH.intro lay mixed Tryz.func28 (by kernel_rfl) rfl (by kernel_rfl) rfl fun hok=>?_
 (try dsimp only[argC,succC]);(try dsimp only[awp]);conv=>whnf
 refine .pure _ _ ?_ ⟨rfl,rfl⟩ cG fun hokl=>?_
 ·exact leL_refl _
 have hal : (gatesM m a)[i].ins.length ≤ 9223372036854775807:=by
  have h2:=OkL_map hokl.2 _ (List.getElem_mem hi)
  simp only [Ok,OkL] at h2
  simpa [maxL] using h2.2.2.2.1.1
 (try dsimp only[awp]);conv=>whnf
 refine aidx hi ?_
 generalize (gatesM m a)[i] = x at *
 have cb:=c_bounds22 x.kind _ rfl
 have cp:=c_rProbX h1 _ hX
 have cz:=c_rzero x.dorm
 have bz:=bounds_zero x.kind
 have ba:=bounds_args (k:=x.kind) (n:=x.ins.length)
 generalize boundsR x.kind = bd at *
 obtain ⟨b1,b2⟩:=bd
 (try dsimp only[awp]);conv=>whnf
 refine .pure _ _ ?_ ⟨rfl,rfl⟩ cb fun _=>?_
 ·exact leL_refl _
 (try dsimp only[awp]);conv=>whnf
 refine .pure _ _ ?_ ⟨rfl,rfl⟩ (c_Name21 x.name) fun _=>?_
 ·exact leL_refl _
 (try dsimp only[awp]);conv=>whnf
 refine And.intro (fun g1=>?_) (fun g1=>?_)
 ·have g1 : nameR x.name = false:=by simpa using g1
  obtain rfl : R = .int .i64 5:=by rw [hR,show gateErrM m a i x = 5 from by unfold gateErrM; rw [if_pos g1]]
  (try dsimp only[awp]);conv=>whnf
  refine fM ?_;(conv=>whnf);refine ⟨?_,rfl⟩;conv=>whnf
  all_goals exact wk
 have g1 : ¬ nameR x.name = false:=by simpa using g1
 (try dsimp only[awp]);conv=>whnf
 refine .pure _ _ ?_ ⟨rfl,rfl⟩ (ce x.name) fun _=>?_
 ·exact leL_refl _
 (try dsimp only[awp]);conv=>whnf
 refine And.intro (fun g2=>?_) (fun g2=>?_)
 ·(try dsimp only[awp]);conv=>whnf
  refine And.intro (fun _=>?_) (fun h=>absurd g2 h)
  obtain rfl : R = .int .i64 6:=by rw [hR,show gateErrM m a i x = 6 from by unfold gateErrM; rw [if_neg g1,if_pos g2]]
  (try dsimp only[awp]);conv=>whnf
  refine fM ?_;(conv=>whnf);refine ⟨?_,rfl⟩;conv=>whnf
  all_goals exact wk
 (try dsimp only[awp]);conv=>whnf
 refine .pure _ _ ?_ ⟨rfl,rfl⟩ (ch x.name) fun _=>?_
 ·exact leL_refl _
 (try dsimp only[awp]);conv=>whnf
 refine And.intro (fun g3=>?_) (fun g3=>?_)
 ·(try dsimp only[awp]);conv=>whnf
  refine And.intro (fun _=>?_) (fun h=>absurd g3 h)
  obtain rfl : R = .int .i64 6:=by rw [hR,show gateErrM m a i x = 6 from by unfold gateErrM; rw [if_neg g1,if_neg g2,if_pos g3]]
  (try dsimp only[awp]);conv=>whnf
  refine fM ?_;(conv=>whnf);refine ⟨?_,rfl⟩;conv=>whnf
  all_goals exact wk
 (try dsimp only[awp]);conv=>whnf
 refine ADraw.auto (by kernel_rfl) ?_;conv=>whnf
 refine ACallP.pure _ _ ?_ ⟨rfl,rfl⟩ cG ?_
 ·exact leL_refl _
 (try dsimp only[awp]);conv=>whnf
 refine ACallP.pure _ _ ?_ ⟨rfl,rfl⟩ (cg x.name) ?_
 ·exact leL_refl _
 (try dsimp only[awp]);conv=>whnf
 refine And.intro (fun g4=>?_) (fun g4=>?_)
 ·obtain rfl : R = .int .i64 6:=by rw [hR,show gateErrM m a i x = 6 from by unfold gateErrM; rw [if_neg g1,if_neg g2,if_neg g3,if_pos g4]]
  (try dsimp only[awp]);conv=>whnf
  refine fM ?_;(conv=>whnf);refine ⟨?_,rfl⟩;conv=>whnf
  all_goals exact wk
 have hge : ∀ e,mgErr x = e → gateErrM m a i x = e:=fun e h=>by unfold gateErrM; rw [if_neg g1,if_neg g2,if_neg g3,if_neg g4,h]
 (try dsimp only[awp]);conv=>whnf
 refine And.intro (fun n0=>?_) (fun n0=>?_)
 ·have n1:=bz.1 n0
  have hm : mgErr x = 7:=by
   unfold mgErr
   by_cases n2 : x.kind < 0
   ·rw [if_pos n2]
   ·rw [if_neg n2,if_pos (by omega)]
  obtain rfl : R = .int .i64 7:=by rw [hR,hge 7 hm]
  (try dsimp only[awp]);conv=>whnf
  refine fM ?_;(conv=>whnf);refine ⟨?_,rfl⟩;conv=>whnf
  all_goals exact wk
 have n1 : ¬ x.kind < 0:=fun h=>n0 (bz.2 (.inl h))
 have n2 : ¬ 8 < x.kind:=fun h=>n0 (bz.2 (.inr h))
 have ba:=ba n0
 dsimp only at ba
 (try dsimp only[awp]);conv=>whnf
 refine And.intro (fun m1=>?_) (fun m1=>?_)
 ·have n3 : argsR x.kind x.ins.length = false:=by rw [ba]; simp at m1 ⊢; omega
  (try dsimp only[awp]);conv=>whnf
  refine And.intro (fun _=>?_) (fun h=>absurd m1 h)
  obtain rfl : R = .int .i64 11:=by rw [hR,hge 11 (by unfold mgErr; rw [if_neg n1,if_neg n2,if_pos n3])]
  (try dsimp only[awp]);conv=>whnf
  refine fM ?_;(conv=>whnf);refine ⟨?_,rfl⟩;conv=>whnf
  all_goals exact wk
 (try dsimp only[awp]);conv=>whnf
 refine And.intro (fun m2=>?_) (fun m2=>?_)
 ·have n3 : argsR x.kind x.ins.length = false:=by rw [ba]; simp at m2 ⊢; omega
  obtain rfl : R = .int .i64 11:=by rw [hR,hge 11 (by unfold mgErr; rw [if_neg n1,if_neg n2,if_pos n3])]
  (try dsimp only[awp]);conv=>whnf
  refine fM ?_;(conv=>whnf);refine ⟨?_,rfl⟩;conv=>whnf
  all_goals exact wk
 have n3 : ¬ argsR x.kind x.ins.length = false:=by rw [ba]; simp at m1 m2 ⊢; omega
 clear m1 m2 ba bz n0
 (try dsimp only[awp]);conv=>whnf
 refine And.intro (fun k2=>?_) (fun k2=>?_)
 ·have n5 : ¬ (x.kind ≠ 2 ∧ x.k ≠ 0):=fun h=>h.1 k2
  (try dsimp only[awp]);conv=>whnf
  refine And.intro (fun kk=>?_) (fun kk=>?_)
  ·obtain rfl : R = .int .i64 3:=by rw [hR,hge 3 (by unfold mgErr; rw [if_neg n1,if_neg n2,if_neg n3,if_pos ⟨k2,.inl kk⟩])]
   (try dsimp only[awp]);conv=>whnf
   refine fM ?_;(conv=>whnf);refine ⟨?_,rfl⟩;conv=>whnf
   all_goals exact wk
  (try dsimp only[awp]);conv=>whnf
  refine And.intro (fun kl=>?_) (fun kl=>?_)
  ·have kl : (x.ins.length : Int) < x.k:=by simpa using kl
   obtain rfl : R = .int .i64 3:=by rw [hR,hge 3 (by unfold mgErr; rw [if_neg n1,if_neg n2,if_neg n3,if_pos ⟨k2,.inr kl⟩])]
   (try dsimp only[awp]);conv=>whnf
   refine fM ?_;(conv=>whnf);refine ⟨?_,rfl⟩;conv=>whnf
   all_goals exact wk
  have kl : ¬ (x.ins.length : Int) < x.k:=by simpa using kl
  have n4 : ¬ (x.kind = 2 ∧ (x.k < 1 ∨ (x.ins.length : Int) < x.k)):=by omega
  (try dsimp only[awp]);conv=>whnf
  refine And.intro (fun h=>absurd k2 h) (fun _=>?_)
  (try dsimp only[awp]);conv=>whnf
  refine And.intro (fun k7=>?_) (fun k7=>?_)
  ·(try dsimp only[awp]);conv=>whnf
   refine .pure _ _ ?_ ⟨rfl,rfl⟩ cp fun _=>?_
   ·exact leL_refl _
   (try dsimp only[awp]);conv=>whnf
   refine And.intro (fun kp=>?_) (fun kp=>?_)
   ·have kp : prob x.dorm = false:=by simpa using kp
    obtain rfl : R = .int .i64 3:=by rw [hR,hge 3 (by unfold mgErr; rw [if_neg n1,if_neg n2,if_neg n3,if_neg n4,if_neg n5,if_pos ⟨k7,kp⟩])]
    (try dsimp only[awp]);conv=>whnf
    refine fM ?_;(conv=>whnf);refine ⟨?_,rfl⟩;conv=>whnf
    all_goals exact wk
   have kp : prob x.dorm = true:=by simpa using kp
   (try dsimp only[awp]);conv=>whnf
   refine And.intro (fun h=>absurd k7 h) (fun _=>?_)
   obtain rfl : R = .int .i64 0:=by rw [hR,hge 0 (by unfold mgErr; rw [if_neg n1,if_neg n2,if_neg n3,if_neg n4,if_neg n5,if_neg (fun h=>by rw [kp] at h; cases h.2),if_neg (fun h=>h.1 k7)])]
   (try dsimp only[awp]);conv=>whnf
   refine fM ?_;(conv=>whnf);refine ⟨?_,rfl⟩;conv=>whnf
   all_goals exact wk
  ·(try dsimp only[awp]);conv=>whnf
   refine And.intro (fun _=>?_) (fun h=>absurd k7 h)
   (try dsimp only[awp]);conv=>whnf
   refine .pure _ _ ?_ ⟨rfl,rfl⟩ cz fun _=>?_
   ·exact leL_refl _
   (try dsimp only[awp]);conv=>whnf
   refine And.intro (fun kz=>?_) (fun kz=>?_)
   ·have kz : zeroR x.dorm = false:=by simpa using kz
    obtain rfl : R = .int .i64 2:=by rw [hR,hge 2 (by unfold mgErr; rw [if_neg n1,if_neg n2,if_neg n3,if_neg n4,if_neg n5,if_neg (fun h=>k7 h.1),if_pos ⟨k7,kz⟩])]
    (try dsimp only[awp]);conv=>whnf
    refine fM ?_;(conv=>whnf);refine ⟨?_,rfl⟩;conv=>whnf
    all_goals exact wk
   have kz : zeroR x.dorm = true:=by simpa using kz
   obtain rfl : R = .int .i64 0:=by rw [hR,hge 0 (by unfold mgErr; rw [if_neg n1,if_neg n2,if_neg n3,if_neg n4,if_neg n5,if_neg (fun h=>k7 h.1),if_neg (fun h=>by rw [kz] at h; cases h.2)])]
   (try dsimp only[awp]);conv=>whnf
   refine fM ?_;(conv=>whnf);refine ⟨?_,rfl⟩;conv=>whnf
   all_goals exact wk
 ·have n4 : ¬ (x.kind = 2 ∧ (x.k < 1 ∨ (x.ins.length : Int) < x.k)):=by omega
  (try dsimp only[awp]);conv=>whnf
  refine And.intro (fun _=>?_) (fun h=>absurd k2 h)
  (try dsimp only[awp]);conv=>whnf
  refine And.intro (fun kk=>?_) (fun kk=>?_)
  ·obtain rfl : R = .int .i64 2:=by rw [hR,hge 2 (by unfold mgErr; rw [if_neg n1,if_neg n2,if_neg n3,if_neg n4,if_pos ⟨k2,kk⟩])]
   (try dsimp only[awp]);conv=>whnf
   refine fM ?_;(conv=>whnf);refine ⟨?_,rfl⟩;conv=>whnf
   all_goals exact wk
  have n5 : ¬ (x.kind ≠ 2 ∧ x.k ≠ 0):=fun h=>kk h.2
  (try dsimp only[awp]);conv=>whnf
  refine And.intro (fun k7=>?_) (fun k7=>?_)
  ·(try dsimp only[awp]);conv=>whnf
   refine .pure _ _ ?_ ⟨rfl,rfl⟩ cp fun _=>?_
   ·exact leL_refl _
   (try dsimp only[awp]);conv=>whnf
   refine And.intro (fun kp=>?_) (fun kp=>?_)
   ·have kp : prob x.dorm = false:=by simpa using kp
    obtain rfl : R = .int .i64 3:=by rw [hR,hge 3 (by unfold mgErr; rw [if_neg n1,if_neg n2,if_neg n3,if_neg n4,if_neg n5,if_pos ⟨k7,kp⟩])]
    (try dsimp only[awp]);conv=>whnf
    refine fM ?_;(conv=>whnf);refine ⟨?_,rfl⟩;conv=>whnf
    all_goals exact wk
   have kp : prob x.dorm = true:=by simpa using kp
   (try dsimp only[awp]);conv=>whnf
   refine And.intro (fun h=>absurd k7 h) (fun _=>?_)
   obtain rfl : R = .int .i64 0:=by rw [hR,hge 0 (by unfold mgErr; rw [if_neg n1,if_neg n2,if_neg n3,if_neg n4,if_neg n5,if_neg (fun h=>by rw [kp] at h; cases h.2),if_neg (fun h=>h.1 k7)])]
   (try dsimp only[awp]);conv=>whnf
   refine fM ?_;(conv=>whnf);refine ⟨?_,rfl⟩;conv=>whnf
   all_goals exact wk
  ·(try dsimp only[awp]);conv=>whnf
   refine And.intro (fun _=>?_) (fun h=>absurd k7 h)
   (try dsimp only[awp]);conv=>whnf
   refine .pure _ _ ?_ ⟨rfl,rfl⟩ cz fun _=>?_
   ·exact leL_refl _
   (try dsimp only[awp]);conv=>whnf
   refine And.intro (fun kz=>?_) (fun kz=>?_)
   ·have kz : zeroR x.dorm = false:=by simpa using kz
    obtain rfl : R = .int .i64 2:=by rw [hR,hge 2 (by unfold mgErr; rw [if_neg n1,if_neg n2,if_neg n3,if_neg n4,if_neg n5,if_neg (fun h=>k7 h.1),if_pos ⟨k7,kz⟩])]
    (try dsimp only[awp]);conv=>whnf
    refine fM ?_;(conv=>whnf);refine ⟨?_,rfl⟩;conv=>whnf
    all_goals exact wk
   have kz : zeroR x.dorm = true:=by simpa using kz
   obtain rfl : R = .int .i64 0:=by rw [hR,hge 0 (by unfold mgErr; rw [if_neg n1,if_neg n2,if_neg n3,if_neg n4,if_neg n5,if_neg (fun h=>k7 h.1),if_neg (fun h=>by rw [kz] at h; cases h.2)])]
   (try dsimp only[awp]);conv=>whnf
   refine fM ?_;(conv=>whnf);refine ⟨?_,rfl⟩;conv=>whnf
   all_goals exact wk

abbrev tAV (x : Node) : AV:=.tup [.int .i64 x.1,.int .i64 x.2.1,.int .i64 x.2.2]

def findR (m : Md) (a : Int) (s : Str) : Node :=
 if 0 ≤ i_event m.evs s then (0,0,i_event m.evs s) else if 0 ≤ i_house m.hs s then (1,0,i_house m.hs s) else if 0 ≤ i_gate (gatesM m a) s then (2,a,i_gate (gatesM m a) s) else (-1,0,0)

def findX (m : Md) (a : Int) (s : Str) : Node :=
 if atS s = true then (if i_page m.pages (s.drop 1) < 0 then (-1,0,0) else findR m (i_page m.pages (s.drop 1)) (pageTop m (i_page m.pages (s.drop 1)))) else findR m a s

theorem c_Find1 (m : Md) (a : Int) (s : Str) (ha : a = -1 ∨ (0 ≤ a ∧ a < (m.pages.length : Int))) (e : atS s = false) : FnH Tryz.prog 59 [m.av,.int .i64 a,.str s] [] (tAV (findX m a s)) []:=by
 refine FnH.intro lay mixed Tryz.func59 (by kernel_rfl) rfl (by kernel_rfl) rfl fun hok=>?_
 (try dsimp only[argC,succC]);(try dsimp only[awp]);conv=>whnf
 refine And.intro (fun h1=>?_) (fun h1=>?_)
 ·have h1 : 0 < s.length:=by omega
  (try dsimp only[awp]);conv=>whnf
  refine sidx0 h1 ?_
  (try dsimp only[awp]);conv=>whnf
  refine And.intro (fun h2=>?_) (fun h2=>?_)
  ·exfalso
   rw [show atS s = true from by simp only [atS,h1,h2,decide_true,Bool.true_and]] at e
   cases e
  ·rw [show findX m a s = findR m a s from if_neg (by rw [e]; simp)]
   (try dsimp only[awp]);conv=>whnf
   refine .pure _ _ ?_ ⟨rfl,rfl⟩ (c_revent m s) fun _=>?_
   ·exact leL_refl _
   (try dsimp only[awp]);conv=>whnf
   refine And.intro (fun h3=>?_) (fun h3=>?_)
   ·rw [show findR m a s = (0,0,i_event m.evs s) from if_pos h3]
    (try dsimp only[awp]);conv=>whnf
    refine fM ?_;(conv=>whnf);refine ⟨?_,rfl⟩;conv=>whnf
    all_goals exact wk
   (try dsimp only[awp]);conv=>whnf
   refine .pure _ _ ?_ ⟨rfl,rfl⟩ (c_rhouse m s) fun _=>?_
   ·exact leL_refl _
   (try dsimp only[awp]);conv=>whnf
   refine And.intro (fun h4=>?_) (fun h4=>?_)
   ·rw [show findR m a s = (1,0,i_house m.hs s) from (if_neg h3).trans (if_pos h4)]
    (try dsimp only[awp]);conv=>whnf
    refine fM ?_;(conv=>whnf);refine ⟨?_,rfl⟩;conv=>whnf
    all_goals exact wk
   (try dsimp only[awp]);conv=>whnf
   refine .pure _ _ ?_ ⟨rfl,rfl⟩ (c_rGates m a ha) fun _=>?_
   ·exact leL_refl _
   (try dsimp only[awp]);conv=>whnf
   refine .pure _ _ ?_ ⟨rfl,rfl⟩ (c_rgate (gatesM m a) s) fun _=>?_
   ·exact leL_refl _
   (try dsimp only[awp]);conv=>whnf
   refine And.intro (fun h5=>?_) (fun h5=>?_)
   ·rw [show findR m a s = (2,a,i_gate (gatesM m a) s) from (if_neg h3).trans ((if_neg h4).trans (if_pos h5))]
    (try dsimp only[awp]);conv=>whnf
    refine fM ?_;(conv=>whnf);refine ⟨?_,rfl⟩;conv=>whnf
    all_goals exact wk
   rw [show findR m a s = (-1,0,0) from (if_neg h3).trans ((if_neg h4).trans (if_neg h5))]
   (try dsimp only[awp]);conv=>whnf
   refine fM ?_;(conv=>whnf);refine ⟨?_,rfl⟩;conv=>whnf
   all_goals exact wk
 ·rw [show findX m a s = findR m a s from if_neg (by rw [e]; simp)]
  (try dsimp only[awp]);conv=>whnf
  refine .pure _ _ ?_ ⟨rfl,rfl⟩ (c_revent m s) fun _=>?_
  ·exact leL_refl _
  (try dsimp only[awp]);conv=>whnf
  refine And.intro (fun h3=>?_) (fun h3=>?_)
  ·rw [show findR m a s = (0,0,i_event m.evs s) from if_pos h3]
   (try dsimp only[awp]);conv=>whnf
   refine fM ?_;(conv=>whnf);refine ⟨?_,rfl⟩;conv=>whnf
   all_goals exact wk
  (try dsimp only[awp]);conv=>whnf
  refine .pure _ _ ?_ ⟨rfl,rfl⟩ (c_rhouse m s) fun _=>?_
  ·exact leL_refl _
  (try dsimp only[awp]);conv=>whnf
  refine And.intro (fun h4=>?_) (fun h4=>?_)
  ·rw [show findR m a s = (1,0,i_house m.hs s) from (if_neg h3).trans (if_pos h4)]
   (try dsimp only[awp]);conv=>whnf
   refine fM ?_;(conv=>whnf);refine ⟨?_,rfl⟩;conv=>whnf
   all_goals exact wk
  (try dsimp only[awp]);conv=>whnf
  refine .pure _ _ ?_ ⟨rfl,rfl⟩ (c_rGates m a ha) fun _=>?_
  ·exact leL_refl _
  (try dsimp only[awp]);conv=>whnf
  refine .pure _ _ ?_ ⟨rfl,rfl⟩ (c_rgate (gatesM m a) s) fun _=>?_
  ·exact leL_refl _
  (try dsimp only[awp]);conv=>whnf
  refine And.intro (fun h5=>?_) (fun h5=>?_)
  ·rw [show findR m a s = (2,a,i_gate (gatesM m a) s) from (if_neg h3).trans ((if_neg h4).trans (if_pos h5))]
   (try dsimp only[awp]);conv=>whnf
   refine fM ?_;(conv=>whnf);refine ⟨?_,rfl⟩;conv=>whnf
   all_goals exact wk
  rw [show findR m a s = (-1,0,0) from (if_neg h3).trans ((if_neg h4).trans (if_neg h5))]
  (try dsimp only[awp]);conv=>whnf
  refine fM ?_;(conv=>whnf);refine ⟨?_,rfl⟩;conv=>whnf
  all_goals exact wk

theorem c_Find (m : Md) (a : Int) (s : Str) (ha : a = -1 ∨ (0 ≤ a ∧ a < (m.pages.length : Int))) (ht : ∀ p : Int,0 ≤ p → p < (m.pages.length : Int) → atS (pageTop m p) = false) : FnH Tryz.prog 59 [m.av,.int .i64 a,.str s] [] (tAV (findX m a s)) []:=by
 cases e : atS s
 ·exact c_Find1 m a s ha e
 have cp:=c_rpage m (s.drop 1)
 have hpl : i_page m.pages (s.drop 1) < (m.pages.length : Int):=idxP_lt _ _
 refine FnH.intro lay mixed Tryz.func59 (by kernel_rfl) rfl (by kernel_rfl) rfl fun hok=>?_
 (try dsimp only[argC,succC]);(try dsimp only[awp]);conv=>whnf
 simp only [atS,Bool.and_eq_true,decide_eq_true_eq] at e
 refine And.intro (fun h1=>?_) (fun h1=>by exfalso; omega)
 have h1 : 0 < s.length:=by omega
 (try dsimp only[awp]);conv=>whnf
 refine sidx0 h1 ?_
 (try dsimp only[awp]);conv=>whnf
 refine And.intro (fun h2=>?_) (fun h2=>absurd e.2 h2)
 have e : atS s = true:=by simp only [atS,h1,h2,decide_true,Bool.true_and]
 rw [show findX m a s = if i_page m.pages (s.drop 1) < 0 then (-1,0,0) else findR m (i_page m.pages (s.drop 1)) (pageTop m (i_page m.pages (s.drop 1))) from if_pos e]
 (try dsimp only[awp]);conv=>whnf
 refine ADraw.auto (by kernel_rfl) ?_;conv=>whnf
 refine ⟨⟨by omega,by omega,by omega⟩,?_⟩
 rw [cut1]
 (try dsimp only[awp]);conv=>whnf
 refine ACallP.pure _ _ ?_ ⟨rfl,rfl⟩ cp ?_
 ·exact leL_refl _
 generalize i_page m.pages (s.drop 1) = p at *
 (try dsimp only[awp]);conv=>whnf
 refine And.intro (fun h3=>?_) (fun h3=>?_)
 ·rw [if_pos h3]
  (try dsimp only[awp]);conv=>whnf
  refine fM ?_;(conv=>whnf);refine ⟨?_,rfl⟩;conv=>whnf
  all_goals exact wk
 have h3 : 0 ≤ p:=by omega
 rw [if_neg (by omega)]
 have hf : findX m p (pageTop m p) = findR m p (pageTop m p):=if_neg (by rw [ht p h3 hpl]; simp)
 have cF:=c_Find1 m p (pageTop m p) (.inr ⟨h3,hpl⟩) (ht p h3 hpl)
 rw [hf] at cF
 have hpt : (m.pages.getD p.toNat default).top = pageTop m p:=rfl
 (try dsimp only[awp]);conv=>whnf
 refine ADraw.auto (by kernel_rfl) ?_;conv=>whnf
 refine aidxD default ⟨h3,hpl⟩ ?_
 (try dsimp only[awp]);conv=>whnf
 rw [hpt]
 refine ACallP.pure _ _ ?_ ⟨rfl,rfl⟩ cF ?_
 ·exact leL_refl _
 (try dsimp only[awp]);conv=>whnf
 refine fM ?_;(conv=>whnf);refine ⟨?_,rfl⟩;conv=>whnf
 all_goals exact wk

theorem find_in {m : Md} {a : Int} {s : Str} (e : atS s = false) : isInR m a s = decide (0 ≤ (findX m a s).1):=by
 unfold isInR findX
 rw [if_neg (by rw [e]; simp),if_neg (by rw [e]; simp)]
 unfold findR
 by_cases h1 : 0 ≤ i_event m.evs s
 ·simp [h1]
 by_cases h2 : 0 ≤ i_house m.hs s
 ·simp [h1,h2]
 by_cases h3 : 0 ≤ i_gate (gatesM m a) s
 ·simp [h1,h2,h3]
 ·simp [h1,h2,h3]

theorem c_names (m : Md) (a : Int) (s : Str) (ha : a = -1 ∨ (0 ≤ a ∧ a < (m.pages.length : Int))) : FnH Tryz.prog 57 [m.av,.int .i64 a,.str s] [] (.bool (isInR m a s)) []:=by
 have cp:=c_rpage m (s.drop 1)
 refine FnH.intro lay mixed Tryz.func57 (by kernel_rfl) rfl (by kernel_rfl) rfl fun hok=>?_
 (try dsimp only[argC,succC]);(try dsimp only[awp]);conv=>whnf
 refine And.intro (fun h1=>?_) (fun h1=>?_)
 ·have h1 : 0 < s.length:=by omega
  (try dsimp only[awp]);conv=>whnf
  refine sidx0 h1 ?_
  (try dsimp only[awp]);conv=>whnf
  refine And.intro (fun h2=>?_) (fun h2=>?_)
  ·have e : isInR m a s = decide (0 ≤ i_page m.pages (s.drop 1)):=if_pos (by simp only [atS,h1,h2,decide_true,Bool.true_and])
   rw [e]
   (try dsimp only[awp]);conv=>whnf
   refine ADraw.auto (by kernel_rfl) ?_;conv=>whnf
   refine ⟨⟨by omega,by omega,by omega⟩,?_⟩
   rw [cut1]
   (try dsimp only[awp]);conv=>whnf
   refine ACallP.pure _ _ ?_ ⟨rfl,rfl⟩ cp ?_
   ·exact leL_refl _
   (try dsimp only[awp]);conv=>whnf
   refine fM ?_;(conv=>whnf);refine ⟨?_,rfl⟩;conv=>whnf
   show _ ↔ _
   simp
  ·have e : atS s = false:=by simp only [atS,decide_eq_false h2,Bool.and_false]
   have fi:=find_in (m:=m) (a:=a) e
   have cF:=c_Find1 m a s ha e
   generalize findX m a s = x at *
   obtain ⟨x1,x2,x3⟩:=x
   (try dsimp only[awp]);conv=>whnf
   refine .pure _ _ ?_ ⟨rfl,rfl⟩ cF fun _=>?_
   ·exact leL_refl _
   (try dsimp only[awp]);conv=>whnf
   refine fM ?_;(conv=>whnf);refine ⟨?_,rfl⟩;conv=>whnf
   rw [fi]
   show _ ↔ _
   simp
 ·have e : atS s = false:=by simp only [atS]; rw [decide_eq_false (by omega)]; rfl
  have fi:=find_in (m:=m) (a:=a) e
  have cF:=c_Find1 m a s ha e
  generalize findX m a s = x at *
  obtain ⟨x1,x2,x3⟩:=x
  (try dsimp only[awp]);conv=>whnf
  refine .pure _ _ ?_ ⟨rfl,rfl⟩ cF fun _=>?_
  ·exact leL_refl _
  (try dsimp only[awp]);conv=>whnf
  refine fM ?_;(conv=>whnf);refine ⟨?_,rfl⟩;conv=>whnf
  rw [fi]
  show _ ↔ _
  simp

def inputsR (m : Md) : Int:=if insAll m (atsM m) [] ≠ 0 then insAll m (atsM m) [] else if isInR m (-1) m.top = false then 5 else 0

theorem any_eq_take {l : List Str} {x : Str} (h : ∀ (j : Nat) (hj : j < l.length),j < l.length → l[j] ≠ x) : (l.any fun y=>decide (x = y)) = false:=by
 rw [List.any_eq_false]
 intro y hy
 obtain ⟨j,hj,rfl⟩:=List.getElem_of_mem hy
 simpa using fun e : x = l[j]=>h j hj hj e.symm

theorem any_eq_mem {l : List Str} {x : Str} {j : Nat} (hj : j < l.length) (h : l[j] = x) : (l.any fun y=>decide (x = y)) = true:=by
 rw [List.any_eq_true]
 exact ⟨l[j],List.getElem_mem hj,by simpa using h.symm⟩

theorem c_inputs (m : Md) (hB : MdB m) (R : AV) (hR : R = .int .i64 (inputsR m)) : FnH Tryz.prog 29 [m.av] [] R []:=by
 have ce:=fun s=>c_revent m s
 have hpl:=hB.pages
 refine FnH.intro lay mixed Tryz.func29 (by kernel_rfl) rfl (by kernel_rfl) rfl fun hok=>?_
 (try dsimp only[argC,succC]);(try dsimp only[awp]);conv=>whnf
 refine LoopE.of <| LoopSpec.inv (.grow 3 1 [] _ rfl (.inl ⟨rfl,rfl⟩) (.refl _ _)) (fun (q : Nat × List Str)=>q.1 ≤ m.pages.length + 1 ∧ insAll m (atsM m) [] = insAll m ((atsM m).drop q.1) q.2 ∧ q.2.length ≤ 4000 * q.1)
  (fun q=>[(4,.int .i64 ((q.1 : Int) - 1)),(3,.sl 1 (q.2.map .str) (.own 1))]) (fun q=>[(1,.tok 1 q.2.length),(0,.box m.av)]) (fun q=>m.pages.length + 1 - q.1) (0,[]) ?_ (fun _=>rfl) ?_ ?_
 ·exact ⟨Nat.zero_le _,rfl,by simp⟩
 ·refine ⟨?_,.mk ?_ ⟨by simp,by simp,trivial⟩⟩
  ·all_goals exact wk
  ·all_goals exact wk
 rintro ⟨k,sp⟩ ⟨hk,hn,hsp⟩ _
 dsimp only at hk hn hsp
 (try dsimp only[awp]);conv=>whnf
 refine And.intro (fun h=>?_) (fun h=>?_)
 ·have hkl : k < m.pages.length + 1:=by simp only [List.length_map] at h; omega
  have ha : (k : Int) - 1 = -1 ∨ (0 ≤ (k : Int) - 1 ∧ (k : Int) - 1 < (m.pages.length : Int)):=by omega
  have hak : (k : Int) - 1 + 1 = ((k + 1 : Nat) : Int) - 1:=by omega
  rw [drop_of_get? (ats_get hkl)] at hn
  simp only [insAll] at hn
  have ofI : ∀ e : Int,e ≠ 0 → (pageIns m ((k : Int) - 1) sp).1 = e → inputsR m = e:=by
   intro e he h
   rw [h,if_pos he] at hn
   unfold inputsR
   rw [hn,if_pos he]
  clear h
  generalize hage : (k : Int) - 1 = a at *
  have cG:=c_rGates m a ha
  have cg:=fun s=>c_rgate (gatesM m a) s
  have ci:=fun s=>c_names m a s ha
  have hBa:=hB.gatesM ha
  have hpi : pageIns m a sp = if (gatesIns m a (gatesM m a) sp).1 ≠ 0 then gatesIns m a (gatesM m a) sp
   else if a ≠ -1 ∧ i_gate (gatesM m a) (pageTop m a) < 0 ∧ i_event m.evs (pageTop m a) < 0 then (5,[]) else gatesIns m a (gatesM m a) sp:=rfl
  have hgl : a ≠ -1 → gatesM m a = (m.pages.getD a.toNat default).gates:=fun h=>if_neg h
  (try dsimp only[awp]);conv=>whnf
  refine .pure _ _ ?_ ⟨rfl,rfl⟩ cG fun hokl=>?_
  ·exact leL_refl _
  generalize hgs : gatesM m a = gs at *
  (try dsimp only[awp]);conv=>whnf
  refine LoopE.of <| LoopSpec.inv (.refl _ _) (fun (s : Nat × List Str)=>s.1 ≤ gs.length ∧ gatesIns m a gs sp = gatesIns m a (gs.drop s.1) s.2 ∧ s.2.length ≤ sp.length + 40 * s.1)
   (fun s=>[(23,.int .i64 s.1),(3,.sl 1 (s.2.map .str) (.own 1))]) (fun s=>[(1,.tok 1 s.2.length),(0,.box m.av)]) (fun s=>gs.length - s.1) (0,sp) ?_ (fun _=>rfl) ?_ ?_
  ·exact ⟨Nat.zero_le _,rfl,by simp⟩
  ·refine ⟨?_,.mk ?_ ⟨by simp,by simp,trivial⟩⟩
   ·all_goals exact wk
   ·all_goals exact wk
  rintro ⟨i,s1⟩ ⟨hi,hni,hs1⟩ _
  dsimp only at hi hni hs1
  (try dsimp only[awp]);conv=>whnf
  refine And.intro (fun h=>?_) (fun h=>?_)
  ·have hlt : i < gs.length:=by simpa using h
   have hxi:=hBa.2 _ (List.getElem_mem hlt)
   rw [List.drop_eq_getElem_cons hlt] at hni
   simp only [gatesIns] at hni
   have bad : ∀ e : Int,e ≠ 0 → (insErr m a gs[i] 0 (gs[i]).ins s1).1 = e → inputsR m = e:=by
    intro e he h
    rw [h,if_pos he] at hni
    exact ofI e he (by rw [hpi,hni,h,if_pos he,h])
   (try dsimp only[awp]);conv=>whnf
   refine aidx hlt ?_
   generalize gs[i] = g at *
   (try dsimp only[awp]);conv=>whnf
   refine LoopE.of <| LoopSpec.inv (.refl _ _) (fun (s : Nat × List Str)=>s.1 ≤ g.ins.length ∧ insErr m a g 0 g.ins s1 = insErr m a g s.1 (g.ins.drop s.1) s.2 ∧ s.2.length ≤ s1.length + s.1)
    (fun s=>[(30,.int .i64 s.1),(3,.sl 1 (s.2.map .str) (.own 1))]) (fun s=>[(2,.box g.av),(1,.tok 1 s.2.length),(0,.box m.av)]) (fun s=>g.ins.length - s.1) (0,s1) ?_ (fun _=>rfl) ?_ ?_
   ·exact ⟨Nat.zero_le _,rfl,by simp⟩
   ·refine ⟨?_,.mk ?_ ⟨by simp,by simp,by simp,trivial⟩⟩
    ·all_goals exact wk
    ·all_goals exact wk
   rintro ⟨j,s2⟩ ⟨hj,hnj,hs2⟩ _
   dsimp only at hj hnj hs2
   (try dsimp only[awp]);conv=>whnf
   refine And.intro (fun hh=>?_) (fun hh=>?_)
   ·have hjl : j < g.ins.length:=by simpa using hh
    rw [List.drop_eq_getElem_cons hjl] at hnj
    simp only [insErr] at hnj
    (try dsimp only[awp]);conv=>whnf
    refine aidx hjl ?_
    generalize g.ins[j] = x at *
    (try dsimp only[awp]);conv=>whnf
    refine .pure _ _ ?_ ⟨rfl,rfl⟩ (ci x) fun _=>?_
    ·exact leL_refl _
    (try dsimp only[awp]);conv=>whnf
    refine And.intro (fun g1=>?_) (fun g1=>?_)
    ·have g1 : isInR m a x = false:=by simpa using g1
     obtain rfl : R = .int .i64 5:=by rw [hR,bad 5 (by decide) (by rw [hnj]; rw [if_pos g1])]
     (try dsimp only[awp]);conv=>whnf
     refine fM ?_;(conv=>whnf);refine ⟨?_,rfl⟩;conv=>whnf
     all_goals exact wk
    have g1 : ¬ isInR m a x = false:=by simpa using g1
    (try dsimp only[awp]);conv=>whnf
    refine And.intro (fun k7=>?_) (fun k7=>?_)
    ·have hmu : mustEv g j = true:=by simp [mustEv,k7]
     (try dsimp only[awp]);conv=>whnf
     refine .pure _ _ ?_ ⟨rfl,rfl⟩ (ce x) fun _=>?_
     ·exact leL_refl _
     (try dsimp only[awp]);conv=>whnf
     refine And.intro (fun g4=>?_) (fun g4=>?_)
     ·obtain rfl : R = .int .i64 7:=by rw [hR,bad 7 (by decide) (by rw [hnj]; rw [if_neg g1,if_pos ⟨hmu,g4⟩])]
      (try dsimp only[awp]);conv=>whnf
      refine fM ?_;(conv=>whnf);refine ⟨?_,rfl⟩;conv=>whnf
      all_goals exact wk
     (try dsimp only[awp]);conv=>whnf
     refine And.intro (fun h=>absurd k7 h) (fun _=>?_)
     (try dsimp only[awp]);conv=>whnf
     refine LoopE.of <| LoopSpec.inv (.refl _ _) (fun (q : Nat)=>q ≤ s2.length ∧ ∀ (y : Nat) (hy : y < s2.length),y < q → s2[y] ≠ x) (fun (q : Nat)=>[(64,.int .i64 q)]) (fun _=>_) (fun (q : Nat)=>s2.length - q) 0 ?_ (fun _=>rfl) ?_ ?_
     ·exact ⟨Nat.zero_le _,by omega⟩
     ·all_goals exact wk
     rintro q ⟨hq,hnq⟩ _
     (try dsimp only[awp]);conv=>whnf
     refine And.intro (fun hz=>?_) (fun hz=>?_)
     ·have hql : q < s2.length:=by simpa using hz
      (try dsimp only[awp]);conv=>whnf
      refine aidx hql ?_
      (try dsimp only[awp]);conv=>whnf
      refine And.intro (fun he=>?_) (fun he=>?_)
      ·obtain rfl : R = .int .i64 6:=by rw [hR,bad 6 (by decide) (by rw [hnj]; rw [if_neg g1,if_neg (fun h=>g4 h.2),if_pos k7,if_pos (any_eq_mem hql he)])]
       (try dsimp only[awp]);conv=>whnf
       refine fM ?_;(conv=>whnf);refine ⟨?_,rfl⟩;conv=>whnf
       all_goals exact wk
      (try dsimp only[awp]);conv=>whnf
      refine zA ?_;conv=>whnf
      refine ⟨q + 1,?_,?_,?_⟩
      ·refine ⟨hql,fun y hy hyq=>?_⟩
       by_cases hyq' : y = q
       ·subst hyq'; exact he
       ·exact hnq y hy (by omega)
      ·refine ⟨?_,.mk ?_ ⟨by simp,by simp,by simp,trivial⟩⟩
       ·all_goals exact wk
       ·all_goals exact wk
      ·omega
     have hql : q = s2.length:=by have : ¬ q < s2.length:=by simpa using hz
                                  omega
     subst hql
     have g3 : ¬ (s2.any fun y=>decide (x = y)) = true:=by rw [any_eq_take fun y hy _=>hnq y hy hy]; simp
     (try dsimp only[awp]);conv=>whnf
     refine ⟨by rw [List.length_map],.mk (by simp [maxL]; omega) (by simp; omega) ?_⟩
     (try dsimp only[awp]);conv=>whnf
     refine zA ?_;conv=>whnf
     refine ⟨(j + 1,s2 ++ [x]),?_,?_,?_⟩
     ·exact ⟨hjl,by rw [hnj]; rw [if_neg g1,if_neg (fun h=>g4 h.2),if_pos k7,if_neg g3],by first | (show s2.length ≤ s1.length + (j + 1); omega) | (show (s2 ++ [x]).length ≤ s1.length + (j + 1); simp; omega)⟩
     ·refine ⟨?_,.mk ?_ ⟨by simp,by simp,by simp,trivial⟩⟩
      ·repeat' first|exact rfl|exact trivial|exact wR|exact lR _|apply aI
       all_goals first | (refine leRL_of ?_; simp [strip]; done) | (simp; done) | (simp; omega)
      ·repeat' first|exact rfl|exact trivial|exact wR|exact lR _|apply aI
       all_goals first | (refine leRL_of ?_; simp [strip]; done) | (simp; done) | (simp; omega)
     ·show g.ins.length - (j + 1) < g.ins.length - j
      omega
    ·(try dsimp only[awp]);conv=>whnf
     refine And.intro (fun k8=>?_) (fun k8=>?_)
     ·(try dsimp only[awp]);conv=>whnf
      refine And.intro (fun kj=>?_) (fun kj=>?_)
      ·have hmu : mustEv g j = true:=by unfold mustEv; rw [decide_eq_true k8,decide_eq_true kj]; simp
       (try dsimp only[awp]);conv=>whnf
       refine .pure _ _ ?_ ⟨rfl,rfl⟩ (ce x) fun _=>?_
       ·exact leL_refl _
       (try dsimp only[awp]);conv=>whnf
       refine And.intro (fun g4=>?_) (fun g4=>?_)
       ·obtain rfl : R = .int .i64 7:=by rw [hR,bad 7 (by decide) (by rw [hnj]; rw [if_neg g1,if_pos ⟨hmu,g4⟩])]
        (try dsimp only[awp]);conv=>whnf
        refine fM ?_;(conv=>whnf);refine ⟨?_,rfl⟩;conv=>whnf
        all_goals exact wk
       (try dsimp only[awp]);conv=>whnf
       refine And.intro (fun _=>?_) (fun h=>absurd k7 h)
       (try dsimp only[awp]);conv=>whnf
       refine zA ?_;conv=>whnf
       refine ⟨(j + 1,s2),?_,?_,?_⟩
       ·exact ⟨hjl,by rw [hnj]; rw [if_neg g1,if_neg (fun h=>g4 h.2),if_neg k7],by first | (show s2.length ≤ s1.length + (j + 1); omega) | (show (s2 ++ [x]).length ≤ s1.length + (j + 1); simp; omega)⟩
       ·refine ⟨?_,.mk ?_ ⟨by simp,by simp,by simp,trivial⟩⟩
        ·repeat' first|exact rfl|exact trivial|exact wR|exact lR _|apply aI
         all_goals first | (refine leRL_of ?_; simp [strip]; done) | (simp; done) | (simp; omega)
        ·repeat' first|exact rfl|exact trivial|exact wR|exact lR _|apply aI
         all_goals first | (refine leRL_of ?_; simp [strip]; done) | (simp; done) | (simp; omega)
       ·show g.ins.length - (j + 1) < g.ins.length - j
        omega
      ·have hmu : mustEv g j = false:=by unfold mustEv; rw [decide_eq_false k7,decide_eq_false kj]; simp
       (try dsimp only[awp]);conv=>whnf
       refine And.intro (fun _=>?_) (fun h=>absurd k7 h)
       (try dsimp only[awp]);conv=>whnf
       refine zA ?_;conv=>whnf
       refine ⟨(j + 1,s2),?_,?_,?_⟩
       ·exact ⟨hjl,by rw [hnj]; rw [if_neg g1,if_neg (fun h=>by rw [hmu] at h; cases h.1),if_neg k7],by first | (show s2.length ≤ s1.length + (j + 1); omega) | (show (s2 ++ [x]).length ≤ s1.length + (j + 1); simp; omega)⟩
       ·refine ⟨?_,.mk ?_ ⟨by simp,by simp,by simp,trivial⟩⟩
        ·repeat' first|exact rfl|exact trivial|exact wR|exact lR _|apply aI
         all_goals first | (refine leRL_of ?_; simp [strip]; done) | (simp; done) | (simp; omega)
        ·repeat' first|exact rfl|exact trivial|exact wR|exact lR _|apply aI
         all_goals first | (refine leRL_of ?_; simp [strip]; done) | (simp; done) | (simp; omega)
       ·show g.ins.length - (j + 1) < g.ins.length - j
        omega
     ·have hmu : mustEv g j = false:=by unfold mustEv; rw [decide_eq_false k7,decide_eq_false k8]; simp
      (try dsimp only[awp]);conv=>whnf
      refine And.intro (fun _=>?_) (fun h=>absurd k7 h)
      (try dsimp only[awp]);conv=>whnf
      refine zA ?_;conv=>whnf
      refine ⟨(j + 1,s2),?_,?_,?_⟩
      ·exact ⟨hjl,by rw [hnj]; rw [if_neg g1,if_neg (fun h=>by rw [hmu] at h; cases h.1),if_neg k7],by first | (show s2.length ≤ s1.length + (j + 1); omega) | (show (s2 ++ [x]).length ≤ s1.length + (j + 1); simp; omega)⟩
      ·refine ⟨?_,.mk ?_ ⟨by simp,by simp,by simp,trivial⟩⟩
       ·repeat' first|exact rfl|exact trivial|exact wR|exact lR _|apply aI
        all_goals first | (refine leRL_of ?_; simp [strip]; done) | (simp; done) | (simp; omega)
       ·repeat' first|exact rfl|exact trivial|exact wR|exact lR _|apply aI
        all_goals first | (refine leRL_of ?_; simp [strip]; done) | (simp; done) | (simp; omega)
      ·show g.ins.length - (j + 1) < g.ins.length - j
       omega
   ·have hjl : j = g.ins.length:=by have : ¬ j < g.ins.length:=by simpa using hh
                                    omega
    subst hjl
    rw [List.drop_length] at hnj
    simp only [insErr] at hnj
    rw [hnj] at hni
    (try dsimp only[awp]);conv=>whnf
    refine zA ?_;conv=>whnf
    refine ⟨(i + 1,s2),?_,?_,?_⟩
    ·exact ⟨hlt,hni,by show s2.length ≤ sp.length + 40 * (i + 1); omega⟩
    ·refine ⟨?_,.mk ?_ ⟨by simp,by simp,trivial⟩⟩
     ·all_goals exact wk
     ·all_goals exact wk
    ·show gs.length - (i + 1) < gs.length - i
     omega
  have hil : i = gs.length:=by have : ¬ i < gs.length:=by simpa using h
                               omega
  rw [List.drop_eq_nil_of_le (by omega)] at hni
  simp only [gatesIns] at hni
  clear h
  rw [hni] at hpi
  rw [if_neg (by simp)] at hpi
  (try dsimp only[awp]);conv=>whnf
  have nx : ∀ h : ¬ (a ≠ -1 ∧ i_gate gs (pageTop m a) < 0 ∧ i_event m.evs (pageTop m a) < 0),insAll m (atsM m) [] = insAll m ((atsM m).drop (k + 1)) s1:=by
   intro h
   rw [if_neg h] at hpi
   rw [hn,hpi,if_neg (by simp)]
  have hs1' : s1.length ≤ 4000 * (k + 1):=by omega
  refine ADraw.auto (by kernel_rfl) ?_;conv=>whnf
  refine And.intro (fun a1=>?_) (fun a1=>?_)
  ·have hb : 0 ≤ a ∧ a < (m.pages.length : Int):=⟨a1,by omega⟩
   have hgl:=hgl (by omega)
   have hpt : (m.pages.getD a.toNat default).top = pageTop m a:=rfl
   generalize hpg : m.pages.getD a.toNat default = pg at *
   (try dsimp only[awp]);conv=>whnf
   refine aidxD default hb ?_
   rw [hpg]
   (try dsimp only[awp]);conv=>whnf
   refine aidxD default hb ?_
   rw [hpg]
   (try dsimp only[awp]);conv=>whnf
   rw [← hgl,hpt]
   refine ACallP.pure _ _ ?_ ⟨rfl,rfl⟩ (cg (pageTop m a)) ?_
   ·exact leL_refl _
   (try dsimp only[awp]);conv=>whnf
   refine And.intro (fun g1=>?_) (fun g1=>?_)
   ·(try dsimp only[awp]);conv=>whnf
    refine aidxD default hb ?_
    rw [hpg]
    (try dsimp only[awp]);conv=>whnf
    rw [hpt]
    refine ACallP.pure _ _ ?_ ⟨rfl,rfl⟩ (ce (pageTop m a)) ?_
    ·exact leL_refl _
    (try dsimp only[awp]);conv=>whnf
    refine And.intro (fun g2=>?_) (fun g2=>?_)
    ·obtain rfl : R = .int .i64 5:=by rw [hR,ofI 5 (by decide) (by rw [hpi,if_pos ⟨by omega,g1,g2⟩])]
     (try dsimp only[awp]);conv=>whnf
     refine fM ?_;(conv=>whnf);refine ⟨?_,rfl⟩;conv=>whnf
     all_goals exact wk
    ·have nx:=nx (fun h=>g2 h.2.2)
     (try dsimp only[awp]);conv=>whnf
     refine zA ?_;conv=>whnf
     refine ⟨(k + 1,s1),?_,?_,?_⟩
     ·exact ⟨hkl,nx,hs1'⟩
     ·refine ⟨?_,.mk ?_ ⟨by simp,by simp,trivial⟩⟩
      ·repeat' first|exact rfl|exact trivial|exact wR|exact lR _|apply aI
       all_goals (show _ = _; congr 1 <;> omega)
      ·all_goals exact wk
     ·show m.pages.length + 1 - (k + 1) < m.pages.length + 1 - k
      omega
   ·have nx:=nx (fun h=>g1 h.2.1)
    (try dsimp only[awp]);conv=>whnf
    refine zA ?_;conv=>whnf
    refine ⟨(k + 1,s1),?_,?_,?_⟩
    ·exact ⟨hkl,nx,hs1'⟩
    ·refine ⟨?_,.mk ?_ ⟨by simp,by simp,trivial⟩⟩
     ·repeat' first|exact rfl|exact trivial|exact wR|exact lR _|apply aI
      all_goals (show _ = _; congr 1 <;> omega)
     ·all_goals exact wk
    ·show m.pages.length + 1 - (k + 1) < m.pages.length + 1 - k
     omega
  ·have nx:=nx (fun h=>a1 (by omega))
   (try dsimp only[awp]);conv=>whnf
   refine zA ?_;conv=>whnf
   refine ⟨(k + 1,s1),?_,?_,?_⟩
   ·exact ⟨hkl,nx,hs1'⟩
   ·refine ⟨?_,.mk ?_ ⟨by simp,by simp,trivial⟩⟩
    ·repeat' first|exact rfl|exact trivial|exact wR|exact lR _|apply aI
     all_goals (show _ = _; congr 1 <;> omega)
    ·all_goals exact wk
   ·show m.pages.length + 1 - (k + 1) < m.pages.length + 1 - k
    omega
 have hkl : m.pages.length + 1 ≤ k:=by simp only [List.length_map] at h; omega
 rw [List.drop_eq_nil_of_le (by rw [ats_len]; omega)] at hn
 simp only [insAll] at hn
 have hir : inputsR m = if isInR m (-1) m.top = false then 5 else 0:=by unfold inputsR; rw [hn,if_neg (by simp)]
 clear h
 (try dsimp only[awp]);conv=>whnf
 refine .pure _ _ ?_ ⟨rfl,rfl⟩ (c_names m (-1) m.top (.inl rfl)) fun _=>?_
 ·exact leL_refl _
 (try dsimp only[awp]);conv=>whnf
 refine And.intro (fun g1=>?_) (fun g1=>?_)
 ·have g1 : isInR m (-1) m.top = false:=by simpa using g1
  obtain rfl : R = .int .i64 5:=by rw [hR,hir,if_pos g1]
  (try dsimp only[awp]);conv=>whnf
  refine fM ?_;(conv=>whnf);refine ⟨?_,rfl⟩;conv=>whnf
  all_goals exact wk
 ·obtain rfl : R = .int .i64 0:=by rw [hR,hir,if_neg (by simpa using g1)]
  (try dsimp only[awp]);conv=>whnf
  refine fM ?_;(conv=>whnf);refine ⟨?_,rfl⟩;conv=>whnf
  all_goals exact wk

theorem cut0 {α : Type} {f : α → AV} {l : List α} {i : Nat} : (((l.map f).drop (0 : Int).toNat).take ((i : Int).toNat - (0 : Int).toNat)) = (l.take i).map f:=by
 rw [List.map_take]; rfl

theorem c_phases (h1c : OneC) (m : Md) (hX : MdX m) (hB : MdB m) (R : AV) (hR : R = .int .i64 (phasesErr m)) : FnH Tryz.prog 31 [m.av] [] R []:=by
 have ce:=fun s=>c_revent m s
 have ci:=fun s=>c_names m (-1) s (.inl rfl)
 have hpl:=hB.phs
 refine FnH.intro lay mixed Tryz.func31 (by kernel_rfl) rfl (by kernel_rfl) rfl fun hok=>?_
 (try dsimp only[argC,succC]);(try dsimp only[awp]);conv=>whnf
 refine And.intro (fun h1=>?_) (fun h1=>?_)
 ·have h1 : 6 < m.phs.length:=by simp only [List.length_map] at h1; omega
  obtain rfl : R = .int .i64 4:=by rw [hR,show phasesErr m = 4 from if_pos h1]
  (try dsimp only[awp]);conv=>whnf
  refine fM ?_;(conv=>whnf);refine ⟨?_,rfl⟩;conv=>whnf
  all_goals exact wk
 have h1 : ¬ 6 < m.phs.length:=by simp only [List.length_map] at h1; omega
 have hge : phasesErr m = errL (phErr m) 0 m.phs:=if_neg h1
 (try dsimp only[awp]);conv=>whnf
 refine LoopE.of <| LoopSpec.inv (.refl _ _) (fun (i : Nat)=>i ≤ m.phs.length ∧ errL (phErr m) 0 m.phs = errL (phErr m) i (m.phs.drop i)) (fun (i : Nat)=>[(18,.int .i64 i)]) (fun _=>_) (fun (i : Nat)=>m.phs.length - i) 0 ?_ (fun _=>rfl) ?_ ?_
 ·exact ⟨Nat.zero_le _,rfl⟩
 ·all_goals exact wk
 rintro i ⟨hi,hn⟩ _
 (try dsimp only[awp]);conv=>whnf
 refine And.intro (fun h=>?_) (fun h=>?_)
 ·have hlt : i < m.phs.length:=by simpa using h
  have hvl:=hB.vals _ (List.getElem_mem hlt)
  have hfc:=hX.phs _ (List.getElem_mem hlt)
  rw [errL_step hlt] at hn
  have bad : ∀ e : Int,e ≠ 0 → phErr m i m.phs[i] = e → phasesErr m = e:=by
   intro e he h
   rw [h,if_pos he] at hn
   rw [hge,hn]
  (try dsimp only[awp]);conv=>whnf
  refine aidx hlt ?_
  generalize hx0 : m.phs[i] = x at *
  (try dsimp only[awp]);conv=>whnf
  refine .pure _ _ ?_ ⟨rfl,rfl⟩ (c_Name21 x.name) fun _=>?_
  ·exact leL_refl _
  (try dsimp only[awp]);conv=>whnf
  refine And.intro (fun g1=>?_) (fun g1=>?_)
  ·have g1 : nameR x.name = false:=by simpa using g1
   obtain rfl : R = .int .i64 5:=by rw [hR,bad 5 (by decide) (by unfold phErr; rw [if_pos g1])]
   (try dsimp only[awp]);conv=>whnf
   refine fM ?_;(conv=>whnf);refine ⟨?_,rfl⟩;conv=>whnf
   all_goals exact wk
  have g1 : ¬ nameR x.name = false:=by simpa using g1
  (try dsimp only[awp]);conv=>whnf
  refine ⟨⟨by simp,by simp,by simp; omega⟩,?_⟩
  rw [cut0]
  (try dsimp only[awp]);conv=>whnf
  refine LoopE.of <| LoopSpec.inv (.refl _ _) (fun (q : Nat)=>q ≤ i ∧ ∀ (y : Nat) (hy : y < m.phs.length),y < q → m.phs[y].name ≠ x.name) (fun (q : Nat)=>[(32,.int .i64 q)]) (fun _=>_) (fun (q : Nat)=>i - q) 0 ?_ (fun _=>rfl) ?_ ?_
  ·exact ⟨Nat.zero_le _,by omega⟩
  ·all_goals exact wk
  rintro q ⟨hq,hnq⟩ _
  (try dsimp only[awp]);conv=>whnf
  refine And.intro (fun hz=>?_) (fun hz=>?_)
  ·have hql : q < (m.phs.take i).length:=by simpa using hz
   have hqi : q < i:=by rw [List.length_take] at hql; omega
   have hqe : (m.phs.take i)[q] = m.phs[q]'(by omega):=List.getElem_take
   (try dsimp only[awp]);conv=>whnf
   refine aidx hql ?_
   rw [hqe]
   (try dsimp only[awp]);conv=>whnf
   refine And.intro (fun he=>?_) (fun he=>?_)
   ·have g2 : idxP (fun y=>decide (y.name = x.name)) m.phs < i:=by
     have:=(idxP_le (p:=fun y=>decide (y.name = x.name)) (l:=m.phs) (k:=q) (by omega) (by simpa using he)).2
     omega
    obtain rfl : R = .int .i64 6:=by rw [hR,bad 6 (by decide) (by unfold phErr; rw [if_neg g1,if_pos g2])]
    (try dsimp only[awp]);conv=>whnf
    refine fM ?_;(conv=>whnf);refine ⟨?_,rfl⟩;conv=>whnf
    all_goals exact wk
   (try dsimp only[awp]);conv=>whnf
   refine zA ?_;conv=>whnf
   refine ⟨q + 1,?_,?_,?_⟩
   ·refine ⟨hqi,fun y hy hyq=>?_⟩
    by_cases hyq' : y = q
    ·subst hyq'; exact he
    ·exact hnq y hy (by omega)
   ·refine ⟨?_,.mk ?_ ⟨by simp,by simp,trivial⟩⟩
    ·all_goals exact wk
    ·all_goals exact wk
   ·omega
  have hql : q = i:=by have : ¬ q < (m.phs.take i).length:=by simpa using hz
                       rw [List.length_take] at this
                       omega
  subst hql
  have g2 : ¬ idxP (fun y=>decide (y.name = x.name)) m.phs < q:=by
   rw [idxP_some (p:=fun y=>decide (y.name = x.name)) hlt (by simp [hx0]) fun y hy=>by simpa using hnq y (by omega) hy]
   omega
  clear hz
  (try dsimp only[awp]);conv=>whnf
  refine .pure _ _ ?_ ⟨rfl,rfl⟩ (ci x.top) fun _=>?_
  ·exact leL_refl _
  (try dsimp only[awp]);conv=>whnf
  refine And.intro (fun g3=>?_) (fun g3=>?_)
  ·have g3 : isInR m (-1) x.top = false:=by simpa using g3
   obtain rfl : R = .int .i64 5:=by rw [hR,bad 5 (by decide) (by unfold phErr; rw [if_neg g1,if_neg g2,if_pos g3])]
   (try dsimp only[awp]);conv=>whnf
   refine fM ?_;(conv=>whnf);refine ⟨?_,rfl⟩;conv=>whnf
   all_goals exact wk
  have g3 : ¬ isInR m (-1) x.top = false:=by simpa using g3
  have hph : phErr m q x = errL (pvErr m x) 0 x.vals:=by unfold phErr; rw [if_neg g1,if_neg g2,if_neg g3]
  rw [hph] at bad hn
  (try dsimp only[awp]);conv=>whnf
  refine LoopE.of <| LoopSpec.inv (.refl _ _) (fun (j : Nat)=>j ≤ x.vals.length ∧ errL (pvErr m x) 0 x.vals = errL (pvErr m x) j (x.vals.drop j)) (fun (j : Nat)=>[(50,.int .i64 j)]) (fun _=>_) (fun (j : Nat)=>x.vals.length - j) 0 ?_ (fun _=>rfl) ?_ ?_
  ·exact ⟨Nat.zero_le _,rfl⟩
  ·all_goals exact wk
  rintro j ⟨hj,hnj⟩ _
  (try dsimp only[awp]);conv=>whnf
  refine And.intro (fun hh=>?_) (fun hh=>?_)
  ·have hjl : j < x.vals.length:=by simpa using hh
   have hp:=c_rProbX h1c _ (hfc _ (List.getElem_mem hjl))
   rw [errL_step hjl] at hnj
   have bad : ∀ e : Int,e ≠ 0 → pvErr m x j x.vals[j] = e → phasesErr m = e:=by
    intro e he h
    rw [h,if_pos he] at hnj
    exact bad e he hnj
   (try dsimp only[awp]);conv=>whnf
   refine aidx hjl ?_
   generalize hv0 : x.vals[j] = v at *
   (try dsimp only[awp]);conv=>whnf
   refine .pure _ _ ?_ ⟨rfl,rfl⟩ (ce v.ev) fun _=>?_
   ·exact leL_refl _
   (try dsimp only[awp]);conv=>whnf
   refine And.intro (fun q1=>?_) (fun q1=>?_)
   ·obtain rfl : R = .int .i64 5:=by rw [hR,bad 5 (by decide) (by unfold pvErr; rw [if_pos q1])]
    (try dsimp only[awp]);conv=>whnf
    refine fM ?_;(conv=>whnf);refine ⟨?_,rfl⟩;conv=>whnf
    all_goals exact wk
   (try dsimp only[awp]);conv=>whnf
   refine ⟨⟨by simp,by simp,by simp; omega⟩,?_⟩
   rw [cut0]
   (try dsimp only[awp]);conv=>whnf
   refine LoopE.of <| LoopSpec.inv (.refl _ _) (fun (z : Nat)=>z ≤ j ∧ ∀ (y : Nat) (hy : y < x.vals.length),y < z → x.vals[y].ev ≠ v.ev) (fun (z : Nat)=>[(65,.int .i64 z)]) (fun _=>_) (fun (z : Nat)=>j - z) 0 ?_ (fun _=>rfl) ?_ ?_
   ·exact ⟨Nat.zero_le _,by omega⟩
   ·all_goals exact wk
   rintro z ⟨hz,hnz⟩ _
   (try dsimp only[awp]);conv=>whnf
   refine And.intro (fun hzz=>?_) (fun hzz=>?_)
   ·have hzl : z < (x.vals.take j).length:=by simpa using hzz
    have hzi : z < j:=by rw [List.length_take] at hzl; omega
    have hze : (x.vals.take j)[z] = x.vals[z]'(by omega):=List.getElem_take
    (try dsimp only[awp]);conv=>whnf
    refine aidx hzl ?_
    rw [hze]
    (try dsimp only[awp]);conv=>whnf
    refine And.intro (fun he=>?_) (fun he=>?_)
    ·have g2 : idxP (fun y=>decide (y.ev = v.ev)) x.vals < j:=by
      have:=(idxP_le (p:=fun y=>decide (y.ev = v.ev)) (l:=x.vals) (k:=z) (by omega) (by simpa using he)).2
      omega
     obtain rfl : R = .int .i64 6:=by rw [hR,bad 6 (by decide) (by unfold pvErr; rw [if_neg q1,if_pos g2])]
     (try dsimp only[awp]);conv=>whnf
     refine fM ?_;(conv=>whnf);refine ⟨?_,rfl⟩;conv=>whnf
     all_goals exact wk
    (try dsimp only[awp]);conv=>whnf
    refine zA ?_;conv=>whnf
    refine ⟨z + 1,?_,?_,?_⟩
    ·refine ⟨hzi,fun y hy hyq=>?_⟩
     by_cases hyq' : y = z
     ·subst hyq'; exact he
     ·exact hnz y hy (by omega)
    ·refine ⟨?_,.mk ?_ ⟨by simp,by simp,by simp,trivial⟩⟩
     ·all_goals exact wk
     ·all_goals exact wk
    ·omega
   have hzl : z = j:=by have : ¬ z < (x.vals.take j).length:=by simpa using hzz
                        rw [List.length_take] at this
                        omega
   subst hzl
   have q2 : ¬ idxP (fun y=>decide (y.ev = v.ev)) x.vals < z:=by
    rw [idxP_some (p:=fun y=>decide (y.ev = v.ev)) hjl (by simp [hv0]) fun y hy=>by simpa using hnz y (by omega) hy]
    omega
   clear hzz
   (try dsimp only[awp]);conv=>whnf
   refine .pure _ _ ?_ ⟨rfl,rfl⟩ hp fun _=>?_
   ·exact leL_refl _
   (try dsimp only[awp]);conv=>whnf
   refine And.intro (fun q3=>?_) (fun q3=>?_)
   ·have q3 : prob v.p = false:=by simpa using q3
    obtain rfl : R = .int .i64 3:=by rw [hR,bad 3 (by decide) (by unfold pvErr; rw [if_neg q1,if_neg q2,if_pos q3])]
    (try dsimp only[awp]);conv=>whnf
    refine fM ?_;(conv=>whnf);refine ⟨?_,rfl⟩;conv=>whnf
    all_goals exact wk
   have q3 : ¬ prob v.p = false:=by simpa using q3
   have hz0 : pvErr m x z v = 0:=by unfold pvErr; rw [if_neg q1,if_neg q2,if_neg q3]
   (try dsimp only[awp]);conv=>whnf
   refine zA ?_;conv=>whnf
   refine ⟨z + 1,?_,?_,?_⟩
   ·exact ⟨hjl,by rw [hnj,hz0,if_neg (by simp)]⟩
   ·refine ⟨?_,.mk ?_ ⟨by simp,by simp,trivial⟩⟩
    ·all_goals exact wk
    ·all_goals exact wk
   ·omega
  have hjl : j = x.vals.length:=by have : ¬ j < x.vals.length:=by simpa using hh
                                   omega
  rw [errL_end (by omega)] at hnj
  rw [hnj,if_neg (by simp)] at hn
  clear hh
  (try dsimp only[awp]);conv=>whnf
  refine zA ?_;conv=>whnf
  refine ⟨q + 1,?_,?_,?_⟩
  ·exact ⟨hlt,hn⟩
  ·refine ⟨?_,.mk ?_ ⟨by simp,trivial⟩⟩
   ·all_goals exact wk
   ·all_goals exact wk
  ·omega
 ·have hil : i = m.phs.length:=by have : ¬ i < m.phs.length:=by simpa using h
                                  omega
  rw [errL_end (by omega)] at hn
  rw [hge,hn] at hR
  subst hR
  (try dsimp only[awp]);conv=>whnf
  refine fM ?_;(conv=>whnf);refine ⟨?_,rfl⟩;conv=>whnf
  all_goals exact wk

theorem c_groups (h1c : OneC) (m : Md) (hX : MdX m) (hB : MdB m) (R : AV) (hR : R = .int .i64 (groupsErr m)) : FnH Tryz.prog 30 [m.av] [] R []:=by
 have ce:=fun s=>c_revent m s
 have hgl:=hB.grs
 refine FnH.intro lay mixed Tryz.func30 (by kernel_rfl) rfl (by kernel_rfl) rfl fun hok=>?_
 (try dsimp only[argC,succC]);(try dsimp only[awp]);conv=>whnf
 refine And.intro (fun h1=>?_) (fun h1=>?_)
 ·have h1 : 8 < m.grs.length:=by simp only [List.length_map] at h1; omega
  obtain rfl : R = .int .i64 4:=by rw [hR,show groupsErr m = 4 from if_pos h1]
  (try dsimp only[awp]);conv=>whnf
  refine fM ?_;(conv=>whnf);refine ⟨?_,rfl⟩;conv=>whnf
  all_goals exact wk
 have h1 : ¬ 8 < m.grs.length:=by simp only [List.length_map] at h1; omega
 have hge : groupsErr m = grsErr m 0 m.grs []:=if_neg h1
 (try dsimp only[awp]);conv=>whnf
 refine LoopE.of <| LoopSpec.inv (.grow 3 1 [] _ rfl (.inl ⟨rfl,rfl⟩) (.refl _ _)) (fun (s : Nat × List Str)=>s.1 ≤ m.grs.length ∧ grsErr m 0 m.grs [] = grsErr m s.1 (m.grs.drop s.1) s.2 ∧ s.2.length ≤ 60 * s.1)
  (fun s=>[(23,.int .i64 s.1),(3,.sl 1 (s.2.map .str) (.own 1))]) (fun s=>[(1,.tok 1 s.2.length),(0,.box m.av)]) (fun s=>m.grs.length - s.1) (0,[]) ?_ (fun _=>rfl) ?_ ?_
 ·exact ⟨Nat.zero_le _,rfl,by simp⟩
 ·refine ⟨?_,.mk ?_ ⟨by simp,by simp,trivial⟩⟩
  ·all_goals exact wk
  ·all_goals exact wk
 rintro ⟨i,sp⟩ ⟨hi,hn,hs1⟩ _
 dsimp only at hi hn hs1
 (try dsimp only[awp]);conv=>whnf
 refine And.intro (fun h=>?_) (fun h=>?_)
 ·have hlt : i < m.grs.length:=by simpa using h
  have hml:=hB.mem _ (List.getElem_mem hlt)
  have hfc:=hX.grs _ (List.getElem_mem hlt)
  rw [List.drop_eq_getElem_cons hlt] at hn
  simp only [grsErr] at hn
  have bad : ∀ e : Int,e ≠ 0 → (grErr m i m.grs[i] sp).1 = e → groupsErr m = e:=by
   intro e he h
   rw [h,if_pos he] at hn
   rw [hge,hn]
  (try dsimp only[awp]);conv=>whnf
  refine aidx hlt ?_
  generalize hx0 : m.grs[i] = x at *
  (try dsimp only[awp]);conv=>whnf
  refine .pure _ _ ?_ ⟨rfl,rfl⟩ (c_Name21 x.name) fun _=>?_
  ·exact leL_refl _
  (try dsimp only[awp]);conv=>whnf
  refine And.intro (fun g1=>?_) (fun g1=>?_)
  ·have g1 : nameR x.name = false:=by simpa using g1
   obtain rfl : R = .int .i64 5:=by rw [hR,bad 5 (by decide) (by unfold grErr; rw [if_pos g1])]
   (try dsimp only[awp]);conv=>whnf
   refine fM ?_;(conv=>whnf);refine ⟨?_,rfl⟩;conv=>whnf
   all_goals exact wk
  have g1 : ¬ nameR x.name = false:=by simpa using g1
  (try dsimp only[awp]);conv=>whnf
  refine ⟨⟨by simp,by simp,by simp; omega⟩,?_⟩
  rw [cut0]
  (try dsimp only[awp]);conv=>whnf
  refine LoopE.of <| LoopSpec.inv (.refl _ _) (fun (q : Nat)=>q ≤ i ∧ ∀ (y : Nat) (hy : y < m.grs.length),y < q → m.grs[y].name ≠ x.name) (fun (q : Nat)=>[(37,.int .i64 q)]) (fun _=>_) (fun (q : Nat)=>i - q) 0 ?_ (fun _=>rfl) ?_ ?_
  ·exact ⟨Nat.zero_le _,by omega⟩
  ·all_goals exact wk
  rintro q ⟨hq,hnq⟩ _
  (try dsimp only[awp]);conv=>whnf
  refine And.intro (fun hz=>?_) (fun hz=>?_)
  ·have hql : q < (m.grs.take i).length:=by simpa using hz
   have hqi : q < i:=by rw [List.length_take] at hql; omega
   have hqe : (m.grs.take i)[q] = m.grs[q]'(by omega):=List.getElem_take
   (try dsimp only[awp]);conv=>whnf
   refine aidx hql ?_
   rw [hqe]
   (try dsimp only[awp]);conv=>whnf
   refine And.intro (fun he=>?_) (fun he=>?_)
   ·have g2 : idxP (fun y=>decide (y.name = x.name)) m.grs < i:=by
     have:=(idxP_le (p:=fun y=>decide (y.name = x.name)) (l:=m.grs) (k:=q) (by omega) (by simpa using he)).2
     omega
    obtain rfl : R = .int .i64 6:=by rw [hR,bad 6 (by decide) (by unfold grErr; rw [if_neg g1,if_pos g2])]
    (try dsimp only[awp]);conv=>whnf
    refine fM ?_;(conv=>whnf);refine ⟨?_,rfl⟩;conv=>whnf
    all_goals exact wk
   (try dsimp only[awp]);conv=>whnf
   refine zA ?_;conv=>whnf
   refine ⟨q + 1,?_,?_,?_⟩
   ·refine ⟨hqi,fun y hy hyq=>?_⟩
    by_cases hyq' : y = q
    ·subst hyq'; exact he
    ·exact hnq y hy (by omega)
   ·refine ⟨?_,.mk ?_ ⟨by simp,by simp,by simp,trivial⟩⟩
    ·all_goals exact wk
    ·all_goals exact wk
   ·omega
  have hql : q = i:=by have : ¬ q < (m.grs.take i).length:=by simpa using hz
                       rw [List.length_take] at this
                       omega
  have g2 : ¬ idxP (fun y=>decide (y.name = x.name)) m.grs < i:=by
   rw [idxP_some (p:=fun y=>decide (y.name = x.name)) hlt (by simp [hx0]) fun y hy=>by simpa using hnq y (by omega) (by omega)]
   omega
  clear hz hql hnq hq
  (try dsimp only[awp]);conv=>whnf
  refine And.intro (fun k0=>?_) (fun k0=>?_)
  ·(try dsimp only[awp]);conv=>whnf
   refine And.intro (fun k1=>?_) (fun k1=>?_)
   ·obtain rfl : R = .int .i64 7:=by rw [hR,bad 7 (by decide) (by unfold grErr; rw [if_neg g1,if_neg g2,if_pos ⟨k0,k1⟩])]
    (try dsimp only[awp]);conv=>whnf
    refine fM ?_;(conv=>whnf);refine ⟨?_,rfl⟩;conv=>whnf
    all_goals exact wk
   have k1 : x.kind = 1:=by omega
   have g3 : ¬ (x.kind ≠ 0 ∧ x.kind ≠ 1):=fun h=>h.2 k1
   (try dsimp only[awp]);conv=>whnf
   refine And.intro (fun _=>?_) (fun h=>absurd k1 h)
   (try dsimp only[awp]);conv=>whnf
   refine ADraw.auto (by kernel_rfl) ?_;conv=>whnf
   refine ⟨inr64 (by simp; omega) (by simp; omega),?_⟩
   rw [show ((x.mem.map AV.str).length : Int) = (x.mem.length : Int) by simp]
   have e1 : (if x.kind = 1 then (4 : Int) else 24) = 4:=if_pos k1
   have e2 : (if x.kind = 1 then (x.mem.length : Int) - 1 else 1) = (x.mem.length : Int) - 1:=if_pos k1
   (try dsimp only[awp]);conv=>whnf
   refine And.intro (fun g4=>?_) (fun g4=>?_)
   ·have g4 : x.mem.length < 2:=by simp only [List.length_map] at g4; omega
    obtain rfl : R = .int .i64 11:=by rw [hR,bad 11 (by decide) (by unfold grErr; rw [if_neg g1,if_neg g2,if_neg g3,if_pos g4])]
    (try dsimp only[awp]);conv=>whnf
    refine fM ?_;(conv=>whnf);refine ⟨?_,rfl⟩;conv=>whnf
    all_goals exact wk
   have g4 : ¬ x.mem.length < 2:=by simp only [List.length_map] at g4; omega
   (try dsimp only[awp]);conv=>whnf
   refine And.intro (fun g5=>?_) (fun g5=>?_)
   ·rw [show ((x.mem.map AV.str).length : Int) = (x.mem.length : Int) by simp,← e1] at g5
    obtain rfl : R = .int .i64 11:=by rw [hR,bad 11 (by decide) (by unfold grErr; rw [if_neg g1,if_neg g2,if_neg g3,if_neg g4,if_pos g5])]
    (try dsimp only[awp]);conv=>whnf
    refine fM ?_;(conv=>whnf);refine ⟨?_,rfl⟩;conv=>whnf
    all_goals exact wk
   rw [show ((x.mem.map AV.str).length : Int) = (x.mem.length : Int) by simp,← e1] at g5
   (try dsimp only[awp]);conv=>whnf
   refine And.intro (fun g6=>?_) (fun g6=>?_)
   ·rw [show ((x.fac.map Rat.av).length : Int) = (x.fac.length : Int) by simp,← e2] at g6
    obtain rfl : R = .int .i64 11:=by rw [hR,bad 11 (by decide) (by unfold grErr; rw [if_neg g1,if_neg g2,if_neg g3,if_neg g4,if_neg g5,if_pos g6])]
    (try dsimp only[awp]);conv=>whnf
    refine fM ?_;(conv=>whnf);refine ⟨?_,rfl⟩;conv=>whnf
    all_goals exact wk
   rw [show ((x.fac.map Rat.av).length : Int) = (x.fac.length : Int) by simp,← e2] at g6
   have hgr : grErr m i x sp = if (memErr m x.mem sp).1 ≠ 0 then memErr m x.mem sp else if (x.fac.any fun f=>!prob f) = true then (3,[]) else memErr m x.mem sp:=by
    unfold grErr; rw [if_neg g1,if_neg g2,if_neg g3,if_neg g4,if_neg g5,if_neg g6]
   (try dsimp only[awp]);conv=>whnf
   refine LoopE.of <| LoopSpec.inv (.refl _ _) (fun (s : Nat × List Str)=>s.1 ≤ x.mem.length ∧ memErr m x.mem sp = memErr m (x.mem.drop s.1) s.2 ∧ s.2.length ≤ sp.length + s.1)
    (fun s=>[(83,.int .i64 s.1),(3,.sl 1 (s.2.map .str) (.own 1))]) (fun s=>[(2,.box x.av),(1,.tok 1 s.2.length),(0,.box m.av)]) (fun s=>x.mem.length - s.1) (0,sp) ?_ (fun _=>rfl) ?_ ?_
   ·exact ⟨Nat.zero_le _,rfl,by simp⟩
   ·refine ⟨?_,.mk ?_ ⟨by simp,by simp,by simp,trivial⟩⟩
    ·all_goals exact wk
    ·all_goals exact wk
   rintro ⟨j,s2⟩ ⟨hj,hnj,hs2⟩ _
   dsimp only at hj hnj hs2
   (try dsimp only[awp]);conv=>whnf
   refine And.intro (fun hh=>?_) (fun hh=>?_)
   ·have hjl : j < x.mem.length:=by simpa using hh
    rw [List.drop_eq_getElem_cons hjl] at hnj
    simp only [memErr] at hnj
    (try dsimp only[awp]);conv=>whnf
    refine aidx hjl ?_
    generalize x.mem[j] = y at *
    (try dsimp only[awp]);conv=>whnf
    refine .pure _ _ ?_ ⟨rfl,rfl⟩ (ce y) fun _=>?_
    ·exact leL_refl _
    (try dsimp only[awp]);conv=>whnf
    refine And.intro (fun q1=>?_) (fun q1=>?_)
    ·rw [if_pos q1] at hnj
     obtain rfl : R = .int .i64 5:=by rw [hR,bad 5 (by decide) (by rw [hgr,hnj]; rfl)]
     (try dsimp only[awp]);conv=>whnf
     refine fM ?_;(conv=>whnf);refine ⟨?_,rfl⟩;conv=>whnf
     all_goals exact wk
    rw [if_neg q1] at hnj
    (try dsimp only[awp]);conv=>whnf
    refine LoopE.of <| LoopSpec.inv (.refl _ _) (fun (q : Nat)=>q ≤ s2.length ∧ ∀ (z : Nat) (hz : z < s2.length),z < q → s2[z] ≠ y) (fun (q : Nat)=>[(93,.int .i64 q)]) (fun _=>_) (fun (q : Nat)=>s2.length - q) 0 ?_ (fun _=>rfl) ?_ ?_
    ·exact ⟨Nat.zero_le _,by omega⟩
    ·all_goals exact wk
    rintro q ⟨hq,hnq⟩ _
    (try dsimp only[awp]);conv=>whnf
    refine And.intro (fun hz=>?_) (fun hz=>?_)
    ·have hql : q < s2.length:=by simpa using hz
     (try dsimp only[awp]);conv=>whnf
     refine aidx hql ?_
     (try dsimp only[awp]);conv=>whnf
     refine And.intro (fun he=>?_) (fun he=>?_)
     ·rw [if_pos (any_eq_mem hql he)] at hnj
      obtain rfl : R = .int .i64 6:=by rw [hR,bad 6 (by decide) (by rw [hgr,hnj]; rfl)]
      (try dsimp only[awp]);conv=>whnf
      refine fM ?_;(conv=>whnf);refine ⟨?_,rfl⟩;conv=>whnf
      all_goals exact wk
     (try dsimp only[awp]);conv=>whnf
     refine zA ?_;conv=>whnf
     refine ⟨q + 1,?_,?_,?_⟩
     ·refine ⟨hql,fun z hz hzq=>?_⟩
      by_cases hzq' : z = q
      ·subst hzq'; exact he
      ·exact hnq z hz (by omega)
     ·refine ⟨?_,.mk ?_ ⟨by simp,by simp,by simp,trivial⟩⟩
      ·all_goals exact wk
      ·all_goals exact wk
     ·omega
    have hql : q = s2.length:=by have : ¬ q < s2.length:=by simpa using hz
                                 omega
    subst hql
    rw [if_neg (by rw [any_eq_take fun z hz _=>hnq z hz hz]; simp)] at hnj
    clear hz
    (try dsimp only[awp]);conv=>whnf
    refine ⟨by rw [List.length_map],.mk (by simp [maxL]; omega) (by simp; omega) ?_⟩
    (try dsimp only[awp]);conv=>whnf
    refine zA ?_;conv=>whnf
    refine ⟨(j + 1,s2 ++ [y]),?_,?_,?_⟩
    ·exact ⟨hjl,hnj,by show (s2 ++ [y]).length ≤ sp.length + (j + 1); simp; omega⟩
    ·refine ⟨?_,.mk ?_ ⟨by simp,by simp,by simp,trivial⟩⟩
     ·repeat' first|exact rfl|exact trivial|exact wR|exact lR _|apply aI
      all_goals first | (refine leRL_of ?_; simp [strip]; done) | (simp; done) | (simp; omega)
     ·repeat' first|exact rfl|exact trivial|exact wR|exact lR _|apply aI
      all_goals first | (refine leRL_of ?_; simp [strip]; done) | (simp; done) | (simp; omega)
    ·show x.mem.length - (j + 1) < x.mem.length - j
     omega
   have hjl : j = x.mem.length:=by have : ¬ j < x.mem.length:=by simpa using hh
                                   omega
   rw [List.drop_eq_nil_of_le (by omega)] at hnj
   simp only [memErr] at hnj
   rw [hnj,if_neg (by simp)] at hgr
   clear hh
   (try dsimp only[awp]);conv=>whnf
   refine LoopE.of <| LoopSpec.inv (.refl _ _) (fun (q : Nat)=>q ≤ x.fac.length ∧ ∀ (z : Nat) (hz : z < x.fac.length),z < q → prob x.fac[z] = true) (fun (q : Nat)=>[(109,.int .i64 q)]) (fun _=>_) (fun (q : Nat)=>x.fac.length - q) 0 ?_ (fun _=>rfl) ?_ ?_
   ·exact ⟨Nat.zero_le _,by omega⟩
   ·all_goals exact wk
   rintro q ⟨hq,hnq⟩ _
   (try dsimp only[awp]);conv=>whnf
   refine And.intro (fun hz=>?_) (fun hz=>?_)
   ·have hql : q < x.fac.length:=by simpa using hz
    have hp:=c_rProbX h1c _ (hfc _ (List.getElem_mem hql))
    (try dsimp only[awp]);conv=>whnf
    refine aidx hql ?_
    (try dsimp only[awp]);conv=>whnf
    refine .pure _ _ ?_ ⟨rfl,rfl⟩ hp fun _=>?_
    ·exact leL_refl _
    (try dsimp only[awp]);conv=>whnf
    refine And.intro (fun q3=>?_) (fun q3=>?_)
    ·rw [if_pos (List.any_eq_true.2 ⟨_,List.getElem_mem hql,by simpa using q3⟩)] at hgr
     obtain rfl : R = .int .i64 3:=by rw [hR,bad 3 (by decide) (by rw [hgr])]
     (try dsimp only[awp]);conv=>whnf
     refine fM ?_;(conv=>whnf);refine ⟨?_,rfl⟩;conv=>whnf
     all_goals exact wk
    (try dsimp only[awp]);conv=>whnf
    refine zA ?_;conv=>whnf
    refine ⟨q + 1,?_,?_,?_⟩
    ·refine ⟨hql,fun z hz hzq=>?_⟩
     by_cases hzq' : z = q
     ·subst hzq'; simpa using q3
     ·exact hnq z hz (by omega)
    ·refine ⟨?_,.mk ?_ ⟨by simp,by simp,by simp,trivial⟩⟩
     ·all_goals exact wk
     ·all_goals exact wk
    ·omega
   have hql : q = x.fac.length:=by have : ¬ q < x.fac.length:=by simpa using hz
                                   omega
   subst hql
   rw [if_neg (by
    rw [Bool.not_eq_true,List.any_eq_false]
    intro f hf
    obtain ⟨z,hz,rfl⟩:=List.getElem_of_mem hf
    simp [hnq z hz hz])] at hgr
   rw [hgr,if_neg (by simp)] at hn
   (try dsimp only[awp]);conv=>whnf
   refine zA ?_;conv=>whnf
   refine ⟨(i + 1,s2),?_,?_,?_⟩
   ·exact ⟨hlt,hn,by show s2.length ≤ 60 * (i + 1); omega⟩
   ·refine ⟨?_,.mk ?_ ⟨by simp,by simp,trivial⟩⟩
    ·all_goals exact wk
    ·all_goals exact wk
   ·show m.grs.length - (i + 1) < m.grs.length - i
    omega
  ·have k0 : x.kind = 0:=by omega
   have g3 : ¬ (x.kind ≠ 0 ∧ x.kind ≠ 1):=fun h=>h.1 k0
   (try dsimp only[awp]);conv=>whnf
   refine And.intro (fun h=>by exfalso; omega) (fun h1=>?_)
   have e1 : (if x.kind = 1 then (4 : Int) else 24) = 24:=if_neg h1
   have e2 : (if x.kind = 1 then (x.mem.length : Int) - 1 else 1) = 1:=if_neg h1
   (try dsimp only[awp]);conv=>whnf
   refine And.intro (fun g4=>?_) (fun g4=>?_)
   ·have g4 : x.mem.length < 2:=by simp only [List.length_map] at g4; omega
    obtain rfl : R = .int .i64 11:=by rw [hR,bad 11 (by decide) (by unfold grErr; rw [if_neg g1,if_neg g2,if_neg g3,if_pos g4])]
    (try dsimp only[awp]);conv=>whnf
    refine fM ?_;(conv=>whnf);refine ⟨?_,rfl⟩;conv=>whnf
    all_goals exact wk
   have g4 : ¬ x.mem.length < 2:=by simp only [List.length_map] at g4; omega
   (try dsimp only[awp]);conv=>whnf
   refine And.intro (fun g5=>?_) (fun g5=>?_)
   ·rw [show ((x.mem.map AV.str).length : Int) = (x.mem.length : Int) by simp,← e1] at g5
    obtain rfl : R = .int .i64 11:=by rw [hR,bad 11 (by decide) (by unfold grErr; rw [if_neg g1,if_neg g2,if_neg g3,if_neg g4,if_pos g5])]
    (try dsimp only[awp]);conv=>whnf
    refine fM ?_;(conv=>whnf);refine ⟨?_,rfl⟩;conv=>whnf
    all_goals exact wk
   rw [show ((x.mem.map AV.str).length : Int) = (x.mem.length : Int) by simp,← e1] at g5
   (try dsimp only[awp]);conv=>whnf
   refine And.intro (fun g6=>?_) (fun g6=>?_)
   ·rw [show ((x.fac.map Rat.av).length : Int) = (x.fac.length : Int) by simp,← e2] at g6
    obtain rfl : R = .int .i64 11:=by rw [hR,bad 11 (by decide) (by unfold grErr; rw [if_neg g1,if_neg g2,if_neg g3,if_neg g4,if_neg g5,if_pos g6])]
    (try dsimp only[awp]);conv=>whnf
    refine fM ?_;(conv=>whnf);refine ⟨?_,rfl⟩;conv=>whnf
    all_goals exact wk
   rw [show ((x.fac.map Rat.av).length : Int) = (x.fac.length : Int) by simp,← e2] at g6
   have hgr : grErr m i x sp = if (memErr m x.mem sp).1 ≠ 0 then memErr m x.mem sp else if (x.fac.any fun f=>!prob f) = true then (3,[]) else memErr m x.mem sp:=by
    unfold grErr; rw [if_neg g1,if_neg g2,if_neg g3,if_neg g4,if_neg g5,if_neg g6]
   (try dsimp only[awp]);conv=>whnf
   refine LoopE.of <| LoopSpec.inv (.refl _ _) (fun (s : Nat × List Str)=>s.1 ≤ x.mem.length ∧ memErr m x.mem sp = memErr m (x.mem.drop s.1) s.2 ∧ s.2.length ≤ sp.length + s.1)
    (fun s=>[(83,.int .i64 s.1),(3,.sl 1 (s.2.map .str) (.own 1))]) (fun s=>[(2,.box x.av),(1,.tok 1 s.2.length),(0,.box m.av)]) (fun s=>x.mem.length - s.1) (0,sp) ?_ (fun _=>rfl) ?_ ?_
   ·exact ⟨Nat.zero_le _,rfl,by simp⟩
   ·refine ⟨?_,.mk ?_ ⟨by simp,by simp,by simp,trivial⟩⟩
    ·all_goals exact wk
    ·all_goals exact wk
   rintro ⟨j,s2⟩ ⟨hj,hnj,hs2⟩ _
   dsimp only at hj hnj hs2
   (try dsimp only[awp]);conv=>whnf
   refine And.intro (fun hh=>?_) (fun hh=>?_)
   ·have hjl : j < x.mem.length:=by simpa using hh
    rw [List.drop_eq_getElem_cons hjl] at hnj
    simp only [memErr] at hnj
    (try dsimp only[awp]);conv=>whnf
    refine aidx hjl ?_
    generalize x.mem[j] = y at *
    (try dsimp only[awp]);conv=>whnf
    refine .pure _ _ ?_ ⟨rfl,rfl⟩ (ce y) fun _=>?_
    ·exact leL_refl _
    (try dsimp only[awp]);conv=>whnf
    refine And.intro (fun q1=>?_) (fun q1=>?_)
    ·rw [if_pos q1] at hnj
     obtain rfl : R = .int .i64 5:=by rw [hR,bad 5 (by decide) (by rw [hgr,hnj]; rfl)]
     (try dsimp only[awp]);conv=>whnf
     refine fM ?_;(conv=>whnf);refine ⟨?_,rfl⟩;conv=>whnf
     all_goals exact wk
    rw [if_neg q1] at hnj
    (try dsimp only[awp]);conv=>whnf
    refine LoopE.of <| LoopSpec.inv (.refl _ _) (fun (q : Nat)=>q ≤ s2.length ∧ ∀ (z : Nat) (hz : z < s2.length),z < q → s2[z] ≠ y) (fun (q : Nat)=>[(93,.int .i64 q)]) (fun _=>_) (fun (q : Nat)=>s2.length - q) 0 ?_ (fun _=>rfl) ?_ ?_
    ·exact ⟨Nat.zero_le _,by omega⟩
    ·all_goals exact wk
    rintro q ⟨hq,hnq⟩ _
    (try dsimp only[awp]);conv=>whnf
    refine And.intro (fun hz=>?_) (fun hz=>?_)
    ·have hql : q < s2.length:=by simpa using hz
     (try dsimp only[awp]);conv=>whnf
     refine aidx hql ?_
     (try dsimp only[awp]);conv=>whnf
     refine And.intro (fun he=>?_) (fun he=>?_)
     ·rw [if_pos (any_eq_mem hql he)] at hnj
      obtain rfl : R = .int .i64 6:=by rw [hR,bad 6 (by decide) (by rw [hgr,hnj]; rfl)]
      (try dsimp only[awp]);conv=>whnf
      refine fM ?_;(conv=>whnf);refine ⟨?_,rfl⟩;conv=>whnf
      all_goals exact wk
     (try dsimp only[awp]);conv=>whnf
     refine zA ?_;conv=>whnf
     refine ⟨q + 1,?_,?_,?_⟩
     ·refine ⟨hql,fun z hz hzq=>?_⟩
      by_cases hzq' : z = q
      ·subst hzq'; exact he
      ·exact hnq z hz (by omega)
     ·refine ⟨?_,.mk ?_ ⟨by simp,by simp,by simp,trivial⟩⟩
      ·all_goals exact wk
      ·all_goals exact wk
     ·omega
    have hql : q = s2.length:=by have : ¬ q < s2.length:=by simpa using hz
                                 omega
    subst hql
    rw [if_neg (by rw [any_eq_take fun z hz _=>hnq z hz hz]; simp)] at hnj
    clear hz
    (try dsimp only[awp]);conv=>whnf
    refine ⟨by rw [List.length_map],.mk (by simp [maxL]; omega) (by simp; omega) ?_⟩
    (try dsimp only[awp]);conv=>whnf
    refine zA ?_;conv=>whnf
    refine ⟨(j + 1,s2 ++ [y]),?_,?_,?_⟩
    ·exact ⟨hjl,hnj,by show (s2 ++ [y]).length ≤ sp.length + (j + 1); simp; omega⟩
    ·refine ⟨?_,.mk ?_ ⟨by simp,by simp,by simp,trivial⟩⟩
     ·repeat' first|exact rfl|exact trivial|exact wR|exact lR _|apply aI
      all_goals first | (refine leRL_of ?_; simp [strip]; done) | (simp; done) | (simp; omega)
     ·repeat' first|exact rfl|exact trivial|exact wR|exact lR _|apply aI
      all_goals first | (refine leRL_of ?_; simp [strip]; done) | (simp; done) | (simp; omega)
    ·show x.mem.length - (j + 1) < x.mem.length - j
     omega
   have hjl : j = x.mem.length:=by have : ¬ j < x.mem.length:=by simpa using hh
                                   omega
   rw [List.drop_eq_nil_of_le (by omega)] at hnj
   simp only [memErr] at hnj
   rw [hnj,if_neg (by simp)] at hgr
   clear hh
   (try dsimp only[awp]);conv=>whnf
   refine LoopE.of <| LoopSpec.inv (.refl _ _) (fun (q : Nat)=>q ≤ x.fac.length ∧ ∀ (z : Nat) (hz : z < x.fac.length),z < q → prob x.fac[z] = true) (fun (q : Nat)=>[(109,.int .i64 q)]) (fun _=>_) (fun (q : Nat)=>x.fac.length - q) 0 ?_ (fun _=>rfl) ?_ ?_
   ·exact ⟨Nat.zero_le _,by omega⟩
   ·all_goals exact wk
   rintro q ⟨hq,hnq⟩ _
   (try dsimp only[awp]);conv=>whnf
   refine And.intro (fun hz=>?_) (fun hz=>?_)
   ·have hql : q < x.fac.length:=by simpa using hz
    have hp:=c_rProbX h1c _ (hfc _ (List.getElem_mem hql))
    (try dsimp only[awp]);conv=>whnf
    refine aidx hql ?_
    (try dsimp only[awp]);conv=>whnf
    refine .pure _ _ ?_ ⟨rfl,rfl⟩ hp fun _=>?_
    ·exact leL_refl _
    (try dsimp only[awp]);conv=>whnf
    refine And.intro (fun q3=>?_) (fun q3=>?_)
    ·rw [if_pos (List.any_eq_true.2 ⟨_,List.getElem_mem hql,by simpa using q3⟩)] at hgr
     obtain rfl : R = .int .i64 3:=by rw [hR,bad 3 (by decide) (by rw [hgr])]
     (try dsimp only[awp]);conv=>whnf
     refine fM ?_;(conv=>whnf);refine ⟨?_,rfl⟩;conv=>whnf
     all_goals exact wk
    (try dsimp only[awp]);conv=>whnf
    refine zA ?_;conv=>whnf
    refine ⟨q + 1,?_,?_,?_⟩
    ·refine ⟨hql,fun z hz hzq=>?_⟩
     by_cases hzq' : z = q
     ·subst hzq'; simpa using q3
     ·exact hnq z hz (by omega)
    ·refine ⟨?_,.mk ?_ ⟨by simp,by simp,by simp,trivial⟩⟩
     ·all_goals exact wk
     ·all_goals exact wk
    ·omega
   have hql : q = x.fac.length:=by have : ¬ q < x.fac.length:=by simpa using hz
                                   omega
   subst hql
   rw [if_neg (by
    rw [Bool.not_eq_true,List.any_eq_false]
    intro f hf
    obtain ⟨z,hz,rfl⟩:=List.getElem_of_mem hf
    simp [hnq z hz hz])] at hgr
   rw [hgr,if_neg (by simp)] at hn
   (try dsimp only[awp]);conv=>whnf
   refine zA ?_;conv=>whnf
   refine ⟨(i + 1,s2),?_,?_,?_⟩
   ·exact ⟨hlt,hn,by show s2.length ≤ 60 * (i + 1); omega⟩
   ·refine ⟨?_,.mk ?_ ⟨by simp,by simp,trivial⟩⟩
    ·all_goals exact wk
    ·all_goals exact wk
   ·show m.grs.length - (i + 1) < m.grs.length - i
    omega
 ·have hil : i = m.grs.length:=by have : ¬ i < m.grs.length:=by simpa using h
                                  omega
  rw [List.drop_eq_nil_of_le (by omega)] at hn
  simp only [grsErr] at hn
  rw [hge,hn] at hR
  subst hR
  (try dsimp only[awp]);conv=>whnf
  refine fM ?_;(conv=>whnf);refine ⟨?_,rfl⟩;conv=>whnf
  all_goals exact wk
end S
