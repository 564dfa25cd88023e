/-
  Contracts of functions of the program, over the logic of the texts before. Nothing is assumed.
-/
import Derived.Test.YtkbjecdpgbnkdaaGreatT7
import Derived.SizedLaws

open Go Go.AL Go.Proofs
namespace S
set_option maxRecDepth 100000

theorem set_zeros {s : List Int} {i m : Nat} {d : Int} (h : s.length = i) (hi : i < m) : (s ++ List.replicate (m - i) 0).set i d = (s ++ [d]) ++ List.replicate (m - (i + 1)) 0:=by
 obtain ⟨k,hk⟩ : ∃ k,m - i = k + 1:=⟨m - i - 1,by omega⟩
 rw [hk,show m - (i + 1) = k by omega,List.set_append_right _ _ (by omega),h,Nat.sub_self,List.append_assoc]
 rfl

theorem c_nAdd (a b : List Int) (ha : a.length ≤ 900000) (hb : b.length ≤ 900000) : FnH Tryz.prog 240 [wL a,wL b] [] (wL (wd (val a + val b))) []:=by
 refine FnH.intro lay mixed Tryz.func240 (by kernel_rfl) rfl (by kernel_rfl) rfl fun hok=>?_
 have wa : Ws a:=Ws.ok hok.1.2
 have wb : Ws b:=Ws.ok hok.2.1.2
 (try dsimp only[argC,succC]);(try dsimp only[awp]);conv=>whnf
 obtain ⟨m,hm⟩ : ∃ m,max a.length b.length + 1 = m:=⟨_,rfl⟩
 have em : max (((a.map (AV.int .u32)).length : Nat) : Int) (((b.map (AV.int .u32)).length : Nat) : Int) + 1 = (m : Int):=by simp only [List.length_map]; omega
 refine And.intro (by rw [em]; exact inr64 (by omega) (by omega)) ?_
 rw [em]
 conv=>whnf
 refine ⟨⟨by omega,by omega,by simp; omega,by omega⟩,.wr ?_⟩
 conv=>whnf
 refine LoopE.of <| LoopSpec.inv (.refl _ _) (fun x : Nat × Nat × List Int=>x.1 ≤ m ∧ x.2.1 ≤ 1 ∧ Ws x.2.2 ∧ x.2.2.length = x.1 ∧ val x.2.2 + 4294967296 ^ x.1 * x.2.1 = val (a.take x.1) + val (b.take x.1))
  (fun | (i,c,s)=>[(17,.int .i64 i),(6,.int .u64 c)]) (fun | (i,_,s)=>[(0,.arr 1 m ((s ++ List.replicate (m - i) 0).map (.int .u32)))])
  (fun x=>m - x.1) (0,0,[]) ?_ (fun _=>rfl) ?_ ?_
 ·exact ⟨Nat.zero_le _,by simp,Ws.nil,rfl,by simp [val]⟩
 ·refine ⟨?_,.mk ?_ ⟨by simp,trivial⟩⟩
  ·all_goals exact wk
  ·repeat' first|exact rfl|exact trivial|exact wR|exact lR _|apply aI
   all_goals first | (show leRL (List.replicate _ _) (List.map _ ([] ++ List.replicate _ 0)); rw [List.nil_append,List.map_replicate]; exact leRL_refl _) | skip
 rintro ⟨i,c,s⟩ ⟨hi,hc,hws,hsl,hv⟩ _
 simp only at hi hc hws hsl hv
 (try dsimp only[awp]);conv=>whnf
 refine And.intro (fun h=>?_) (fun h=>?_)
 ·have hlt : i < m:=by omega
  have ca:=c_word a i
  have cb:=c_word b i
  have hva:=val_take_getD (l:=a) (i:=i)
  have hvb:=val_take_getD (l:=b) (i:=i)
  have hxa:=wa.getD (i:=i)
  have hxb:=wb.getD (i:=i)
  generalize a.getD i 0 = x0 at *
  generalize b.getD i 0 = y0 at *
  obtain ⟨x,rfl⟩ : ∃ x : Nat,x0 = x:=⟨x0.toNat,by omega⟩
  obtain ⟨w,rfl⟩ : ∃ x : Nat,y0 = x:=⟨y0.toNat,by omega⟩
  rw [Int.toNat_natCast] at hva hvb
  (try dsimp only[awp]);conv=>whnf
  refine .gen _ _ (FnH.ofPure ca (leL_refl _) ⟨rfl,rfl⟩) fun _=>?_
  (try dsimp only[awp]);conv=>whnf
  refine .gen _ _ (FnH.ofPure cb (leL_refl _) ⟨rfl,rfl⟩) fun _=>?_
  conv=>whnf
  rw [show ((x : Int) + (w : Int)) = ((x + w : Nat) : Int) from (Int.natCast_add x w).symm,wrap_u64 (n:=((x + w : Nat) : Int)) (by omega) (by omega)]
  rw [show ((c : Int) + ((x + w : Nat) : Int)) = ((x + w + c : Nat) : Int) by omega,wrap_u64 (n:=((x + w + c : Nat) : Int)) (by omega) (by omega)]
  obtain ⟨D,hD⟩ : ∃ D,x + w + c = D:=⟨_,rfl⟩
  rw [hD]
  conv=>whnf
  rw [wrapu32_mod (a:=D)]
  refine ⟨⟨by omega,by omega⟩,?_⟩
  conv=>whnf
  refine ⟨by rw [List.length_map,List.length_append,List.length_replicate]; omega,rfl,?_⟩
  conv=>whnf
  refine ⟨by decide,?_⟩
  rw [shr_word rfl]
  conv=>whnf
  refine zA ?_;conv=>whnf
  refine ⟨(i + 1,D / 4294967296,s ++ [((D % 4294967296 : Nat) : Int)]),?_,?_,?_⟩
  ·refine ⟨hlt,(by omega : D / 4294967296 ≤ 1),hws.append (Ws.cons (by omega) Ws.nil),by simp [hsl],?_⟩
   show val (s ++ [((D % 4294967296 : Nat) : Int)]) + 4294967296 ^ (i + 1) * (D / 4294967296) = val (a.take (i + 1)) + val (b.take (i + 1))
   have e1 : val (s ++ [((D % 4294967296 : Nat) : Int)]) = val s + 4294967296 ^ i * (D % 4294967296):=by
    rw [val_append,hsl]
    show _ + _ * ((((D % 4294967296 : Nat) : Int)).toNat + 4294967296 * 0) = _
    rw [Int.toNat_natCast]; rfl
   rw [hva,hvb,e1,Nat.pow_succ]
   exact radd_arith hD hv
  ·refine ⟨?_,.mk ?_ ⟨by simp,trivial⟩⟩
   ·all_goals exact wk
   ·repeat' first|exact rfl|exact trivial|exact wR|exact lR _|apply aI
    all_goals (refine leRL_of ?_; rw [← set_zeros hsl hlt,List.map_set,Nat.zero_add,Int.toNat_natCast]; rfl)
  ·show m - (i + 1) < m - i
   omega
 ·have hil : i = m:=by omega
  subst hil
  rw [List.take_of_length_le (by omega),List.take_of_length_le (by omega)] at hv
  have hfin : val s = val a + val b:=radd_fin (by omega) (val_lt wa) (val_lt wb) (by omega) (by omega) hv
  have ct:=c_trim s (by omega)
  rw [hfin] at ct
  (try dsimp only[awp]);conv=>whnf
  refine .gen _ _ (FnH.frz 0 rfl rfl (by simp; omega) (FnH.ofPure ct ?_ ⟨rfl,rfl⟩)) fun _=>?_
  ·repeat' first|exact rfl|exact trivial|exact wR|exact lR _|apply aI
   all_goals (refine leRL_of ?_; rw [Nat.sub_self,List.replicate_zero,List.append_nil,List.drop_zero,List.take_of_length_le (by simp; omega)])
  (try dsimp only[awp]);conv=>whnf
  refine fM ?_;(conv=>whnf);refine ⟨?_,rfl⟩;conv=>whnf
  all_goals exact wk

theorem c_nSub (a b : List Int) (ha : a.length ≤ 1000000) (hb : b.length ≤ 1000000) (hge : val b ≤ val a) : FnH Tryz.prog 241 [wL a,wL b] [] (.tup [wL (wd (val a - val b)),.nilI]) []:=by
 refine FnH.intro lay mixed Tryz.func241 (by kernel_rfl) rfl (by kernel_rfl) rfl fun hok=>?_
 have wa : Ws a:=Ws.ok hok.1.2
 have wb : Ws b:=Ws.ok hok.2.1.2
 (try dsimp only[argC,succC]);(try dsimp only[awp]);conv=>whnf
 refine .pure _ _ ?_ ⟨rfl,rfl⟩ (c_Cmp a b (by omega) (by omega)) fun _=>?_
 ·exact leL_refl _
 conv=>whnf
 refine And.intro (fun h=>?_) (fun h=>?_)
 ·exfalso
  unfold cmpN at h
  rw [if_neg (by omega)] at h
  split at h <;> omega
 conv=>whnf
 rw [List.length_map]
 refine ⟨⟨by omega,by omega,by simp; omega,by omega⟩,.wr ?_⟩
 conv=>whnf
 refine LoopE.of <| LoopSpec.inv (.refl _ _) (fun x : Nat × Nat × List Int=>x.1 ≤ a.length ∧ x.2.1 ≤ 1 ∧ Ws x.2.2 ∧ x.2.2.length = x.1 ∧ val (a.take x.1) + 4294967296 ^ x.1 * x.2.1 = val x.2.2 + val (b.take x.1))
  (fun | (i,b,s)=>[(20,.int .i64 i),(7,.int .u64 b)]) (fun | (i,_,s)=>[(0,.arr 1 a.length ((s ++ List.replicate (a.length - i) 0).map (.int .u32)))])
  (fun x=>a.length - x.1) (0,0,[]) ?_ (fun _=>rfl) ?_ ?_
 ·exact ⟨Nat.zero_le _,by simp,Ws.nil,rfl,by simp [val]⟩
 ·refine ⟨?_,.mk ?_ ⟨by simp,trivial⟩⟩
  ·all_goals exact wk
  ·repeat' first|exact rfl|exact trivial|exact wR|exact lR _|apply aI
   all_goals first | (show leRL (List.replicate _ _) (List.map _ ([] ++ List.replicate _ 0)); rw [List.nil_append,List.map_replicate]; exact leRL_refl _) | skip
 rintro ⟨i,bo,s⟩ ⟨hi,hbo,hws,hsl,hv⟩ _
 simp only at hi hbo hws hsl hv
 (try dsimp only[awp]);conv=>whnf
 refine And.intro (fun h=>?_) (fun h=>?_)
 ·have hlt : i < a.length:=by omega
  have ca:=c_word a i
  have cb:=c_word b i
  have hva:=val_take_getD (l:=a) (i:=i)
  have hvb:=val_take_getD (l:=b) (i:=i)
  have hxa:=wa.getD (i:=i)
  have hxb:=wb.getD (i:=i)
  generalize a.getD i 0 = x0 at *
  generalize b.getD i 0 = y0 at *
  obtain ⟨x,rfl⟩ : ∃ x : Nat,x0 = x:=⟨x0.toNat,by omega⟩
  obtain ⟨w,rfl⟩ : ∃ x : Nat,y0 = x:=⟨y0.toNat,by omega⟩
  rw [Int.toNat_natCast] at hva hvb
  (try dsimp only[awp]);conv=>whnf
  refine .gen _ _ (FnH.ofPure ca (leL_refl _) ⟨rfl,rfl⟩) fun _=>?_
  (try dsimp only[awp]);conv=>whnf
  refine .gen _ _ (FnH.ofPure cb (leL_refl _) ⟨rfl,rfl⟩) fun _=>?_
  conv=>whnf
  obtain ⟨D,hD,hD1,hD2,hD3⟩:=sub_word (x:=x) (low:=w) (b:=bo) (by omega) (by omega) hbo
  rw [hD]
  conv=>whnf
  rw [wrapu32_mod (a:=D)]
  have hy : D % 4294967296 < 4294967296:=Nat.mod_lt _ (by decide)
  generalize D % 4294967296 = y at *
  refine ⟨⟨by omega,by omega⟩,?_⟩
  conv=>whnf
  refine ⟨by rw [List.length_map,List.length_append,List.length_replicate]; omega,rfl,?_⟩
  conv=>whnf
  refine ⟨by decide,?_⟩
  rw [shr_63]
  conv=>whnf
  refine zA ?_;conv=>whnf
  refine ⟨(i + 1,D / 9223372036854775808,s ++ [(y : Int)]),?_,?_,?_⟩
  ·refine ⟨hlt,hD2,hws.append (Ws.cons (by omega) Ws.nil),by simp [hsl],?_⟩
   show val (a.take (i + 1)) + 4294967296 ^ (i + 1) * (D / 9223372036854775808) = val (s ++ [(y : Int)]) + val (b.take (i + 1))
   have e1 : val (s ++ [(y : Int)]) = val s + 4294967296 ^ i * y:=by rw [val_append,hsl]; simp [val]
   rw [hva,hvb,e1,Nat.pow_succ]
   exact rsub_arith hD3 hv
  ·refine ⟨?_,.mk ?_ ⟨by simp,trivial⟩⟩
   ·all_goals exact wk
   ·repeat' first|exact rfl|exact trivial|exact wR|exact lR _|apply aI
    all_goals (refine leRL_of ?_; rw [← set_zeros hsl hlt,List.map_set,Nat.zero_add,Int.toNat_natCast]; rfl)
  ·show a.length - (i + 1) < a.length - i
   omega
 ·have hil : i = a.length:=by omega
  subst hil
  rw [List.take_length] at hv
  have hva:=val_lt wa
  rw [val_take_lt (by omega)] at hv
  have hvs:=val_lt hws
  rw [hsl] at hvs
  have hfin : val s = val a - val b:=by
   have hb2 : bo = 0 ∨ bo = 1:=by omega
   rcases hb2 with rfl | rfl
   ·omega
   ·omega
  have ct:=c_trim s (by omega)
  rw [hfin] at ct
  (try dsimp only[awp]);conv=>whnf
  refine .gen _ _ (FnH.frz 0 rfl rfl (by simp; omega) (FnH.ofPure ct ?_ ⟨rfl,rfl⟩)) fun _=>?_
  ·repeat' first|exact rfl|exact trivial|exact wR|exact lR _|apply aI
   all_goals (refine leRL_of ?_; rw [Nat.sub_self,List.replicate_zero,List.append_nil,List.drop_zero,List.take_of_length_le (by simp; omega)])
  (try dsimp only[awp]);conv=>whnf
  refine fM ?_;(conv=>whnf);refine ⟨?_,rfl⟩;conv=>whnf
  all_goals exact wk

theorem c_pNeg (a : Rat) (a1 : a.num.length ≤ 100000) (a2 : a.den.length ≤ 100000) : FnH Tryz.prog 147 [a.av] [] (negR a).av []:=by
 have ca:=c_parts a (ratAll a (by omega) (by omega)).v
 refine FnH.intro lay mixed Tryz.func147 (by kernel_rfl) rfl (by kernel_rfl) rfl fun hok=>?_
 have pa:=partsOk (ratWs hok).1 (ratWs hok).2 (by omega) (by omega)
 have qa:=partsLe (ratWs hok).1 (ratWs hok).2 a1 a2
 rw [pa.eq] at ca
 have cf:=c_form (!(partsR a).1) (partsR a).2.1 (partsR a).2.2 (by omega) (by omega) pa.den
 have hm : negR a = formR (!(partsR a).1) (partsR a).2.1 (partsR a).2.2:=rfl
 rw [← hm] at cf
 generalize negR a = R at *
 (try dsimp only[argC,succC]);(try dsimp only[awp]);conv=>whnf
 refine .pure _ _ ?_ ⟨rfl,rfl⟩ ca fun _=>?_
 ·exact leL_refl _
 (try dsimp only[awp]);conv=>whnf
 refine .pure _ _ ?_ ⟨rfl,rfl⟩ cf fun _=>?_
 ·all_goals exact wk
 (try dsimp only[awp]);conv=>whnf
 refine fM ?_;(conv=>whnf);refine ⟨?_,rfl⟩;conv=>whnf
 all_goals exact wk

theorem c_pAdd (a b : Rat) (a1 : a.num.length ≤ 100000) (a2 : a.den.length ≤ 100000) (b1 : b.num.length ≤ 100000) (b2 : b.den.length ≤ 100000) : FnH Tryz.prog 146 [a.av,b.av] [] (addR a b).av []:=by
 have ca:=c_parts a (ratAll a (by omega) (by omega)).v
 have cb:=c_parts b (ratAll b (by omega) (by omega)).v
 refine FnH.intro lay mixed Tryz.func146 (by kernel_rfl) rfl (by kernel_rfl) rfl fun hok=>?_
 have pa:=partsOk (ratWs hok).1 (ratWs hok).2 (by omega) (by omega)
 have pb:=partsOk (ratWs hok.2).1 (ratWs hok.2).2 (by omega) (by omega)
 have qa:=partsLe (ratWs hok).1 (ratWs hok).2 a1 a2
 have qb:=partsLe (ratWs hok.2).1 (ratWs hok.2).2 b1 b2
 rw [pa.eq] at ca
 rw [pb.eq] at cb
 have hR : addR a b = sumR (partsR a).1 (partsR b).1 ((partsR a).2.1 * (partsR b).2.2) ((partsR b).2.1 * (partsR a).2.2) ((partsR a).2.2 * (partsR b).2.2):=rfl
 have m1:=c_pMul (wd (partsR a).2.1) (wd (partsR b).2.2) pa.ln pb.ld
 have m2:=c_pMul (wd (partsR b).2.1) (wd (partsR a).2.2) pb.ln pa.ld
 have m3:=c_pMul (wd (partsR a).2.2) (wd (partsR b).2.2) pa.ld pb.ld
 rw [val_wd,val_wd] at m1 m2 m3
 have l1:=wd_len_mul qa.1 qb.2
 have l2:=wd_len_mul qb.1 qa.2
 have l3:=wd_len_mul qa.2 qb.2
 have hne : (partsR a).2.2 * (partsR b).2.2 ≠ 0:=Nat.mul_ne_zero pa.den pb.den
 generalize addR a b = R at *
 generalize (partsR a).2.1 * (partsR b).2.2 = x at *
 generalize (partsR b).2.1 * (partsR a).2.2 = y at *
 generalize (partsR a).2.2 * (partsR b).2.2 = d at *
 have l4:=wd_len_add l1 l2
 have l5:=wd_len_mono (Nat.sub_le x y)
 have l6:=wd_len_mono (Nat.sub_le y x)
 have cA:=c_nAdd (wd x) (wd y) (by omega) (by omega)
 have cC:=c_Cmp (wd x) (wd y) (by omega) (by omega)
 have cS:=fun h=>c_nSub (wd x) (wd y) (by omega) (by omega) h
 have cS2:=fun h=>c_nSub (wd y) (wd x) (by omega) (by omega) h
 simp only [val_wd] at cA cC cS cS2
 have cf1:=c_form (partsR a).1 (x + y) d (by omega) (by omega) hne
 have cf2:=c_form (partsR a).1 (x - y) d (by omega) (by omega) hne
 have cf3:=c_form (partsR b).1 (y - x) d (by omega) (by omega) hne
 unfold sumR at hR
 generalize (partsR a).1 = s at *
 generalize (partsR b).1 = t at *
 (try dsimp only[argC,succC]);(try dsimp only[awp]);conv=>whnf
 refine .pure _ _ ?_ ⟨rfl,rfl⟩ ca fun _=>?_
 ·exact leL_refl _
 (try dsimp only[awp]);conv=>whnf
 refine .pure _ _ ?_ ⟨rfl,rfl⟩ cb fun _=>?_
 ·exact leL_refl _
 (try dsimp only[awp]);conv=>whnf
 refine .pure _ _ ?_ ⟨rfl,rfl⟩ m1 fun _=>?_
 ·exact leL_refl _
 (try dsimp only[awp]);conv=>whnf
 refine .pure _ _ ?_ ⟨rfl,rfl⟩ m2 fun _=>?_
 ·exact leL_refl _
 (try dsimp only[awp]);conv=>whnf
 refine .pure _ _ ?_ ⟨rfl,rfl⟩ m3 fun _=>?_
 ·exact leL_refl _
 (try dsimp only[awp]);conv=>whnf
 refine And.intro (fun hst=>?_) (fun hst=>?_)
 ·have hst : s = t:=by simpa using hst
  rw [if_pos hst] at hR
  subst hR
  (try dsimp only[awp]);conv=>whnf
  refine .pure _ _ ?_ ⟨rfl,rfl⟩ cA fun _=>?_
  ·exact leL_refl _
  (try dsimp only[awp]);conv=>whnf
  refine .pure _ _ ?_ ⟨rfl,rfl⟩ cf1 fun _=>?_
  ·exact leL_refl _
  (try dsimp only[awp]);conv=>whnf
  refine fM ?_;(conv=>whnf);refine ⟨?_,rfl⟩;conv=>whnf
  all_goals exact wk
 have hst : ¬ s = t:=by simpa using hst
 rw [if_neg hst] at hR
 (try dsimp only[awp]);conv=>whnf
 refine .pure _ _ ?_ ⟨rfl,rfl⟩ cC fun _=>?_
 ·exact leL_refl _
 (try dsimp only[awp]);conv=>whnf
 refine And.intro (fun hxy=>?_) (fun hxy=>?_)
 ·have hlt : ¬ x < y:=by
   intro hlt
   unfold cmpN at hxy
   rw [if_pos hlt] at hxy
   omega
  rw [if_neg hlt] at hR
  subst hR
  (try dsimp only[awp]);conv=>whnf
  refine .pure _ _ ?_ ⟨rfl,rfl⟩ (cS (by omega)) fun _=>?_
  ·exact leL_refl _
  (try dsimp only[awp]);conv=>whnf
  refine .pure _ _ ?_ ⟨rfl,rfl⟩ cf2 fun _=>?_
  ·exact leL_refl _
  (try dsimp only[awp]);conv=>whnf
  refine fM ?_;(conv=>whnf);refine ⟨?_,rfl⟩;conv=>whnf
  all_goals exact wk
 ·have hlt : x < y:=by
   unfold cmpN at hxy
   split at hxy
   ·assumption
   ·split at hxy <;> omega
  rw [if_pos hlt] at hR
  subst hR
  (try dsimp only[awp]);conv=>whnf
  refine .pure _ _ ?_ ⟨rfl,rfl⟩ (cS2 (by omega)) fun _=>?_
  ·exact leL_refl _
  (try dsimp only[awp]);conv=>whnf
  refine .pure _ _ ?_ ⟨rfl,rfl⟩ cf3 fun _=>?_
  ·exact leL_refl _
  (try dsimp only[awp]);conv=>whnf
  refine fM ?_;(conv=>whnf);refine ⟨?_,rfl⟩;conv=>whnf
  all_goals exact wk

theorem c_pOf (n : Nat) (hn : n < 2 ^ 31) : FnH Tryz.prog 236 [.int .i64 n] [] (canR (n : QQ)).av []:=by
 have cn:=c_natOf n (by omega)
 have e1 : wd 1 = [1]:=wd_small (by omega) (by omega)
 have cf:=c_form false n 1 (by
  have:=wd_len_lt (x:=n) (n:=1) (by omega)
  omega) (by rw [e1]; simp) (by omega)
 rw [form_can _ _ _ (by omega),e1,show mkRat (sgI false n) 1 = (n : QQ) from by rw [show sgI false n = (n : Int) from rfl,Rat.mkRat_one]; rfl] at cf
 have cs : FnH Tryz.prog 271 [.int .i64 n] [] (wL (wd n)) []:=by
  refine FnH.intro lay mixed Tryz.func271 (by kernel_rfl) rfl (by kernel_rfl) rfl fun hok=>?_
  (try dsimp only[argC,succC]);(try dsimp only[awp]);conv=>whnf
  refine And.intro (fun h=>by exfalso; omega) (fun _=>?_)
  (try dsimp only[awp]);conv=>whnf
  refine ⟨inr64 (by omega) (by omega),?_⟩
  (try dsimp only[awp]);conv=>whnf
  rw [show max (n : Int) (0 - (n : Int)) = (n : Int) by omega]
  refine .pure _ _ ?_ ⟨rfl,rfl⟩ cn fun _=>?_
  ·exact leL_refl _
  (try dsimp only[awp]);conv=>whnf
  refine fM ?_;(conv=>whnf);refine ⟨?_,rfl⟩;conv=>whnf
  all_goals exact wk
 generalize canR (n : QQ) = R at *
 refine FnH.intro lay mixed Tryz.func236 (by kernel_rfl) rfl (by kernel_rfl) rfl fun hok=>?_
 (try dsimp only[argC,succC]);(try dsimp only[awp]);conv=>whnf
 refine .pure _ _ ?_ ⟨rfl,rfl⟩ cs fun _=>?_
 ·exact leL_refl _
 (try dsimp only[awp]);conv=>whnf
 refine .pure _ _ ?_ ⟨rfl,rfl⟩ c_one fun _=>?_
 ·exact leL_refl _
 (try dsimp only[awp]);conv=>whnf
 refine .pure _ _ ?_ ⟨rfl,rfl⟩ cf fun _=>?_
 ·refine ⟨?_,le0_refl _,le0_refl _,trivial⟩
  show _ ↔ _
  simp
 (try dsimp only[awp]);conv=>whnf
 refine fM ?_;(conv=>whnf);refine ⟨?_,rfl⟩;conv=>whnf
 all_goals exact wk

theorem c_qNeg {p : QQ} {k : Nat} (hp : Sz p k) (hk : k ≤ 100000) : FnH Tryz.prog 147 [(canR p).av] [] (canR (-p)).av []:=by
 have l:=Sz_len hp
 rw [← neg_can]
 exact c_pNeg _ (by omega) (by omega)

theorem c_qAdd {p q : QQ} {k l : Nat} (hp : Sz p k) (hq : Sz q l) (hk : k ≤ 100000) (hl : l ≤ 100000) : FnH Tryz.prog 146 [(canR p).av,(canR q).av] [] (canR (p + q)).av []:=by
 have l1:=Sz_len hp
 have l2:=Sz_len hq
 rw [← add_can]
 exact c_pAdd _ _ (by omega) (by omega) (by omega) (by omega)

theorem c_qMul {p q : QQ} {k l : Nat} (hp : Sz p k) (hq : Sz q l) (hk : k ≤ 100000) (hl : l ≤ 100000) : FnH Tryz.prog 272 [(canR p).av,(canR q).av] [] (canR (p * q)).av []:=by
 have l1:=Sz_len hp
 have l2:=Sz_len hq
 rw [← mul_can]
 exact c_mulRat _ _ (by omega) (by omega) (by omega) (by omega)

theorem c_qSub {p q : QQ} {k l : Nat} (hp : Sz p k) (hq : Sz q l) (hk : k ≤ 100000) (hl : l ≤ 100000) : FnH Tryz.prog 62 [(canR p).av,(canR q).av] [] (canR (p - q)).av []:=by
 have c1:=c_qNeg hq hl
 have c2:=c_qAdd hp hq.neg hk hl
 rw [← Rat.sub_eq_add_neg] at c2
 generalize canR (p - q) = R at *
 generalize canR (-q) = N at *
 refine FnH.intro lay mixed Tryz.func62 (by kernel_rfl) rfl (by kernel_rfl) rfl fun hok=>?_
 (try dsimp only[argC,succC]);(try dsimp only[awp]);conv=>whnf
 refine ADraw.auto (by kernel_rfl) ?_;conv=>whnf
 refine ACallP.pure _ _ ?_ ⟨rfl,rfl⟩ c1 ?_
 ·exact leL_refl _
 (try dsimp only[awp]);conv=>whnf
 refine ACallP.pure _ _ ?_ ⟨rfl,rfl⟩ c2 ?_
 ·exact leL_refl _
 (try dsimp only[awp]);conv=>whnf
 refine fM ?_;(conv=>whnf);refine ⟨?_,rfl⟩;conv=>whnf
 all_goals exact wk

def exR (p : List QQ) (f : (Int → Bool) → Bool) : Nat → (Int → Bool) → QQ
 | 0,s=>if f s = true then 1 else 0
 | k + 1,s=>(1 - p.getD k 0) * exR p f k (setE s k false) + p.getD k 0 * exR p f k (setE s k true)

theorem exR_congr {p : List QQ} {f g : (Int → Bool) → Bool} (h : ∀ s,f s = g s) : ∀ (k : Nat) (s : Int → Bool),exR p f k s = exR p g k s
 | 0,s=>by simp [exR,h]
 | k + 1,s=>by simp only [exR]; rw [exR_congr h k,exR_congr h k]

theorem exR_set {p : List QQ} {f : (Int → Bool) → Bool} {v : Int} {b : Bool} : ∀ (k : Nat) (s : Int → Bool),(k : Int) ≤ v → exR p f k (setE s v b) = exR p (fun t=>f (setE t v b)) k s
 | 0,s,_=>rfl
 | k + 1,s,hk=>by
   simp only [exR]
   rw [setE_comm (s:=s) (i:=v) (j:=(k : Int)) (a:=b) (b:=false) (by omega),setE_comm (s:=s) (i:=v) (j:=(k : Int)) (a:=b) (b:=true) (by omega),exR_set k (setE s k false) (by omega),exR_set k (setE s k true) (by omega)]

theorem exR_node {p : List QQ} {f l h : (Int → Bool) → Bool} {v : Nat} (hf : ∀ s,f s = if s v then h s else l s) (hl : ∀ s b,l (setE s v b) = l s) (hh : ∀ s b,h (setE s v b) = h s) :
  ∀ (k : Nat) (s : Int → Bool),v < k → exR p f k s = (1 - p.getD v 0) * exR p l k s + p.getD v 0 * exR p h k s
 | 0,_,hk=>by omega
 | k + 1,s,hk=>by
   by_cases hv : v = k
   ·subst hv
    simp only [exR]
    have e1 : ∀ t,(fun t=>f (setE t v false)) t = l t:=fun t=>by
     show f (setE t v false) = l t
     rw [hf,show setE t (v : Int) false v = false from if_pos rfl,hl]; simp
    have e2 : ∀ t,(fun t=>f (setE t v true)) t = h t:=fun t=>by
     show f (setE t v true) = h t
     rw [hf,show setE t (v : Int) true v = true from if_pos rfl,hh]; simp
    rw [exR_set v s (Int.le_refl _),exR_set v s (Int.le_refl _),exR_congr e1,exR_congr e2]
    rw [exR_set (f:=l) v s (Int.le_refl _),exR_set (f:=l) v s (Int.le_refl _),exR_set (f:=h) v s (Int.le_refl _),exR_set (f:=h) v s (Int.le_refl _)]
    rw [exR_congr (f:=fun t=>l (setE t v false)) (g:=l) (fun t=>hl t false),exR_congr (f:=fun t=>l (setE t v true)) (g:=l) (fun t=>hl t true),exR_congr (f:=fun t=>h (setE t v false)) (g:=h) (fun t=>hh t false),exR_congr (f:=fun t=>h (setE t v true)) (g:=h) (fun t=>hh t true)]
    grind
   ·simp only [exR]
    have h1:=exR_node (p:=p) hf hl hh k (setE s k false) (by omega)
    have h2:=exR_node (p:=p) hf hl hh k (setE s k true) (by omega)
    rw [h1,h2]
    grind

theorem exR_const {p : List QQ} {b : Bool} : ∀ (k : Nat) (s : Int → Bool),exR p (fun _=>b) k s = if b = true then 1 else 0
 | 0,s=>rfl
 | k + 1,s=>by simp only [exR]; rw [exR_const k,exR_const k]; grind

def ofQ (v : List QQ) (r : Int) : QQ:=if r < 2 then ((r.toNat : Nat) : QQ) else v.getD (r - 2).toNat 0
def ndQ (p v : List QQ) (x : Node) : QQ:=(1 - p.getD x.1.toNat 0) * ofQ v x.2.1 + p.getD x.1.toNat 0 * ofQ v x.2.2
def prV (p : List QQ) (ns : List Node) : List QQ:=ns.foldl (fun v x=>v ++ [ndQ p v x]) []

theorem prV_snoc (p : List QQ) (l : List Node) (x : Node) : prV p (l ++ [x]) = prV p l ++ [ndQ p (prV p l) x]:=by
 unfold prV; rw [List.foldl_append]; rfl
theorem prV_len (p : List QQ) (l : List Node) : (prV p l).length = l.length:=by
 have key : ∀ (l : List Node) (v : List QQ),(l.foldl (fun v x=>v ++ [ndQ p v x]) v).length = v.length + l.length:=by
  intro l
  induction l with
  | nil=>intro v; simp
  | cons x l ih=>intro v; rw [List.foldl_cons,ih]; simp; omega
 have:=key l []
 unfold prV
 simpa using this

theorem dEv_indep {T : Tb} {ns : List Node} (hns : ∀ (k : Nat) (h : k < ns.length),GoodD T ns k ns[k]) (d : Nat) : ∀ (r : Int),0 ≤ r → r < 2 + (ns.length : Int) → r ≤ d → ∀ (s s' : Int → Bool),(∀ j,0 ≤ j → j < T.n → lvlG T ns r ≤ T.pl j → s j = s' j) → ev ns s r = ev ns s' r:=by
 induction d with
 | zero =>
   intro r h0 h1 h2 s s' _
   obtain rfl : r = 0:=by omega
   rfl
 | succ d ih =>
   intro r h0 h1 h2 s s' hs
   by_cases hr2 : r < 2
   ·rcases (by omega : r = 0 ∨ r = 1) with rfl | rfl <;> rfl
   obtain ⟨k,rfl⟩ : ∃ k : Nat,r = 2 + (k : Int):=⟨(r - 2).toNat,by omega⟩
   have hk : k < ns.length:=by omega
   have g:=hns k hk
   have e1:=fun s=>ev_node ns s hk g.lo.2 g.hi.2
   rw [e1,e1]
   have hl : lvlG T ns (2 + (k : Int)) = T.pl (ns[k]).1:=by
    unfold lvlG
    rw [if_neg (by omega),show (2 + (k : Int) - 2).toNat = k by omega,List.getD_eq_getElem?_getD,List.getElem?_eq_getElem hk]; rfl
   rw [hl] at hs
   have gl:=g.llo
   have gh:=g.lhi
   rw [hs _ g.v.1 g.v.2 (Int.le_refl _)]
   rw [ih _ g.lo.1 (by have:=g.lo.2; omega) (by have:=g.lo.2; omega) s s' (fun j q1 q2 q3=>hs j q1 q2 (by omega)),
    ih _ g.hi.1 (by have:=g.hi.2; omega) (by have:=g.hi.2; omega) s s' (fun j q1 q2 q3=>hs j q1 q2 (by omega))]

theorem dEv_set {T : Tb} {ns : List Node} (hns : ∀ (k : Nat) (h : k < ns.length),GoodD T ns k ns[k]) {r i : Int} (h0 : 0 ≤ r) (h1 : r < 2 + (ns.length : Int)) (hl : T.pl i < lvlG T ns r) (s : Int → Bool) (b : Bool) : ev ns (setE s i b) r = ev ns s r:=by
 refine dEv_indep hns r.toNat r h0 h1 (by omega) _ _ fun j q1 q2 q3=>?_
 unfold setE
 rw [if_neg (fun e=>by subst e; omega)]

theorem pr_ex {T : Tb} {ns : List Node} (hns : ∀ (k : Nat) (h : k < ns.length),GoodD T ns k ns[k]) (p : List QQ) {n : Nat} (hn : T.n = n) : ∀ (k : Nat),k ≤ ns.length → ∀ (r : Int),0 ≤ r → r < 2 + (k : Int) → ofQ (prV p (ns.take k)) r = exR p (fun s=>ev ns s r) n zE
 | 0,_,r,h0,h1=>by
   rcases (by omega : r = 0 ∨ r = 1) with rfl | rfl
   ·rw [exR_congr (p:=p) (f:=fun s=>ev ns s 0) (g:=fun _=>false) (fun s=>rfl),exR_const]; rfl
   ·rw [exR_congr (p:=p) (f:=fun s=>ev ns s 1) (g:=fun _=>true) (fun s=>rfl),exR_const]; rfl
 | k + 1,hk,r,h0,h1=>by
   have ih:=pr_ex hns p hn k (by omega)
   have hlt : k < ns.length:=by omega
   have hl:=prV_len p (ns.take k)
   rw [List.length_take,Nat.min_eq_left (by omega)] at hl
   rw [List.take_succ_eq_append_getElem hlt,prV_snoc]
   by_cases hr : r < 2 + (k : Int)
   ·rw [← ih r h0 hr]
    unfold ofQ
    split
    ·rfl
    ·rw [List.getD_eq_getElem?_getD,List.getElem?_append_left (by omega),← List.getD_eq_getElem?_getD]
   ·obtain rfl : r = 2 + (k : Int):=by omega
    have g:=hns k hlt
    have e0 : ofQ (prV p (ns.take k) ++ [ndQ p (prV p (ns.take k)) ns[k]]) (2 + (k : Int)) = ndQ p (prV p (ns.take k)) ns[k]:=by
     unfold ofQ
     rw [if_neg (by omega),show (2 + (k : Int) - 2).toNat = k by omega,List.getD_eq_getElem?_getD,List.getElem?_append_right (by omega),hl,Nat.sub_self]; rfl
    rw [e0]
    unfold ndQ
    rw [ih _ g.lo.1 g.lo.2,ih _ g.hi.1 g.hi.2]
    have e1:=fun s=>ev_node ns s hlt g.lo.2 g.hi.2
    have gl:=g.llo
    have gh:=g.lhi
    have hlo:=dEv_set hns (i:=(ns[k]).1) g.lo.1 (by have:=g.lo.2; omega) gl
    have hhi:=dEv_set hns (i:=(ns[k]).1) g.hi.1 (by have:=g.hi.2; omega) gh
    have hv:=g.v
    generalize ns[k] = x at *
    obtain ⟨v,hvv⟩ : ∃ v : Nat,x.1 = v:=⟨x.1.toNat,by omega⟩
    rw [hvv] at hlo hhi hv
    rw [exR_congr (f:=fun s=>ev ns s (2 + (k : Int))) (g:=fun s=>if s v then ev ns s x.2.2 else ev ns s x.2.1) (fun s=>by rw [e1,hvv])]
    rw [exR_node (v:=v) (fun s=>rfl) (fun s b=>hlo s b) (fun s b=>hhi s b) n zE (by omega),hvv,Int.toNat_natCast]

def szB (K : Nat) : Nat → Nat
 | 0=>1
 | d + 1=>2 * szB K d + 2 * K + 10

theorem szB_mono (K : Nat) : ∀ {a b : Nat},a ≤ b → szB K a ≤ szB K b:=by
 intro a b h
 induction b with
 | zero=>obtain rfl : a = 0:=by omega
         exact Nat.le_refl _
 | succ b ih =>
   by_cases e : a = b + 1
   ·rw [e]; exact Nat.le_refl _
   ·have:=ih (by omega)
    show _ ≤ 2 * szB K b + 2 * K + 10
    omega

theorem Sz_zero : Sz 0 1:=⟨by show (wd 0).length ≤ 1; rw [wd_zero]; simp,by show (wd 1).length ≤ 1; rw [wd_small (by omega) (by omega)]; simp⟩
theorem Sz_one : Sz 1 1:=⟨by show (wd 1).length ≤ 1; rw [wd_small (by omega) (by omega)]; simp,by show (wd 1).length ≤ 1; rw [wd_small (by omega) (by omega)]; simp⟩

theorem Sz.sub {p q : QQ} {k l : Nat} (hp : Sz p k) (hq : Sz q l) : Sz (p - q) (k + l + 1):=by
 rw [Rat.sub_eq_add_neg]; exact hp.add hq.neg

theorem ndQ_sz {q a b : QQ} {K k : Nat} (hq : Sz q K) (ha : Sz a k) (hb : Sz b k) : Sz ((1 - q) * a + q * b) (2 * k + 2 * K + 10) :=
 (((Sz_one.sub hq).mul ha).add (hq.mul hb)).mono (by omega)

theorem pr_sz {T : Tb} {ns : List Node} (hns : ∀ (k : Nat) (h : k < ns.length),GoodD T ns k ns[k]) (hpl : ∀ i : Int,0 ≤ i → i < T.n → 0 ≤ T.pl i ∧ T.pl i < T.n) {p : List QQ} {K : Nat} (hp : ∀ q ∈ p,Sz q K) (hpn : T.n = p.length) :
  ∀ (k : Nat),k ≤ ns.length → ∀ (r : Int),0 ≤ r → r < 2 + (k : Int) → Sz (ofQ (prV p (ns.take k)) r) (szB K (T.n - lvlG T ns r).toNat)
 | 0,_,r,h0,h1=>by
   have : ∀ d,1 ≤ szB K d:=fun d=>szB_mono K (Nat.zero_le d)
   rcases (by omega : r = 0 ∨ r = 1) with rfl | rfl
   ·exact Sz_zero.mono (this _)
   ·exact Sz_one.mono (this _)
 | k + 1,hk,r,h0,h1=>by
   have ih:=pr_sz hns hpl hp hpn k (by omega)
   have hlt : k < ns.length:=by omega
   have hl:=prV_len p (ns.take k)
   rw [List.length_take,Nat.min_eq_left (by omega)] at hl
   rw [List.take_succ_eq_append_getElem hlt,prV_snoc]
   by_cases hr : r < 2 + (k : Int)
   ·have:=ih r h0 hr
    have e : ofQ (prV p (ns.take k) ++ [ndQ p (prV p (ns.take k)) ns[k]]) r = ofQ (prV p (ns.take k)) r:=by
     unfold ofQ
     split
     ·rfl
     ·rw [List.getD_eq_getElem?_getD,List.getElem?_append_left (by omega),← List.getD_eq_getElem?_getD]
    rw [e]; exact this
   ·obtain rfl : r = 2 + (k : Int):=by omega
    have g:=hns k hlt
    have e0 : ofQ (prV p (ns.take k) ++ [ndQ p (prV p (ns.take k)) ns[k]]) (2 + (k : Int)) = ndQ p (prV p (ns.take k)) ns[k]:=by
     unfold ofQ
     rw [if_neg (by omega),show (2 + (k : Int) - 2).toNat = k by omega,List.getD_eq_getElem?_getD,List.getElem?_append_right (by omega),hl,Nat.sub_self]; rfl
    rw [e0]
    have hl : lvlG T ns (2 + (k : Int)) = T.pl (ns[k]).1:=by
     unfold lvlG
     rw [if_neg (by omega),show (2 + (k : Int) - 2).toNat = k by omega,List.getD_eq_getElem?_getD,List.getElem?_eq_getElem hlt]; rfl
    have gl:=g.llo
    have gh:=g.lhi
    have hv:=g.v
    have s1:=ih _ g.lo.1 g.lo.2
    have s2:=ih _ g.hi.1 g.hi.2
    have hp0:=hpl _ hv.1 hv.2
    rw [hl]
    obtain ⟨d,hd⟩ : ∃ d,(T.n - T.pl (ns[k]).1).toNat = d + 1:=⟨(T.n - T.pl (ns[k]).1).toNat - 1,by omega⟩
    rw [hd]
    have q : Sz (p.getD (ns[k]).1.toNat 0) K:=by
     have hj : (ns[k]).1.toNat < p.length:=by omega
     rw [List.getD_eq_getElem?_getD,List.getElem?_eq_getElem hj]
     exact hp _ (List.getElem_mem hj)
    exact ndQ_sz q (s1.mono (szB_mono K (by omega))) (s2.mono (szB_mono K (by omega)))

abbrev qL (v : List QQ) : AV:=.sl 3 (v.map fun q=>(canR q).av) .no

theorem c_sof (v : List QQ) (r : Int) (h0 : 0 ≤ r) (h1 : r < 2 + (v.length : Int)) : FnH Tryz.prog 144 [qL v,.int .i64 r] [] (canR (ofQ v r)).av []:=by
 by_cases hr : r < 2
 ·have c:=c_pOf r.toNat (by omega)
  rw [show ((r.toNat : Nat) : Int) = r by omega] at c
  have e : ofQ v r = ((r.toNat : Nat) : QQ):=if_pos hr
  rw [← e] at c
  generalize ofQ v r = R at *
  refine FnH.intro lay mixed Tryz.func144 (by kernel_rfl) rfl (by kernel_rfl) rfl fun hok=>?_
  (try dsimp only[argC,succC]);(try dsimp only[awp]);conv=>whnf
  refine And.intro (fun _=>?_) (fun h=>absurd hr h)
  (try dsimp only[awp]);conv=>whnf
  refine .pure _ _ ?_ ⟨rfl,rfl⟩ c fun _=>?_
  ·exact leL_refl _
  (try dsimp only[awp]);conv=>whnf
  refine fM ?_;(conv=>whnf);refine ⟨?_,rfl⟩;conv=>whnf
  all_goals exact wk
 ·have e : ofQ v r = v.getD (r - 2).toNat 0:=if_neg hr
  rw [e]
  refine FnH.intro lay mixed Tryz.func144 (by kernel_rfl) rfl (by kernel_rfl) rfl fun hok=>?_
  have hvl : v.length ≤ 9223372036854775807:=by have:=hok.1.1; simpa [maxL] using this
  (try dsimp only[argC,succC]);(try dsimp only[awp]);conv=>whnf
  refine And.intro (fun h=>absurd h hr) (fun _=>?_)
  (try dsimp only[awp]);conv=>whnf
  refine ⟨inr64 (by omega) (by omega),?_⟩
  (try dsimp only[awp]);conv=>whnf
  refine aidxD (0 : QQ) ⟨by omega,by omega⟩ ?_
  generalize v.getD (r - 2).toNat 0 = R at *
  (try dsimp only[awp]);conv=>whnf
  refine fM ?_;(conv=>whnf);refine ⟨?_,rfl⟩;conv=>whnf
  all_goals exact wk

theorem c_snode (p v : List QQ) (x : Node) (hx : 0 ≤ x.1 ∧ x.1 < (p.length : Int)) (hl : 0 ≤ x.2.1 ∧ x.2.1 < 2 + (v.length : Int)) (hh : 0 ≤ x.2.2 ∧ x.2.2 < 2 + (v.length : Int)) {K k : Nat} (hK : K ≤ 30000) (hk : k ≤ 30000)
  (hp : ∀ q ∈ p,Sz q K) (s1 : Sz (ofQ v x.2.1) k) (s2 : Sz (ofQ v x.2.2) k) : FnH Tryz.prog 237 [nAV x,qL p,qL v] [] (canR (ndQ p v x)).av []:=by
 have c1:=c_sof v x.2.1 hl.1 hl.2
 have c2:=c_sof v x.2.2 hh.1 hh.2
 have cO:=c_pOf 1 (by omega)
 have hj : x.1.toNat < p.length:=by omega
 have hq : Sz (p.getD x.1.toNat 0) K:=by
  rw [List.getD_eq_getElem?_getD,List.getElem?_eq_getElem hj]
  exact hp _ (List.getElem_mem hj)
 unfold ndQ
 obtain ⟨xv,xl,xh⟩:=x
 dsimp only at *
 generalize ofQ v xl = a at *
 generalize ofQ v xh = b at *
 have e1 : ((1 : Nat) : QQ) = 1:=rfl
 rw [e1] at cO
 generalize hqq : p.getD xv.toNat 0 = q at *
 have m1:=c_qSub (p:=1) Sz_one hq (by omega) (by omega)
 have m2:=c_qMul (Sz_one.sub hq) s1 (by omega) (by omega)
 have m3:=c_qMul hq s2 (by omega) (by omega)
 have m4:=c_qAdd ((Sz_one.sub hq).mul s1) (hq.mul s2) (by omega) (by omega)
 generalize canR ((1 - q) * a + q * b) = R at *
 generalize canR (q * b) = R1 at *
 generalize canR ((1 - q) * a) = R2 at *
 generalize canR (1 - q) = R3 at *
 generalize canR 1 = R4 at *
 refine FnH.intro lay mixed Tryz.func237 (by kernel_rfl) rfl (by kernel_rfl) rfl fun hok=>?_
 (try dsimp only[argC,succC]);(try dsimp only[awp]);conv=>whnf
 refine aidxD (0 : QQ) ⟨by omega,by omega⟩ ?_
 rw [hqq]
 generalize canR q = Q at *
 generalize canR a = A at *
 generalize canR b = B at *
 (try dsimp only[awp]);conv=>whnf
 refine ADraw.auto (by kernel_rfl) ?_;conv=>whnf
 refine ACallP.pure _ _ ?_ ⟨rfl,rfl⟩ cO ?_
 ·exact leL_refl _
 conv=>whnf
 refine ACallP.pure _ _ ?_ ⟨rfl,rfl⟩ m1 ?_
 ·exact leL_refl _
 conv=>whnf
 refine ACallP.pure _ _ ?_ ⟨rfl,rfl⟩ c1 ?_
 ·exact leL_refl _
 conv=>whnf
 refine ACallP.pure _ _ ?_ ⟨rfl,rfl⟩ m2 ?_
 ·exact leL_refl _
 conv=>whnf
 refine ACallP.pure _ _ ?_ ⟨rfl,rfl⟩ c2 ?_
 ·exact leL_refl _
 conv=>whnf
 refine ACallP.pure _ _ ?_ ⟨rfl,rfl⟩ m3 ?_
 ·exact leL_refl _
 conv=>whnf
 refine ACallP.pure _ _ ?_ ⟨rfl,rfl⟩ m4 ?_
 ·exact leL_refl _
 conv=>whnf
 refine fM ?_;(conv=>whnf);refine ⟨?_,rfl⟩;conv=>whnf
 all_goals exact wk

theorem c_svalues (o : List Int) (ns : List Node) (root : Int) (p : List QQ) {K B : Nat} (hK : K ≤ 30000) (hB : B ≤ 30000) (hp : ∀ q ∈ p,Sz q K) (hn : ns.length ≤ 5000)
  (hns : ∀ (k : Nat) (h : k < ns.length),0 ≤ (ns[k]).1 ∧ (ns[k]).1 < (p.length : Int) ∧ 0 ≤ (ns[k]).2.1 ∧ (ns[k]).2.1 < 2 + (k : Int) ∧ 0 ≤ (ns[k]).2.2 ∧ (ns[k]).2.2 < 2 + (k : Int))
  (hs : ∀ (k : Nat),k ≤ ns.length → ∀ r : Int,0 ≤ r → r < 2 + (k : Int) → Sz (ofQ (prV p (ns.take k)) r) B) :
  FnH Tryz.prog 145 [diaAV o ns root,qL p] [] (qL (prV p ns)) []:=by
 refine FnH.intro lay mixed Tryz.func145 (by kernel_rfl) rfl (by kernel_rfl) rfl fun hok=>?_
 (try dsimp only[argC,succC]);(try dsimp only[awp]);conv=>whnf
 rw [List.length_map]
 refine ⟨⟨by omega,by omega,by show (ns.length : Int) * ((56 : Nat) : Int) ≤ 281474976710656; omega,by omega⟩,.wr ?_⟩
 rw [Int.toNat_natCast]
 (try dsimp only[awp]);conv=>whnf
 refine LoopE.of <| (LoopSpec.inv (.keep 5 1 0 ns.length 3 [] rfl rfl (Nat.le_refl _) (.refl _ _)) (fun k : Nat=>k ≤ ns.length) (fun k=>[(15,.int .i64 k),(5,.sl 3 ((prV p (ns.take k)).map fun q=>(canR q).av) (.own 2))]) (fun k=>[(2,.tok 3 k),(1,.gone),(0,.box (diaAV o ns root))]) (fun k=>ns.length - k) 0 (Nat.zero_le _) ?_ ?_ ?_)
 ·exact fun _=>rfl
 ·refine ⟨?_,.mk ?_ (by simp [idsOk])⟩
  ·all_goals exact wk
  ·all_goals exact wk
 intro k hk _
 have hl:=prV_len p (ns.take k)
 rw [List.length_take,Nat.min_eq_left hk] at hl
 (try dsimp only[awp]);conv=>whnf
 refine And.intro (fun g=>?_) (fun g=>?_)
 ·have hlt : k < ns.length:=by simpa using g
  obtain ⟨q1,q2,q3,q4,q5,q6⟩:=hns k hlt
  have c:=c_snode p (prV p (ns.take k)) ns[k] ⟨q1,q2⟩ ⟨q3,by omega⟩ ⟨q5,by omega⟩ hK hB hp (hs k hk _ q3 q4) (hs k hk _ q5 q6)
  have hsn : prV p (ns.take (k + 1)) = prV p (ns.take k) ++ [ndQ p (prV p (ns.take k)) ns[k]]:=by rw [List.take_succ_eq_append_getElem hlt,prV_snoc]
  generalize prV p (ns.take k) = v at *
  (try dsimp only[awp]);conv=>whnf
  refine aidx hlt ?_
  generalize ns[k] = x at *
  generalize ndQ p v x = y at *
  (try dsimp only[awp]);conv=>whnf
  refine .pure _ _ ?_ ⟨rfl,rfl⟩ c fun _=>?_
  ·all_goals exact wk
  (try dsimp only[awp]);conv=>whnf
  refine ⟨by rw [List.length_map,hl],.mk (by simp [maxL]; omega) (by simp; omega) ?_⟩
  (try dsimp only[awp]);conv=>whnf
  refine zA ?_;conv=>whnf
  refine ⟨k + 1,?_,?_,?_⟩
  ·exact hlt
  ·rw [hsn]
   refine ⟨?_,.mk ?_ (by simp [idsOk])⟩
   ·repeat' first|exact rfl|exact trivial|exact wR|exact lR _|apply aI
    all_goals first | (show leRL _ (List.map _ (_ ++ [_])); rw [List.map_append]; exact leRL_refl _) | skip
   ·repeat' first|exact rfl|exact trivial|exact wR|exact lR _|apply aI
    all_goals first | (simp [hl]; done) | skip
  ·omega
 have hk : k = ns.length:=by (have : ¬ k < ns.length:=by simpa using g); omega
 subst hk
 rw [List.take_length]
 (try dsimp only[awp]);conv=>whnf
 refine fM ?_;(conv=>whnf);refine ⟨?_,rfl⟩;conv=>whnf
 all_goals exact wk

def chkP (p : List Rat) (v : Int) : Int:=if (p.length : Int) ≠ v then 11 else if p.any (fun x=>!prob x) = true then 3 else 0

def Lens (p : List Rat) : Prop:=∀ x ∈ p,x.num.length ≤ 90000 ∧ x.den.length ≤ 90000

theorem c_snotProb (x : Rat) (hx : RatC x) : FnH Tryz.prog 142 [x.av] [] (.bool (!prob x)) []:=by
 refine FnH.intro lay mixed Tryz.func142 (by kernel_rfl) rfl (by kernel_rfl) rfl fun hok=>?_
 (try dsimp only[argC,succC]);(try dsimp only[awp]);conv=>whnf
 refine .pure _ _ ?_ ⟨rfl,rfl⟩ hx.p fun _=>?_
 ·exact leL_refl _
 (try dsimp only[awp]);conv=>whnf
 refine fM ?_;(conv=>whnf);refine ⟨?_,rfl⟩;conv=>whnf
 all_goals exact wk

theorem c_sCheck (p : List Rat) (v : Int) (hl : Lens p) (R : AV) (hR : R = errAV (chkP p v)) : FnH Tryz.prog 60 [.sl 3 (p.map Rat.av) .no,.int .i64 v] [] R []:=by
 have cc:=c_containsRat p 142 [] (fun x=>!prob x) [] fun x hx=>c_snotProb x (ratAll x (by have:=hl x hx; omega) (by have:=hl x hx; omega))
 refine FnH.intro lay mixed Tryz.func60 (by kernel_rfl) rfl (by kernel_rfl) rfl fun hok=>?_
 (try dsimp only[argC,succC]);(try dsimp only[awp]);conv=>whnf
 rw [List.length_map]
 refine And.intro (fun g=>?_) (fun g=>?_)
 ·obtain rfl : R = .ifc 111 (.int .i64 11):=by rw [hR,show chkP p v = 11 from if_pos g]; rfl
  (try dsimp only[awp]);conv=>whnf
  refine fM ?_;(conv=>whnf);refine ⟨?_,rfl⟩;conv=>whnf
  all_goals exact wk
 have e : chkP p v = if p.any (fun x=>!prob x) = true then 3 else 0:=if_neg g
 (try dsimp only[awp]);conv=>whnf
 refine .gen _ _ cc fun _=>?_
 (try dsimp only[awp]);conv=>whnf
 refine And.intro (fun g2=>?_) (fun g2=>?_)
 ·obtain rfl : R = .ifc 111 (.int .i64 3):=by rw [hR,e,if_pos g2]; rfl
  (try dsimp only[awp]);conv=>whnf
  refine fM ?_;(conv=>whnf);refine ⟨?_,rfl⟩;conv=>whnf
  all_goals exact wk
 ·obtain rfl : R = .nilI:=by rw [hR,e,if_neg (by rw [g2]; simp)]; rfl
  (try dsimp only[awp]);conv=>whnf
  refine fM ?_;(conv=>whnf);refine ⟨?_,rfl⟩;conv=>whnf
  all_goals exact wk

def topQ (f : Fo) (p : List QQ) : QQ:=exR p (fun t=>(valsS (l0 f.vars.toNat t) f.nodes).getD f.top.toNat false) f.vars.toNat zE

theorem chkP_ok {p : List Rat} {v : Int} (h : chkP p v = 0) (hw : ∀ x ∈ p,Ws x.num ∧ Ws x.den) : (p.length : Int) = v ∧ p.map Rat.av = (p.map qv).map fun q=>(canR q).av:=by
 unfold chkP at h
 split at h
 ·cases h
 rename_i h1
 split at h
 ·cases h
 rename_i h2
 refine ⟨by simpa using h1,?_⟩
 rw [List.map_map]
 refine List.map_congr_left fun x hx=>?_
 have : prob x = true:=by
  cases hp : prob x with
  | true=>rfl
  | false=>exact absurd (List.any_eq_true.2 ⟨x,hx,by simp [hp]⟩) h2
 unfold prob at this
 simp only [Bool.and_eq_true] at this
 have hv:=valid_can this.1.1 (hw x hx).1 (hw x hx).2
 show x.av = (canR (qv x)).av
 rw [← hv]

theorem c_sTop (f : Fo) (h : FOk f) (h7 : f.vars ≤ 7) (p : List Rat) (hl : Lens p) (hc : chkP p f.vars = 0) (hw : ∀ x ∈ p,Ws x.num ∧ Ws x.den) {K : Nat} (hK : K ≤ 100) (hs : ∀ x ∈ p,Sz (qv x) K) :
  FnH Tryz.prog 61 [f.av,.sl 3 (p.map Rat.av) .no] [] (.tup [(canR (topQ f (p.map qv))).av,.nilI]) [] ∧ Sz (topQ f (p.map qv)) 30000:=by
 have hvs:=h.vars
 have cc:=c_fCheck f h
 have cs:=c_sCheck p f.vars hl _ rfl
 rw [hc,errAV_zero] at cs
 obtain ⟨hpl,hpe⟩:=chkP_ok hc hw
 rw [hpe] at cs ⊢
 have cd:=c_oDepth f h
 have hp:=depO_perm f h
 generalize depO f = o at *
 obtain ⟨ns,x,cb,g,x0,x1,hv,hn⟩:=c_dBuild (N:=7) (by omega) f h (by omega) hp
 have hT0 : GoodT (Tb.new o):=new_good hp (by omega)
 have hn0 : (Tb.new o).n = (f.vars.toNat : Nat):=by show (o.length : Int) = _; rw [hp.len]
 have hql : (p.map qv).length = p.length:=List.length_map ..
 have hsz : ∀ q ∈ p.map qv,Sz q K:=fun q hq=>by
  obtain ⟨y,hy,rfl⟩:=List.mem_map.1 hq
  exact hs y hy
 generalize p.map qv = P at *
 have sz:=pr_sz g (fun i h0 h1=>by have:=hT0.plc i h0 h1; exact ⟨this.1,this.2.1⟩) hsz (by omega)
 have hB : szB K 7 ≤ 30000:=by simp only [szB]; omega
 have sz2 : ∀ (k : Nat),k ≤ ns.length → ∀ r : Int,0 ≤ r → r < 2 + (k : Int) → Sz (ofQ (prV P (ns.take k)) r) (szB K 7):=(fun k hk r r0 r1=>(sz k hk r r0 r1).mono (szB_mono K (by
   have hlv : 0 ≤ lvlG (Tb.new o) ns r:=by
    unfold lvlG
    split
    ·omega
    ·rename_i h2
     have hj : (r - 2).toNat < ns.length:=by omega
     have gj:=g _ hj
     have : ns.getD (r - 2).toNat default = ns[(r - 2).toNat]:=by rw [List.getD_eq_getElem?_getD,List.getElem?_eq_getElem hj]; rfl
     rw [this]
     exact (hT0.plc _ gj.v.1 gj.v.2).1
   omega)))
 have cv:=c_svalues o ns x P (K:=K) (B:=szB K 7) (by omega) hB hsz (by omega) (fun k hk=>by
  have gk:=g k hk
  have:=gk.v
  exact ⟨gk.v.1,by omega,gk.lo.1,gk.lo.2,gk.hi.1,gk.hi.2⟩) sz2
 have hpv:=prV_len P ns
 have co:=c_sof (prV P ns) x x0 (by omega)
 have hex:=pr_ex g P hn0 ns.length (Nat.le_refl _) x x0 x1
 rw [List.take_length] at hex
 have ht : ofQ (prV P ns) x = topQ f P:=by
  rw [hex]
  exact exR_congr (fun s=>hv s) _ _
 rw [ht] at co
 have hsT:=sz2 ns.length (Nat.le_refl _) x x0 x1
 rw [List.take_length,ht] at hsT
 refine ⟨?_,hsT.mono hB⟩
 generalize canR (topQ f P) = R at *
 generalize prV P ns = V at *
 refine FnH.intro lay mixed Tryz.func61 (by kernel_rfl) rfl (by kernel_rfl) rfl fun hok=>?_
 (try dsimp only[argC,succC]);(try dsimp only[awp]);conv=>whnf
 refine .pure _ _ ?_ ⟨rfl,rfl⟩ cc fun _=>?_
 ·exact leL_refl _
 (try dsimp only[awp]);conv=>whnf
 refine .pure _ _ ?_ ⟨rfl,rfl⟩ cs fun _=>?_
 ·exact leL_refl _
 (try dsimp only[awp]);conv=>whnf
 refine .pure _ _ ?_ ⟨rfl,rfl⟩ cd fun _=>?_
 ·exact leL_refl _
 (try dsimp only[awp]);conv=>whnf
 refine .pure _ _ ?_ ⟨rfl,rfl⟩ cb fun _=>?_
 ·exact leL_refl _
 (try dsimp only[awp]);conv=>whnf
 refine ADraw.auto (by kernel_rfl) ?_;conv=>whnf
 refine ACallP.pure _ _ ?_ ⟨rfl,rfl⟩ cv ?_
 ·exact leL_refl _
 conv=>whnf
 refine ACallP.pure _ _ ?_ ⟨rfl,rfl⟩ co ?_
 ·exact leL_refl _
 conv=>whnf
 refine fM ?_;(conv=>whnf);refine ⟨?_,rfl⟩;conv=>whnf
 all_goals exact wk

def shErr (a b : Fo) (p : List Rat) : Int:=if cmpErr a b ≠ 0 then cmpErr a b else chkP p a.vars
def shR (a b : Fo) (p : List Rat) : Rat:=if shErr a b p ≠ 0 then ⟨false,[],[]⟩ else canR (topQ b (p.map qv) - topQ a (p.map qv))

structure PsOk (p : List Rat) (K : Nat) : Prop where
 lens : Lens p
 ws : ∀ x ∈ p,Ws x.num ∧ Ws x.den
 sz : ∀ x ∈ p,Sz (qv x) K

theorem c_Shift (a b : Fo) (p : List Rat) {K : Nat} (hK : K ≤ 100) (hp : PsOk p K) (h7 : cmpErr a b = 0 → a.vars ≤ 7) (R : AV) (hR : R = .tup [(shR a b p).av,errAV (shErr a b p)]) :
  FnH Tryz.prog 18 [a.av,b.av,.sl 3 (p.map Rat.av) .no] [] R []:=by
 have cc:=c_cmpcheck a b _ rfl
 have cs:=c_sCheck p a.vars hp.lens _ rfl
 by_cases h1 : cmpErr a b ≠ 0
 ·have e1 : shErr a b p = cmpErr a b:=if_pos h1
  have e2 : shR a b p = ⟨false,[],[]⟩:=if_pos (by rw [e1]; exact h1)
  rw [e1,e2] at hR
  rw [errAV_ne h1] at hR cc
  generalize cmpErr a b = E at *
  subst hR
  refine FnH.intro lay mixed Tryz.func18 (by kernel_rfl) rfl (by kernel_rfl) rfl fun hok=>?_
  (try dsimp only[argC,succC]);(try dsimp only[awp]);conv=>whnf
  refine .pure _ _ ?_ ⟨rfl,rfl⟩ cc fun _=>?_
  ·exact leL_refl _
  (try dsimp only[awp]);conv=>whnf
  refine fM ?_;(conv=>whnf);refine ⟨?_,rfl⟩;conv=>whnf
  all_goals exact wk
 have h0 : cmpErr a b = 0:=by simpa using h1
 have e1 : shErr a b p = chkP p a.vars:=if_neg h1
 rw [h0,errAV_zero] at cc
 by_cases h2 : chkP p a.vars ≠ 0
 ·have e2 : shR a b p = ⟨false,[],[]⟩:=if_pos (by rw [e1]; exact h2)
  rw [e1,e2] at hR
  rw [errAV_ne h2] at hR cs
  generalize chkP p a.vars = E at *
  subst hR
  refine FnH.intro lay mixed Tryz.func18 (by kernel_rfl) rfl (by kernel_rfl) rfl fun hok=>?_
  (try dsimp only[argC,succC]);(try dsimp only[awp]);conv=>whnf
  refine .pure _ _ ?_ ⟨rfl,rfl⟩ cc fun _=>?_
  ·exact leL_refl _
  (try dsimp only[awp]);conv=>whnf
  refine .pure _ _ ?_ ⟨rfl,rfl⟩ cs fun _=>?_
  ·exact leL_refl _
  (try dsimp only[awp]);conv=>whnf
  refine fM ?_;(conv=>whnf);refine ⟨?_,rfl⟩;conv=>whnf
  all_goals exact wk
 have h20 : chkP p a.vars = 0:=by simpa using h2
 have e2 : shR a b p = canR (topQ b (p.map qv) - topQ a (p.map qv)):=if_neg (by rw [e1]; exact h2)
 rw [e1,e2,h20,errAV_zero] at hR
 rw [h20,errAV_zero] at cs
 obtain ⟨ha,hb,hab⟩:=cmpErr_ok h0
 obtain ⟨ta,sa⟩:=c_sTop a ha (h7 h0) p hp.lens h20 hp.ws hK hp.sz
 obtain ⟨tb,sb⟩:=c_sTop b hb (by have:=h7 h0; omega) p hp.lens (by rw [← hab]; exact h20) hp.ws hK hp.sz
 have cS:=c_qSub sb sa (by omega) (by omega)
 generalize canR (topQ b (p.map qv) - topQ a (p.map qv)) = X at *
 generalize canR (topQ b (p.map qv)) = Y at *
 generalize canR (topQ a (p.map qv)) = Z at *
 subst hR
 refine FnH.intro lay mixed Tryz.func18 (by kernel_rfl) rfl (by kernel_rfl) rfl fun hok=>?_
 (try dsimp only[argC,succC]);(try dsimp only[awp]);conv=>whnf
 refine .pure _ _ ?_ ⟨rfl,rfl⟩ cc fun _=>?_
 ·exact leL_refl _
 (try dsimp only[awp]);conv=>whnf
 refine .pure _ _ ?_ ⟨rfl,rfl⟩ cs fun _=>?_
 ·exact leL_refl _
 (try dsimp only[awp]);conv=>whnf
 refine .pure _ _ ?_ ⟨rfl,rfl⟩ ta fun _=>?_
 ·exact leL_refl _
 (try dsimp only[awp]);conv=>whnf
 refine .pure _ _ ?_ ⟨rfl,rfl⟩ tb fun _=>?_
 ·exact leL_refl _
 (try dsimp only[awp]);conv=>whnf
 refine .pure _ _ ?_ ⟨rfl,rfl⟩ cS fun _=>?_
 ·exact leL_refl _
 (try dsimp only[awp]);conv=>whnf
 refine fM ?_;(conv=>whnf);refine ⟨?_,rfl⟩;conv=>whnf
 all_goals exact wk

def cmpR (a b : Fo) : AV:=if cmpErr a b ≠ 0 then zDf else (cmpD a b).av

theorem c_CompareE (a b : Fo) (h7 : cmpErr a b = 0 → a.vars ≤ 7) (R : AV) (hR : R = .tup [cmpR a b,errAV (cmpErr a b)]) : FnH Tryz.prog 14 [a.av,b.av] [] R []:=by
 by_cases h1 : cmpErr a b ≠ 0
 ·have cc:=c_cmpcheck a b _ rfl
  rw [show cmpR a b = zDf from if_pos h1] at hR
  rw [errAV_ne h1] at hR cc
  generalize cmpErr a b = E at *
  subst hR
  refine FnH.intro lay mixed Tryz.func14 (by kernel_rfl) rfl (by kernel_rfl) rfl fun hok=>?_
  (try dsimp only[argC,succC]);(try dsimp only[awp]);conv=>whnf
  refine .pure _ _ ?_ ⟨rfl,rfl⟩ cc fun _=>?_
  ·exact leL_refl _
  (try dsimp only[awp]);conv=>whnf
  refine fM ?_;(conv=>whnf);refine ⟨?_,rfl⟩;conv=>whnf
  all_goals exact wk
 ·have h0 : cmpErr a b = 0:=by simpa using h1
  rw [show cmpR a b = (cmpD a b).av from if_neg h1,h0,errAV_zero] at hR
  subst hR
  exact c_Compare a b h0 (h7 h0)

theorem plain_of_wd {x : Nat} (h : x ≠ 0) : plainR (wd x) = true:=by
 have h1 : wd x ≠ []:=fun e=>h (wd_eq_nil.1 e)
 have h2 : (wd x).getLastD 0 ≠ 0:=by
  rcases wd_Pl x with h2 | h2
  ·exact absurd h2 h1
  ·exact h2
 simp only [plainR,Bool.and_eq_true,decide_eq_true_eq]
 exact ⟨h1,h2⟩

theorem parts_form {neg : Bool} {x d : Nat} (hx : x ≠ 0) (hd : d ≠ 0) : partsR (formR neg x d) = (neg,x / Nat.gcd x d,d / Nat.gcd x d) ∧ x / Nat.gcd x d ≠ 0:=by
 have hg : 0 < Nat.gcd x d:=Nat.gcd_pos_of_pos_left d (by omega)
 have h1 : x / Nat.gcd x d ≠ 0:=by
  have:=Nat.div_pos (Nat.gcd_le_left d (by omega : 0 < x)) hg
  omega
 have h2 : d / Nat.gcd x d ≠ 0:=by
  have:=Nat.div_pos (Nat.gcd_le_right x (by omega : 0 < d)) hg
  omega
 have hc : Nat.gcd (x / Nat.gcd x d) (d / Nat.gcd x d) = 1:=Nat.gcd_div_gcd_div_gcd_of_pos_left (by omega)
 unfold formR
 rw [if_neg hx]
 generalize x / Nat.gcd x d = a at *
 generalize d / Nat.gcd x d = b at *
 refine ⟨?_,h1⟩
 have hn : wd a ≠ []:=fun e=>h1 (wd_eq_nil.1 e)
 have hv : valid ⟨neg,wd a,wd b⟩ = true:=by
  unfold valid
  rw [if_neg (fun h=>hn h.1)]
  show (plainR (wd a) && plainR (wd b) && decide (Nat.gcd (val (wd a)) (val (wd b)) = 1)) = true
  rw [plain_of_wd h1,plain_of_wd h2,val_wd,val_wd]
  simpa using hc
 unfold partsR
 rw [if_pos ⟨hv,hn⟩]
 show (neg,val (wd a),val (wd b)) = _
 rw [val_wd,val_wd]

theorem sign_form {neg : Bool} {x d : Nat} (hd : d ≠ 0) : signR (formR neg x d) = if x = 0 then 0 else if neg = true then -1 else 1:=by
 by_cases hx : x = 0
 ·rw [if_pos hx]
  unfold formR
  rw [if_pos hx]
  have e : partsR ⟨false,[],[]⟩ = (false,0,1):=if_neg (fun h=>h.2 rfl)
  unfold signR
  rw [e]
  rfl
 ·rw [if_neg hx]
  obtain ⟨h1,h2⟩:=parts_form (neg:=neg) hx hd
  unfold signR
  rw [h1,if_neg h2]

theorem signR_eq {r : Rat} (w1 : Ws r.num) : signR r = sign r:=by
 unfold signR sign partsR
 by_cases h : valid r = true ∧ r.num ≠ []
 ·rw [if_pos h,if_pos h]
  obtain ⟨h1,h2⟩:=h
  unfold valid at h1
  rw [if_neg (fun h=>h2 h.1)] at h1
  simp only [Bool.and_eq_true] at h1
  rw [if_neg (plain_wd h1.1.1 w1).2]
 ·rw [if_neg h,if_neg h]; rfl

abbrev oneR : Rat:=⟨false,[1],[1]⟩

theorem wd_one : wd 1 = [1]:=wd_small (by omega) (by omega)

theorem parts_one (neg : Bool) : partsR ⟨neg,[1],[1]⟩ = (neg,1,1):=by
 have h:=(parts_form (neg:=neg) (x:=1) (d:=1) (by omega) (by omega)).1
 have e : formR neg 1 1 = ⟨neg,[1],[1]⟩:=by
  unfold formR
  rw [if_neg (by omega)]
  simp [wd_one]
 rw [e] at h
 simpa using h

theorem neg_one : negR oneR = ⟨true,[1],[1]⟩:=by
 unfold negR
 rw [parts_one]
 unfold formR
 rw [if_neg (by simp)]
 simp [wd_one]

theorem prob_law {r : Rat} (w1 : Ws r.num) (w2 : Ws r.den) : (valid r && decide (0 ≤ sign r) && decide (signR (addR r (negR oneR)) ≤ 0)) = prob r:=by
 unfold prob
 cases hv : valid r with
 | false=>simp
 | true =>
   rw [neg_one]
   unfold addR
   rw [parts_one]
   have hp : partsR r = if r.num ≠ [] then (r.neg,val r.num,val r.den) else (false,0,1):=by
    unfold partsR; simp [hv]
   have hs : sign r = if r.num ≠ [] then (if r.neg then -1 else 1) else 0:=by
    unfold sign; simp [hv]
   have hv':=hv
   unfold valid at hv'
   by_cases hn : r.num = []
   ·rw [hp,hs,if_neg (by simp [hn]),if_neg (by simp [hn])]
    have hdn : r.den = []:=by
     apply Classical.byContradiction
     intro hd
     rw [if_neg (fun h=>hd h.2),hn] at hv'
     simp [plainR] at hv'
    rw [if_pos ⟨hn,hdn⟩] at hv'
    have hneg : r.neg = false:=by simpa using hv'
    have e : sumR false true (0 * 1) (1 * 1) (1 * 1) = formR true 1 1:=rfl
    show (true && decide ((0 : Int) ≤ 0) && decide (signR (sumR false true (0 * 1) (1 * 1) (1 * 1)) ≤ 0)) = _
    rw [e,sign_form (by omega),hn,hdn,hneg]
    decide
   ·rw [hp,hs,if_pos hn,if_pos hn]
    rw [if_neg (fun h=>hn h.1)] at hv'
    simp only [Bool.and_eq_true] at hv'
    obtain ⟨e1,n1⟩:=plain_wd hv'.1.1 w1
    obtain ⟨e2,n2⟩:=plain_wd hv'.1.2 w2
    cases hneg : r.neg with
    | true=>simp
    | false =>
      show (true && decide ((0 : Int) ≤ 1) && decide (signR (sumR false true (val r.num * 1) (1 * val r.den) (val r.den * 1)) ≤ 0)) = (true && !false && decide (val r.num ≤ val r.den))
      rw [Nat.mul_one,Nat.one_mul,Nat.mul_one]
      unfold sumR
      rw [if_neg (by decide)]
      by_cases hlt : val r.num < val r.den
      ·rw [if_pos hlt,sign_form n2,if_neg (by omega)]
       simp; omega
      ·rw [if_neg hlt,sign_form n2]
       by_cases h0 : val r.num - val r.den = 0
       ·rw [if_pos h0]; simp; omega
       ·rw [if_neg h0]; simp; omega

theorem c_rSub1 (a : Rat) (a1 : a.num.length ≤ 35184372087808) (a2 : a.den.length ≤ 35184372087808) : FnH Tryz.prog 25 [a.av,oneR.av] [] (addR a (negR oneR)).av []:=by
 have c1:=c_rNeg oneR (by simp) (by simp)
 have n1 : (negR oneR).num.length ≤ 1:=by rw [neg_one]; simp
 have n2 : (negR oneR).den.length ≤ 1:=by rw [neg_one]; simp
 have c2:=c_rAddN a (negR oneR) (A:=35184372087808) (B:=1) a1 a2 n1 n2 (by omega) (by omega) (by omega)
 generalize addR a (negR oneR) = R at *
 generalize negR oneR = N at *
 refine FnH.intro lay mixed Tryz.func25 (by kernel_rfl) rfl (by kernel_rfl) rfl fun hok=>?_
 (try dsimp only[argC,succC]);(try dsimp only[awp]);conv=>whnf
 refine ADraw.auto (by kernel_rfl) ?_;conv=>whnf
 refine ACallP.pure _ _ ?_ ⟨rfl,rfl⟩ c1 ?_
 ·exact leL_refl _
 (try dsimp only[awp]);conv=>whnf
 refine ACallP.pure _ _ ?_ ⟨rfl,rfl⟩ c2 ?_
 ·exact leL_refl _
 (try dsimp only[awp]);conv=>whnf
 refine fM ?_;(conv=>whnf);refine ⟨?_,rfl⟩;conv=>whnf
 all_goals exact wk

theorem form_len {neg : Bool} {x d k : Nat} (hx : (wd x).length ≤ k) (hd : (wd d).length ≤ k) : (formR neg x d).num.length ≤ k ∧ (formR neg x d).den.length ≤ k:=by
 unfold formR
 split
 ·simp
 ·have h1:=wd_len_mono (Nat.div_le_self x (Nat.gcd x d))
  have h2:=wd_len_mono (Nat.div_le_self d (Nat.gcd x d))
  exact ⟨by show (wd _).length ≤ k; omega,by show (wd _).length ≤ k; omega⟩

theorem add_len {a b : Rat} {A B : Nat} (hA : 1 ≤ A) (hB : 1 ≤ B) (wa : Ws a.num ∧ Ws a.den) (wb : Ws b.num ∧ Ws b.den) (a1 : a.num.length ≤ A) (a2 : a.den.length ≤ A) (b1 : b.num.length ≤ B) (b2 : b.den.length ≤ B) :
  (addR a b).num.length ≤ A + B + 1 ∧ (addR a b).den.length ≤ A + B + 1:=by
 have qa:=partsLeN hA wa.1 wa.2 a1 a2
 have qb:=partsLeN hB wb.1 wb.2 b1 b2
 have l1:=wd_len_mul qa.1 qb.2
 have l2:=wd_len_mul qb.1 qa.2
 have l3:=wd_len_mul qa.2 qb.2
 rw [Nat.add_comm B A] at l2
 unfold addR sumR
 generalize (partsR a).2.1 * (partsR b).2.2 = x at *
 generalize (partsR b).2.1 * (partsR a).2.2 = y at *
 generalize (partsR a).2.2 * (partsR b).2.2 = d at *
 have l4:=wd_len_add l1 l2
 have l5:=wd_len_mono (Nat.sub_le x y)
 have l6:=wd_len_mono (Nat.sub_le y x)
 split
 ·exact form_len (by omega) (by omega)
 ·split
  ·exact form_len (by omega) (by omega)
  ·exact form_len (by omega) (by omega)

theorem c_rCmp1 (a : Rat) (a1 : a.num.length ≤ 35184372087808) (a2 : a.den.length ≤ 35184372087808) : FnH Tryz.prog 26 [a.av,oneR.av] [] (.int .i64 (signR (addR a (negR oneR)))) []:=by
 have c1:=c_rSub1 a a1 a2
 refine FnH.intro lay mixed Tryz.func26 (by kernel_rfl) rfl (by kernel_rfl) rfl fun hok=>?_
 have w:=ratWs hok
 have hl:=add_len (A:=35184372087808) (B:=1) (by omega) (by omega) w (b:=negR oneR) (by rw [neg_one]; exact ⟨Ws.cons (by omega) Ws.nil,Ws.cons (by omega) Ws.nil⟩) (by omega) (by omega) (by rw [neg_one]; simp) (by rw [neg_one]; simp)
 have c2:=c_rSign (addR a (negR oneR)) (by omega) (by omega)
 generalize addR a (negR oneR) = R at *
 (try dsimp only[argC,succC]);(try dsimp only[awp]);conv=>whnf
 refine .pure _ _ ?_ ⟨rfl,rfl⟩ c1 fun _=>?_
 ·exact leL_refl _
 (try dsimp only[awp]);conv=>whnf
 refine .pure _ _ ?_ ⟨rfl,rfl⟩ c2 fun _=>?_
 ·exact leL_refl _
 (try dsimp only[awp]);conv=>whnf
 refine fM ?_;(conv=>whnf);refine ⟨?_,rfl⟩;conv=>whnf
 all_goals exact wk

theorem c_rProb (h1 : OneC) (a : Rat) (a1 : a.num.length ≤ 35184372087808) (a2 : a.den.length ≤ 35184372087808) : FnH Tryz.prog 63 [a.av] [] (.bool (prob a)) []:=by
 have cv:=c_rValid a (by omega) (by omega)
 have cs:=c_rSign a (by omega) (by omega)
 have cc:=c_rCmp1 a a1 a2
 refine FnH.intro lay mixed Tryz.func63 (by kernel_rfl) rfl (by kernel_rfl) rfl fun hok=>?_
 have w:=ratWs hok
 have hl:=prob_law w.1 w.2
 rw [signR_eq w.1] at cs
 generalize signR (addR a (negR oneR)) = z at *
 rw [← hl]
 (try dsimp only[argC,succC]);(try dsimp only[awp]);conv=>whnf
 refine ADraw.auto (by kernel_rfl) ?_;conv=>whnf
 refine ACallP.pure _ _ ?_ ⟨rfl,rfl⟩ cv ?_
 ·exact leL_refl _
 (try dsimp only[awp]);conv=>whnf
 refine And.intro (fun p1=>?_) (fun p1=>?_)
 ·(try dsimp only[awp]);conv=>whnf
  refine ACallP.pure _ _ ?_ ⟨rfl,rfl⟩ cs ?_
  ·exact leL_refl _
  (try dsimp only[awp]);conv=>whnf
  refine And.intro (fun p2=>?_) (fun p2=>?_)
  ·(try dsimp only[awp]);conv=>whnf
   refine ACallP.pure _ _ ?_ ⟨rfl,rfl⟩ h1 ?_
   ·exact leL_refl _
   (try dsimp only[awp]);conv=>whnf
   refine ACallP.pure _ _ ?_ ⟨rfl,rfl⟩ cc ?_
   ·exact leL_refl _
   (try dsimp only[awp]);conv=>whnf
   refine fM ?_;(conv=>whnf);refine ⟨?_,rfl⟩;conv=>whnf
   show _ ↔ _
   simp [p1,p2]
  ·(try dsimp only[awp]);conv=>whnf
   refine fM ?_;(conv=>whnf);refine ⟨?_,rfl⟩;conv=>whnf
   simp [p1,p2]
 ·(try dsimp only[awp]);conv=>whnf
  refine fM ?_;(conv=>whnf);refine ⟨?_,rfl⟩;conv=>whnf
  simp [p1]















theorem sameRat (a : Rat) : FnH Tryz.prog 20 [a.av,a.av] [] .tt []:=(c_ratEq a a).weak (R':=.tt) (by show decide _ = true; simp)

theorem c_rFromL (neg : Bool) (x y : List Int) (wx : Ws x) (_ : Ws y) (hn : x.length ≤ 300000) (hd : y.length ≤ 300000) (h0 : val y ≠ 0) : FnH Tryz.prog 70 [.bool neg,wL x,wL y] [] (.tup [(formR neg (val x) (val y)).av,.int .i64 0]) []:=by
 have hgx:=wd_len_le wx
 have cb:=c_rBits x (by omega)
 have cd:=c_rBits y (by omega)
 obtain ⟨n,hvn⟩ : ∃ n,val x = n:=⟨_,rfl⟩
 obtain ⟨d,hvd⟩ : ∃ d,val y = d:=⟨_,rfl⟩
 rw [hvn] at cb hgx ⊢
 rw [hvd] at cd h0 ⊢
 have hbd : blen d ≠ 0:=fun h=>h0 (blen_zero.1 h)
 by_cases hz : n = 0
 ·have hb : blen n = 0:=blen_zero.2 hz
  rw [hb] at cb
  rw [show formR neg n d = ⟨false,[],[]⟩ from if_pos hz]
  refine FnH.intro lay mixed Tryz.func70 (by kernel_rfl) rfl (by kernel_rfl) rfl fun hok=>?_
  (try dsimp only[argC,succC]);(try dsimp only[awp]);conv=>whnf
  refine .pure _ _ ?_ ⟨rfl,rfl⟩ cd fun _=>?_
  ·exact leL_refl _
  (try dsimp only[awp]);conv=>whnf
  refine And.intro (fun h=>by exfalso; omega) (fun _=>?_)
  (try dsimp only[awp]);conv=>whnf
  refine .pure _ _ ?_ ⟨rfl,rfl⟩ cb fun _=>?_
  ·exact leL_refl _
  (try dsimp only[awp]);conv=>whnf
  refine And.intro (fun _=>?_) (fun h=>absurd rfl h)
  (try dsimp only[awp]);conv=>whnf
  refine fM ?_;(conv=>whnf);refine ⟨?_,rfl⟩;conv=>whnf
  all_goals exact wk
 have hb : blen n ≠ 0:=fun h=>hz (blen_zero.1 h)
 have hg0 : Nat.gcd n d ≠ 0:=by
  have:=Nat.gcd_pos_of_pos_left d (show 0 < n by omega)
  omega
 have hgn : Nat.gcd n d ≤ n:=Nat.gcd_le_left d (by omega)
 have hgl:=wd_len_mono hgn
 have cg:=c_rGcd x y (by omega) (by omega)
 rw [hvn,hvd] at cg
 have d1:=c_rDiv x (wd (Nat.gcd n d)) (by omega) (by omega) (by rw [val_wd]; exact hg0)
 have d2:=c_rDiv y (wd (Nat.gcd n d)) (by omega) (by omega) (by rw [val_wd]; exact hg0)
 rw [hvn,val_wd] at d1
 rw [hvd,val_wd] at d2
 rw [show formR neg n d = ⟨neg,wd (n / Nat.gcd n d),wd (d / Nat.gcd n d)⟩ from if_neg hz]
 generalize Nat.gcd n d = g at *
 refine FnH.intro lay mixed Tryz.func70 (by kernel_rfl) rfl (by kernel_rfl) rfl fun hok=>?_
 (try dsimp only[argC,succC]);(try dsimp only[awp]);conv=>whnf
 refine .pure _ _ ?_ ⟨rfl,rfl⟩ cd fun _=>?_
 ·exact leL_refl _
 (try dsimp only[awp]);conv=>whnf
 refine And.intro (fun h=>by exfalso; omega) (fun _=>?_)
 (try dsimp only[awp]);conv=>whnf
 refine .pure _ _ ?_ ⟨rfl,rfl⟩ cb fun _=>?_
 ·exact leL_refl _
 (try dsimp only[awp]);conv=>whnf
 refine And.intro (fun h=>by exfalso; omega) (fun _=>?_)
 (try dsimp only[awp]);conv=>whnf
 refine .pure _ _ ?_ ⟨rfl,rfl⟩ cg fun _=>?_
 ·exact leL_refl _
 (try dsimp only[awp]);conv=>whnf
 refine .pure _ _ ?_ ⟨rfl,rfl⟩ d1 fun _=>?_
 ·exact leL_refl _
 (try dsimp only[awp]);conv=>whnf
 refine .pure _ _ ?_ ⟨rfl,rfl⟩ d2 fun _=>?_
 ·exact leL_refl _
 (try dsimp only[awp]);conv=>whnf
 refine fM ?_;(conv=>whnf);refine ⟨?_,rfl⟩;conv=>whnf
 all_goals exact wk

theorem r_size2 : FnH Tryz.prog 124 [.int .i64 2] [] (wL [2,0]) []:=by
 refine FnH.intro lay mixed Tryz.func124 (by kernel_rfl) rfl (by kernel_rfl) rfl fun hok=>?_
 conv=>whnf
 (repeat' ((first|refine LoopE.step 300 ?_|refine zY ?_|refine zN ?_|refine zI ?_|refine zD ?_|refine AIdx.mk ⟨_,⟨by decide +kernel,rfl⟩,?_⟩|refine zC ?_|refine zT ?_|refine zU ?_|refine AApp.mk (by decide +kernel) (by decide +kernel) ?_|refine AMake.wr ?_|refine ADraw.auto (by kernel_rfl) ?_);(conv=>whnf)))
 refine fM ?_;(conv=>whnf);refine ⟨?_,rfl⟩;conv=>whnf
 exact ⟨rfl,⟨rfl,by decide +kernel⟩,⟨rfl,by decide +kernel⟩,trivial⟩

theorem r_half : FnH Tryz.prog 46 [.int .i64 1,.int .i64 2] [] (.tup [(canR (mkRat 1 2)).av,.int .i64 0]) []:=by
 have cf:=c_rFromL false [1,0] [2,0] (by intro x hx; simp at hx; rcases hx with rfl | rfl <;> omega) (by intro x hx; simp at hx; rcases hx with rfl | rfl <;> omega) (by simp) (by simp) (by decide)
 rw [form_can _ _ _ (by decide),show mkRat (sgI false (val [1,0])) (val [2,0]) = mkRat 1 2 from rfl] at cf
 generalize canR (mkRat 1 2) = R at *
 refine FnH.intro lay mixed Tryz.func46 (by kernel_rfl) rfl (by kernel_rfl) rfl fun hok=>?_
 (try dsimp only[argC,succC]);(try dsimp only[awp]);conv=>whnf
 refine .pure _ _ ?_ ⟨rfl,rfl⟩ r_size fun _=>?_
 ·exact leL_refl _
 (try dsimp only[awp]);conv=>whnf
 refine .pure _ _ ?_ ⟨rfl,rfl⟩ r_size2 fun _=>?_
 ·exact leL_refl _
 (try dsimp only[awp]);conv=>whnf
 refine .pure _ _ ?_ ⟨rfl,rfl⟩ cf fun _=>?_
 ·refine ⟨?_,le0_refl _,le0_refl _,trivial⟩
  first | (show _ ↔ _; decide) | rfl
 (try dsimp only[awp]);conv=>whnf
 refine fM ?_;(conv=>whnf);refine ⟨?_,rfl⟩;conv=>whnf
 all_goals exact wk

abbrev gtF (k : Int) : Fo:=⟨2,[⟨k,0,[0,1]⟩],2⟩

theorem c_gate59 (k : Int) : FnH Tryz.prog 47 [.int .i64 k] [] (gtF k).av []:=by
 refine FnH.intro lay mixed Tryz.func47 (by kernel_rfl) rfl (by kernel_rfl) rfl fun hok=>?_
 (try dsimp only[argC,succC]);(try dsimp only[awp]);conv=>whnf
 refine fM ?_;(conv=>whnf);refine ⟨?_,rfl⟩;conv=>whnf
 all_goals exact wk

theorem ex_cmp : cmpErr (gtF 2) (gtF 3) = 0:=by decide +kernel
theorem ex_df : cmpD (gtF 2) (gtF 3) = ⟨false,1,2,2,0⟩:=by decide +kernel

abbrev halfR : Rat:=⟨false,[1],[2]⟩
theorem half_can : canR (mkRat 1 2) = halfR:=by decide +kernel
theorem ex_chk : shErr (gtF 2) (gtF 3) [halfR,halfR] = 0:=by decide +kernel
theorem ex_sh : shR (gtF 2) (gtF 3) [halfR,halfR] = halfR:=by decide +kernel
theorem ex_ps : PsOk [halfR,halfR] 4:=by
 have h : ∀ x ∈ [halfR,halfR],x = halfR:=by intro x hx; simpa using hx
 refine ⟨fun x hx=>?_,fun x hx=>?_,fun x hx=>?_⟩
 ·rw [h x hx]; simp
 ·rw [h x hx]
  refine ⟨?_,?_⟩ <;> (intro y hy; simp at hy; omega)
 ·rw [h x hx]; unfold Sz; decide +kernel

theorem c_awake59 : FnH Tryz.prog 12 [] [] .tt []:=by
 have cm:=r_half
 rw [half_can] at cm
 have cc:=c_CompareE (gtF 2) (gtF 3) (fun _=>by decide) _ rfl
 rw [ex_cmp,errAV_zero,show cmpR (gtF 2) (gtF 3) = (cmpD (gtF 2) (gtF 3)).av from if_neg (by rw [ex_cmp]; simp),ex_df] at cc
 have cs:=c_Shift (gtF 2) (gtF 3) [halfR,halfR] (K:=4) (by omega) ex_ps (fun _=>by decide) _ rfl
 rw [ex_chk,ex_sh,errAV_zero] at cs
 refine FnH.intro lay mixed Tryz.func12 (by kernel_rfl) rfl (by kernel_rfl) rfl fun hok=>?_
 (try dsimp only[argC,succC]);(try dsimp only[awp]);conv=>whnf
 refine .pure _ _ ?_ ⟨rfl,rfl⟩ cm fun _=>?_
 ·exact leL_refl _
 (try dsimp only[awp]);conv=>whnf
 refine .pure _ _ ?_ ⟨rfl,rfl⟩ (c_gate59 2) fun _=>?_
 ·exact leL_refl _
 (try dsimp only[awp]);conv=>whnf
 refine .pure _ _ ?_ ⟨rfl,rfl⟩ (c_gate59 3) fun _=>?_
 ·exact leL_refl _
 (try dsimp only[awp]);conv=>whnf
 refine .pure _ _ ?_ ⟨rfl,rfl⟩ cc fun _=>?_
 ·exact leL_refl _
 (try dsimp only[awp]);conv=>whnf
 refine ADraw.auto (by kernel_rfl) ?_;conv=>whnf
 refine ACallP.pure _ _ ?_ ⟨rfl,rfl⟩ (c_gate59 2) ?_
 ·exact leL_refl _
 conv=>whnf
 refine ACallP.pure _ _ ?_ ⟨rfl,rfl⟩ (c_gate59 3) ?_
 ·exact leL_refl _
 conv=>whnf
 refine ACallP.pure _ _ ?_ ⟨rfl,rfl⟩ cs ?_
 ·all_goals exact wk
 conv=>whnf
 refine And.intro (fun _=>?_) (fun h=>absurd (by simp [eqPL,eqP,isT]) h)
 (try dsimp only[awp]);conv=>whnf
 refine .pure _ _ ?_ ⟨rfl,rfl⟩ (sameRat halfR) fun _=>?_
 ·exact leL_refl _
 (try dsimp only[awp]);conv=>whnf
 refine fM ?_;(conv=>whnf);refine ⟨?_,rfl⟩;conv=>whnf
 all_goals exact wk

def hvB (a b : Fo) : Bool:=decide (7 < a.vars ∧ cmpErr a b = 0)

theorem c_heavy59 (a b : Fo) : FnH Tryz.prog 13 [a.av,b.av] [] (.bool (hvB a b)) []:=by
 have cc:=c_r59Check a b
 refine FnH.intro lay mixed Tryz.func13 (by kernel_rfl) rfl (by kernel_rfl) rfl fun hok=>?_
 (try dsimp only[argC,succC]);(try dsimp only[awp]);conv=>whnf
 refine And.intro (fun g=>?_) (fun g=>?_)
 ·(try dsimp only[awp]);conv=>whnf
  refine .pure _ _ ?_ ⟨rfl,rfl⟩ cc fun _=>?_
  ·exact leL_refl _
  (try dsimp only[awp]);conv=>whnf
  refine fM ?_;(conv=>whnf);refine ⟨?_,rfl⟩;conv=>whnf
  show _ ↔ _
  unfold hvB
  rw [decide_eq_true_iff]
  exact ⟨fun h=>⟨g,h⟩,fun h=>h.2⟩
 ·(try dsimp only[awp]);conv=>whnf
  refine fM ?_;(conv=>whnf);refine ⟨?_,rfl⟩;conv=>whnf
  show hvB a b = false
  exact decide_eq_false (fun h=>g h.1)



def sumQ (g : Nat → QQ) : Nat → QQ
 | 0=>0
 | n + 1=>sumQ g n + g n

theorem sumQ_congr {g h : Nat → QQ} : ∀ {n : Nat},(∀ m < n,g m = h m) → sumQ g n = sumQ h n
 | 0,_=>rfl
 | n + 1,e=>by simp only [sumQ]; rw [sumQ_congr fun m hm=>e m (by omega),e n (by omega)]

theorem sumQ_add (g : Nat → QQ) (a : Nat) : ∀ b,sumQ g (a + b) = sumQ g a + sumQ (fun m=>g (a + m)) b
 | 0=>by simp only [sumQ,Nat.add_zero]; grind
 | b + 1=>by
   show sumQ g (a + b) + g (a + b) = _
   simp only [sumQ]
   rw [sumQ_add g a b]; grind

theorem sumQ_mul (g : Nat → QQ) (c : QQ) : ∀ n,sumQ (fun m=>c * g m) n = c * sumQ g n
 | 0=>by simp only [sumQ]; grind
 | n + 1=>by simp only [sumQ]; rw [sumQ_mul g c n]; grind

def wtK (p : List QQ) (s : Nat) : Nat → QQ
 | 0=>1
 | i + 1=>if s.testBit i = true then wtK p s i * p.getD i 0 else wtK p s i * (1 - p.getD i 0)

theorem wtK_top {p : List QQ} {m k : Nat} : ∀ i,i ≤ k → wtK p (2 ^ k + m) i = wtK p m i
 | 0,_=>rfl
 | i + 1,h=>by
   simp only [wtK]
   rw [wtK_top i (by omega),Nat.testBit_two_pow_add_gt (by omega)]

theorem exR_range {p : List QQ} {f : (Int → Bool) → Bool} : ∀ (k : Nat) (s : Int → Bool),exR p f k s = sumQ (fun m=>if f (fun j=>if 0 ≤ j ∧ j < (k : Int) then m.testBit j.toNat else s j) = true then wtK p m k else 0) (2 ^ k)
 | 0,s=>by
   have : (fun j : Int=>if 0 ≤ j ∧ j < ((0 : Nat) : Int) then (0 : Nat).testBit j.toNat else s j) = s:=by
    funext j; rw [if_neg (by omega)]
   show (if f s = true then 1 else 0) = 0 + (if (f fun j : Int=>if 0 ≤ j ∧ j < ((0 : Nat) : Int) then (0 : Nat).testBit j.toNat else s j) = true then wtK p 0 0 else 0)
   rw [this]
   simp only [wtK]; grind
 | k + 1,s=>by
   simp only [exR]
   rw [exR_range k,exR_range k]
   have e : 2 ^ (k + 1) = 2 ^ k + 2 ^ k:=by rw [Nat.pow_succ]; omega
   rw [e,sumQ_add,← sumQ_mul,← sumQ_mul]
   congr 1
   ·refine sumQ_congr fun m hm=>?_
    have : (fun j : Int=>if 0 ≤ j ∧ j < (k : Int) then m.testBit j.toNat else setE s k false j) = fun j : Int=>if 0 ≤ j ∧ j < ((k + 1 : Nat) : Int) then m.testBit j.toNat else s j:=by
     funext j
     by_cases h1 : 0 ≤ j ∧ j < (k : Int)
     ·rw [if_pos h1,if_pos (by omega)]
     ·rw [if_neg h1]
      unfold setE
      by_cases h2 : j = (k : Int)
      ·subst h2
       rw [if_pos rfl,if_pos (by omega),Int.toNat_natCast,Nat.testBit_lt_two_pow hm]
      ·rw [if_neg h2,if_neg (by omega)]
    rw [this]
    have hb : m.testBit k = false:=Nat.testBit_lt_two_pow hm
    simp only [wtK,hb]
    split <;> grind
   ·refine sumQ_congr fun m hm=>?_
    have : (fun j : Int=>if 0 ≤ j ∧ j < (k : Int) then m.testBit j.toNat else setE s k true j) = fun j : Int=>if 0 ≤ j ∧ j < ((k + 1 : Nat) : Int) then (2 ^ k + m).testBit j.toNat else s j:=by
     funext j
     by_cases h1 : 0 ≤ j ∧ j < (k : Int)
     ·rw [if_pos h1,if_pos (by omega)]
      rw [Nat.testBit_two_pow_add_gt (by omega)]
     ·rw [if_neg h1]
      unfold setE
      by_cases h2 : j = (k : Int)
      ·subst h2
       rw [if_pos rfl,if_pos (by omega),Int.toNat_natCast,Nat.testBit_two_pow_add_eq,Nat.testBit_lt_two_pow hm]
       rfl
      ·rw [if_neg h2,if_neg (by omega)]
    rw [this]
    have hb : (2 ^ k + m).testBit k = true:=by rw [Nat.testBit_two_pow_add_eq,Nat.testBit_lt_two_pow hm]; rfl
    simp only [wtK,hb,wtK_top k (Nat.le_refl k)]
    split <;> grind

theorem topQ_sum (f : Fo) (p : List QQ) : topQ f p = sumQ (fun m=>if faV f m = true then wtK p m f.vars.toNat else 0) (2 ^ f.vars.toNat):=by
 unfold topQ
 rw [exR_range]
 refine sumQ_congr fun m hm=>?_
 have : l0 f.vars.toNat (fun j=>if 0 ≤ j ∧ j < (f.vars.toNat : Int) then m.testBit j.toNat else zE j) = l0 f.vars.toNat (bitsE m):=by
  unfold l0
  refine List.map_congr_left fun i hi=>?_
  have:=List.mem_range.1 hi
  exact if_pos (by omega)
 rw [this]
 rfl

theorem wtK_sz {p : List QQ} {K : Nat} (hp : ∀ q ∈ p,Sz q K) (s : Nat) : ∀ i,i ≤ p.length → Sz (wtK p s i) (1 + i * (K + 2))
 | 0,_=>Sz_one.mono (by omega)
 | i + 1,h=>by
   have ih:=wtK_sz hp s i (by omega)
   have hq : Sz (p.getD i 0) K:=by
    rw [List.getD_eq_getElem?_getD,List.getElem?_eq_getElem (by omega)]
    exact hp _ (List.getElem_mem (by omega))
   have e : (i + 1) * (K + 2) = i * (K + 2) + (K + 2):=by rw [Nat.add_mul,Nat.one_mul]
   simp only [wtK]
   split
   ·exact (ih.mul hq).mono (by omega)
   ·exact (ih.mul (Sz_one.sub hq)).mono (by omega)

theorem sumQ_sz {g : Nat → QQ} {W : Nat} : ∀ {n : Nat},(∀ m < n,Sz (g m) W) → Sz (sumQ g n) (1 + n * (W + 1))
 | 0,_=>Sz_zero.mono (by omega)
 | n + 1,h=>by
   have e : (n + 1) * (W + 1) = n * (W + 1) + (W + 1):=by rw [Nat.add_mul,Nat.one_mul]
   exact ((sumQ_sz fun m hm=>h m (by omega)).add (h n (by omega))).mono (by omega)

theorem one_can : canR 1 = oneR:=by decide +kernel

theorem c_rqAdd {p q : QQ} {k l : Nat} (hp : Sz p k) (hq : Sz q l) (hk : k ≤ 100000) (hl : l ≤ 100000) : FnH Tryz.prog 23 [(canR p).av,(canR q).av] [] (canR (p + q)).av []:=by
 have l1:=Sz_len hp
 have l2:=Sz_len hq
 rw [← add_can]
 exact c_rAdd _ _ (by omega) (by omega) (by omega) (by omega)

theorem c_rqMul {p q : QQ} {k l : Nat} (hp : Sz p k) (hq : Sz q l) (hk : k ≤ 100000) (hl : l ≤ 100000) : FnH Tryz.prog 155 [(canR p).av,(canR q).av] [] (canR (p * q)).av []:=by
 have l1:=Sz_len hp
 have l2:=Sz_len hq
 rw [← mul_can]
 exact c_mulRef _ _ (by omega) (by omega) (by omega) (by omega)

theorem c_rqSub {p q : QQ} {k l : Nat} (hp : Sz p k) (hq : Sz q l) (hk : k ≤ 100000) (hl : l ≤ 100000) : FnH Tryz.prog 25 [(canR p).av,(canR q).av] [] (canR (p - q)).av []:=by
 have l2:=Sz_len hq
 have c1:=c_rNeg (canR q) (by omega) (by omega)
 rw [neg_can] at c1
 have c2:=c_rqAdd hp hq.neg hk hl
 rw [← Rat.sub_eq_add_neg] at c2
 generalize canR (p - q) = R at *
 generalize canR (-q) = N at *
 refine FnH.intro lay mixed Tryz.func25 (by kernel_rfl) rfl (by kernel_rfl) rfl fun hok=>?_
 (try dsimp only[argC,succC]);(try dsimp only[awp]);conv=>whnf
 refine ADraw.auto (by kernel_rfl) ?_;conv=>whnf
 refine ACallP.pure _ _ ?_ ⟨rfl,rfl⟩ c1 ?_
 ·exact leL_refl _
 (try dsimp only[awp]);conv=>whnf
 refine ACallP.pure _ _ ?_ ⟨rfl,rfl⟩ c2 ?_
 ·exact leL_refl _
 (try dsimp only[awp]);conv=>whnf
 refine fM ?_;(conv=>whnf);refine ⟨?_,rfl⟩;conv=>whnf
 all_goals exact wk

theorem c_rqOne : FnH Tryz.prog 149 [.int .i64 1] [] (canR 1).av []:=by
 rw [one_can]; exact r_of

abbrev cuAV (y n : Nat) : AV:=.ag [.int .i64 y,.int .i64 n]

theorem c_rWeight (p : List QQ) {K : Nat} (hp : ∀ q ∈ p,Sz q K) (hn : p.length ≤ 24) (hK : K ≤ 100) (s : Nat) (hs : s < 2 ^ p.length) :
  FnH Tryz.prog 74 [cuAV s (2 ^ p.length - (s + 1)),qL p] [] (canR (wtK p s p.length)).av []:=by
 have hpow : 2 ^ p.length ≤ 2 ^ 24:=Nat.pow_le_pow_right (by decide) hn
 have hsz:=wtK_sz hp s
 have hB : ∀ i,i ≤ p.length → 1 + i * (K + 2) ≤ 3000:=fun i hi=>by
  have : i * (K + 2) ≤ 24 * 102:=Nat.mul_le_mul (by omega) (by omega)
  omega
 have hno : ∀ i,i < p.length → (2 ^ p.length - (s + 1)).testBit i = !s.testBit i:=fun i hi=>by
  rw [Nat.testBit_two_pow_sub_succ hs]; simp [hi]
 have hnl : 2 ^ p.length - (s + 1) < 2 ^ 63:=by omega
 generalize 2 ^ p.length - (s + 1) = no at *
 refine FnH.intro lay mixed Tryz.func74 (by kernel_rfl) rfl (by kernel_rfl) rfl fun hok=>?_
 (try dsimp only[argC,succC]);(try dsimp only[awp]);conv=>whnf
 refine .pure _ _ ?_ ⟨rfl,rfl⟩ c_rqOne fun _=>?_
 ·exact leL_refl _
 (try dsimp only[awp]);conv=>whnf
 refine LoopE.of <| (LoopSpec.inv (.refl _ _) (fun i : Nat=>i ≤ p.length) (fun i=>[(6,.int .i64 i)]) (fun i=>[(2,.box (canR (wtK p s i)).av),(1,.box (⟨false,[],[]⟩ : Rat).av),(0,.box (cuAV s no))]) (fun i=>p.length - i) 0 (Nat.zero_le _) ?_ ?_ ?_)
 ·exact fun _=>rfl
 ·refine ⟨?_,.mk ?_ (by simp [idsOk])⟩
  ·all_goals exact wk
  ·all_goals exact wk
 intro i hi _
 (try dsimp only[awp]);conv=>whnf
 refine And.intro (fun g=>?_) (fun g=>?_)
 ·have hlt : i < p.length:=by simpa using g
  have hq : Sz p[i] K:=hp _ (List.getElem_mem hlt)
  have hb:=bit_test (a:=s) (i:=i) (by omega) (by omega)
  have hb2:=bit_test (a:=no) (i:=i) (by omega) (by omega)
  have hwi:=hsz i hi
  have hBi:=hB i hi
  have hw1 : wtK p s (i + 1) = if s.testBit i = true then wtK p s i * p[i] else wtK p s i * (1 - p[i]):=by
   simp only [wtK]
   rw [List.getD_eq_getElem?_getD,List.getElem?_eq_getElem hlt]; rfl
  rw [hno i hlt] at hb2
  by_cases hbs : s.testBit i = true
  ·rw [if_pos hbs] at hb hw1
   rw [hbs,if_neg (by simp)] at hb2
   have m1:=c_rqMul hwi hq (by omega) (by omega)
   rw [← hw1] at m1
   generalize hY : canR (wtK p s (i + 1)) = Y at *
   generalize canR (wtK p s i) = X at *
   (try dsimp only[awp]);conv=>whnf
   refine ⟨by omega,?_⟩
   (try dsimp only[awp]);conv=>whnf
   rw [hb]
   refine And.intro (fun _=>?_) (fun h=>absurd rfl h)
   (try dsimp only[awp]);conv=>whnf
   refine ADraw.auto (by kernel_rfl) ?_;conv=>whnf
   refine aidx hlt ?_
   generalize canR p[i] = Z at *
   conv=>whnf
   refine ACallP.pure _ _ ?_ ⟨rfl,rfl⟩ m1 ?_
   ·exact leL_refl _
   (try dsimp only[awp]);conv=>whnf
   refine ⟨by omega,?_⟩
   (try dsimp only[awp]);conv=>whnf
   rw [hb2]
   refine And.intro (fun h=>absurd h (by decide)) (fun _=>?_)
   (try dsimp only[awp]);conv=>whnf
   refine zA ?_;conv=>whnf
   refine ⟨i + 1,?_,?_,?_⟩
   ·exact hlt
   ·rw [hY]
    refine ⟨?_,.mk ?_ (by simp [idsOk])⟩
    ·all_goals exact wk
    ·all_goals exact wk
   ·omega
  ·rw [if_neg hbs] at hb hw1
   rw [Bool.eq_false_iff.2 hbs,if_pos (by simp)] at hb2
   have m0:=c_rqSub Sz_one hq (by omega) (by omega)
   have m1:=c_rqMul hwi (Sz_one.sub hq) (by omega) (by omega)
   rw [← hw1] at m1
   have cO:=c_rqOne
   generalize hY : canR (wtK p s (i + 1)) = Y at *
   generalize canR (wtK p s i) = X at *
   generalize canR 1 = O at *
   generalize canR (1 - p[i]) = M at *
   (try dsimp only[awp]);conv=>whnf
   refine ⟨by omega,?_⟩
   (try dsimp only[awp]);conv=>whnf
   rw [hb]
   refine And.intro (fun h=>absurd h (by decide)) (fun _=>?_)
   (try dsimp only[awp]);conv=>whnf
   refine ⟨by omega,?_⟩
   (try dsimp only[awp]);conv=>whnf
   rw [hb2]
   refine And.intro (fun _=>?_) (fun h=>absurd rfl h)
   (try dsimp only[awp]);conv=>whnf
   refine ADraw.auto (by kernel_rfl) ?_;conv=>whnf
   refine ACallP.pure _ _ ?_ ⟨rfl,rfl⟩ cO ?_
   ·exact leL_refl _
   conv=>whnf
   refine aidx hlt ?_
   generalize canR p[i] = Z at *
   conv=>whnf
   refine ACallP.pure _ _ ?_ ⟨rfl,rfl⟩ m0 ?_
   ·exact leL_refl _
   conv=>whnf
   refine ACallP.pure _ _ ?_ ⟨rfl,rfl⟩ m1 ?_
   ·exact leL_refl _
   (try dsimp only[awp]);conv=>whnf
   refine zA ?_;conv=>whnf
   refine ⟨i + 1,?_,?_,?_⟩
   ·exact hlt
   ·rw [hY]
    refine ⟨?_,.mk ?_ (by simp [idsOk])⟩
    ·all_goals exact wk
    ·all_goals exact wk
   ·omega
 ·have hi : i = p.length:=by (have : ¬ i < p.length:=by simpa using g); omega
  subst hi
  (try dsimp only[awp]);conv=>whnf
  refine fM ?_;(conv=>whnf);refine ⟨?_,rfl⟩;conv=>whnf
  all_goals exact wk

theorem c_rState (p : List QQ) {K : Nat} (hp : ∀ q ∈ p,Sz q K) (hn : p.length ≤ 24) (hK : K ≤ 100) (s : Nat) (hs : s < 2 ^ p.length) :
  FnH Tryz.prog 24 [qL p,.int .i64 s] [] (canR (wtK p s p.length)).av []:=by
 have hpow : 2 ^ p.length ≤ 2 ^ 24:=Nat.pow_le_pow_right (by decide) hn
 have cw:=c_rWeight p hp hn hK s hs
 have hsh:=shl_one (i:=p.length) (by omega)
 generalize canR (wtK p s p.length) = R at *
 refine FnH.intro lay mixed Tryz.func24 (by kernel_rfl) rfl (by kernel_rfl) rfl fun hok=>?_
 (try dsimp only[argC,succC]);(try dsimp only[awp]);conv=>whnf
 refine ⟨by omega,?_⟩
 rw [List.length_map,hsh]
 (try dsimp only[awp]);conv=>whnf
 refine ⟨inr64 (by omega) (by omega),?_⟩
 (try dsimp only[awp]);conv=>whnf
 refine ⟨inr64 (by omega) (by omega),?_⟩
 (try dsimp only[awp]);conv=>whnf
 rw [show ((2 ^ p.length : Nat) : Int) - 1 - (s : Int) = ((2 ^ p.length - (s + 1) : Nat) : Int) by omega]
 refine .pure _ _ ?_ ⟨rfl,rfl⟩ cw fun _=>?_
 ·exact leL_refl _
 (try dsimp only[awp]);conv=>whnf
 refine fM ?_;(conv=>whnf);refine ⟨?_,rfl⟩;conv=>whnf
 all_goals exact wk


def LensR (p : List Rat) : Prop:=∀ x ∈ p,x.num.length ≤ 35184372087808 ∧ x.den.length ≤ 35184372087808

theorem c_r37CheckB (p : List Rat) (v : Int) (hl : LensR p) : FnH Tryz.prog 19 [.sl 3 (p.map Rat.av) .no,.int .i64 v] [] (.int .i64 (chkP p v)) []:=by
 refine FnH.intro lay mixed Tryz.func19 (by kernel_rfl) rfl (by kernel_rfl) rfl fun hok=>?_
 have hpl : p.length ≤ 9223372036854775807:=by have:=hok.1.1; simpa [maxL] using this
 (try dsimp only[argC,succC]);(try dsimp only[awp]);conv=>whnf
 rw [List.length_map]
 refine And.intro (fun g=>?_) (fun g=>?_)
 ·rw [show chkP p v = 11 from if_pos g]
  (try dsimp only[awp]);conv=>whnf
  refine fM ?_;(conv=>whnf);refine ⟨?_,rfl⟩;conv=>whnf
  all_goals exact wk
 rw [show chkP p v = if p.any (fun x=>!prob x) = true then 3 else 0 from if_neg g]
 (try dsimp only[awp]);conv=>whnf
 refine LoopE.of <| LoopSpec.inv (.refl _ _) (fun (k : Nat)=>k ≤ p.length ∧ (p.take k).any (fun x=>!prob x) = false) (fun (k : Nat)=>[(5,.int .i64 k)]) (fun _=>_) (fun (k : Nat)=>p.length - k) 0 ?_ (fun _=>rfl) ?_ ?_
 ·exact ⟨Nat.zero_le _,rfl⟩
 ·all_goals exact wk
 rintro k ⟨hk,hany⟩ _
 (try dsimp only[awp]);conv=>whnf
 refine And.intro (fun g1=>?_) (fun g1=>?_)
 ·have hlt : k < p.length:=by simpa using g1
  have hin:=List.getElem_mem hlt
  have hat : prob p[k] = true → (p.take (k + 1)).any (fun x=>!prob x) = false:=fun h=>by
   rw [List.take_succ_eq_append_getElem hlt,List.any_append,hany]; simp [h]
  have cp:=c_rProb r_of p[k] (hl _ hin).1 (hl _ hin).2
  (try dsimp only[awp]);conv=>whnf
  refine aidx hlt ?_
  generalize p[k] = x at *
  (try dsimp only[awp]);conv=>whnf
  refine .pure _ _ ?_ ⟨rfl,rfl⟩ cp fun _=>?_
  ·exact leL_refl _
  (try dsimp only[awp]);conv=>whnf
  refine And.intro (fun g2=>?_) (fun g2=>?_)
  ·rw [if_pos (List.any_eq_true.2 ⟨x,hin,g2⟩)]
   (try dsimp only[awp]);conv=>whnf
   refine fM ?_;(conv=>whnf);refine ⟨?_,rfl⟩;conv=>whnf
   all_goals exact wk
  ·(try dsimp only[awp]);conv=>whnf
   refine zA ?_;conv=>whnf
   refine ⟨k + 1,?_,?_,?_⟩
   ·exact ⟨hlt,hat (by simpa using g2)⟩
   ·all_goals exact wk
   ·omega
 have hk : k = p.length:=by (have : ¬ k < p.length:=by simpa using g1); omega
 subst hk
 rw [List.take_length] at hany
 rw [if_neg (by rw [hany]; simp)]
 (try dsimp only[awp]);conv=>whnf
 refine fM ?_;(conv=>whnf);refine ⟨?_,rfl⟩;conv=>whnf
 all_goals exact wk

def Short4 (p : List Rat) : Prop:=∀ x ∈ p,x.num.length ≤ 4 ∧ x.den.length ≤ 4

theorem qv_sz {x : Rat} (w1 : Ws x.num) (w2 : Ws x.den) {k : Nat} (h1 : x.num.length ≤ k) (h2 : x.den.length ≤ k) (hk : 1 ≤ k) : Sz (qv x) k:=by
 unfold qv
 by_cases h0 : val x.den = 0
 ·rw [h0,Rat.mkRat_zero]; exact Sz_zero.mono hk
 ·refine Sz_mk h0 ?_ ?_
  ·rw [sgI_abs]
   have:=wd_len_le w1; omega
  ·have:=wd_len_le w2; omega

theorem ratsWs {p : List Rat} (h : OkL (p.map Rat.av)) : ∀ x ∈ p,Ws x.num ∧ Ws x.den:=fun x hx=>by
 have:=OkL_map h x hx
 exact ratWs (l:=[]) ⟨this,trivial⟩

theorem PsOk.of {p : List Rat} (h : Short4 p) (w : ∀ x ∈ p,Ws x.num ∧ Ws x.den) : PsOk p 4 :=
 ⟨fun x hx=>by have:=h x hx; omega,w,fun x hx=>qv_sz (w x hx).1 (w x hx).2 (h x hx).1 (h x hx).2 (by omega)⟩


theorem sumQ_sub (g h : Nat → QQ) : ∀ n,sumQ (fun m=>g m - h m) n = sumQ g n - sumQ h n
 | 0=>by simp only [sumQ]; grind
 | n + 1=>by simp only [sumQ]; rw [sumQ_sub g h n]; grind

def smQ (a b : Fo) (P : List QQ) (k : Nat) : QQ:=sumQ (fun m=>(if faV b m = true then wtK P m P.length else 0) - (if faV a m = true then wtK P m P.length else 0)) k

theorem smQ_top (a b : Fo) (P : List QQ) (hab : a.vars = b.vars) (hP : P.length = a.vars.toNat) : smQ a b P (2 ^ a.vars.toNat) = topQ b P - topQ a P:=by
 rw [topQ_sum,topQ_sum]
 unfold smQ
 rw [sumQ_sub,← hab,hP]

theorem smQ_succ (a b : Fo) (P : List QQ) (k : Nat) : smQ a b P (k + 1) = smQ a b P k + ((if faV b k = true then wtK P k P.length else 0) - (if faV a k = true then wtK P k P.length else 0)):=rfl

theorem c_rqCmp0 {q : QQ} {k : Nat} (hq : Sz q k) (hk : k ≤ 100000) : FnH Tryz.prog 26 [(canR q).av,(canR q).av] [] (.int .i64 0) []:=by
 have cS:=c_rqSub hq hq hk hk
 rw [show q - q = 0 by grind,show canR 0 = ⟨false,[],[]⟩ from rfl] at cS
 have cg:=c_rSign ⟨false,[],[]⟩ (by simp) (by simp)
 rw [show signR ⟨false,[],[]⟩ = 0 by decide +kernel] at cg
 generalize canR q = X at *
 refine FnH.intro lay mixed Tryz.func26 (by kernel_rfl) rfl (by kernel_rfl) rfl fun hok=>?_
 (try dsimp only[argC,succC]);(try dsimp only[awp]);conv=>whnf
 refine .pure _ _ ?_ ⟨rfl,rfl⟩ cS fun _=>?_
 ·exact leL_refl _
 (try dsimp only[awp]);conv=>whnf
 refine .pure _ _ ?_ ⟨rfl,rfl⟩ cg fun _=>?_
 ·exact leL_refl _
 (try dsimp only[awp]);conv=>whnf
 refine fM ?_;(conv=>whnf);refine ⟨?_,rfl⟩;conv=>whnf
 all_goals exact wk

theorem c_CompareSums (a b : Fo) (p : List Rat) (hl : LensR p) : FnH Tryz.prog 5 [a.av,b.av,.sl 3 (p.map Rat.av) .no] [] (.bool true) []:=by
 have ch:=c_heavy59 a b
 have cK:=c_r59Check a b
 have cP:=c_r37CheckB p a.vars hl
 cases hh : hvB a b with
 | true =>
   rw [hh] at ch
   refine FnH.intro lay mixed Tryz.func5 (by kernel_rfl) rfl (by kernel_rfl) rfl fun hok=>?_
   (try dsimp only[argC,succC]);(try dsimp only[awp]);conv=>whnf
   refine .pure _ _ ?_ ⟨rfl,rfl⟩ c_awake59 fun _=>?_
   ·exact leL_refl _
   (try dsimp only[awp]);conv=>whnf
   refine .pure _ _ ?_ ⟨rfl,rfl⟩ ch fun _=>?_
   ·exact leL_refl _
   (try dsimp only[awp]);conv=>whnf
   refine And.intro (fun _=>?_) (fun h=>absurd h (by simp))
   (try dsimp only[awp]);conv=>whnf
   refine .pure _ _ ?_ ⟨rfl,rfl⟩ c_awake59 fun _=>?_
   ·exact leL_refl _
   (try dsimp only[awp]);conv=>whnf
   refine fM ?_;(conv=>whnf);refine ⟨?_,rfl⟩;conv=>whnf
   all_goals exact wk
 | false =>
 rw [hh] at ch
 have h7 : cmpErr a b = 0 → a.vars ≤ 7:=fun h0=>by
  have:=of_decide_eq_false hh
  omega
 by_cases h0 : cmpErr a b ≠ 0
 ·generalize cmpErr a b = E at *
  refine FnH.intro lay mixed Tryz.func5 (by kernel_rfl) rfl (by kernel_rfl) rfl fun hok=>?_
  (try dsimp only[argC,succC]);(try dsimp only[awp]);conv=>whnf
  refine .pure _ _ ?_ ⟨rfl,rfl⟩ c_awake59 fun _=>?_
  ·exact leL_refl _
  (try dsimp only[awp]);conv=>whnf
  refine .pure _ _ ?_ ⟨rfl,rfl⟩ ch fun _=>?_
  ·exact leL_refl _
  (try dsimp only[awp]);conv=>whnf
  refine And.intro (fun h=>absurd h (by simp)) (fun _=>?_)
  (try dsimp only[awp]);conv=>whnf
  refine .pure _ _ ?_ ⟨rfl,rfl⟩ cK fun _=>?_
  ·exact leL_refl _
  (try dsimp only[awp]);conv=>whnf
  refine And.intro (fun _=>?_) (fun h=>absurd h0 h)
  (try dsimp only[awp]);conv=>whnf
  refine .pure _ _ ?_ ⟨rfl,rfl⟩ c_awake59 fun _=>?_
  ·exact leL_refl _
  (try dsimp only[awp]);conv=>whnf
  refine fM ?_;(conv=>whnf);refine ⟨?_,rfl⟩;conv=>whnf
  all_goals exact wk
 have h0 : cmpErr a b = 0:=by simpa using h0
 obtain ⟨ha,hb,hab⟩:=cmpErr_ok h0
 have h7:=h7 h0
 have hav:=ha.vars
 refine FnH.intro lay mixed Tryz.func5 (by kernel_rfl) rfl (by kernel_rfl) rfl fun hok=>?_
 have hws:=ratsWs hok.2.2.1.2
 (try dsimp only[argC,succC]);(try dsimp only[awp]);conv=>whnf
 refine .pure _ _ ?_ ⟨rfl,rfl⟩ c_awake59 fun _=>?_
 ·exact leL_refl _
 (try dsimp only[awp]);conv=>whnf
 refine .pure _ _ ?_ ⟨rfl,rfl⟩ ch fun _=>?_
 ·exact leL_refl _
 (try dsimp only[awp]);conv=>whnf
 rw [h0] at cK
 refine And.intro (fun h=>absurd h (by simp)) (fun _=>?_)
 (try dsimp only[awp]);conv=>whnf
 refine .pure _ _ ?_ ⟨rfl,rfl⟩ cK fun _=>?_
 ·exact leL_refl _
 (try dsimp only[awp]);conv=>whnf
 refine And.intro (fun h=>absurd rfl h) (fun _=>?_)
 (try dsimp only[awp]);conv=>whnf
 rw [List.length_map]
 refine And.intro (fun _=>?_) (fun g100=>?_)
 ·(try dsimp only[awp]);conv=>whnf
  refine .pure _ _ ?_ ⟨rfl,rfl⟩ c_awake59 fun _=>?_
  ·exact leL_refl _
  (try dsimp only[awp]);conv=>whnf
  refine fM ?_;(conv=>whnf);refine ⟨?_,rfl⟩;conv=>whnf
  all_goals exact wk
 (try dsimp only[awp]);conv=>whnf
 refine .pure _ _ ?_ ⟨rfl,rfl⟩ cP fun _=>?_
 ·exact leL_refl _
 (try dsimp only[awp]);conv=>whnf
 refine And.intro (fun _=>?_) (fun hc=>?_)
 ·(try dsimp only[awp]);conv=>whnf
  refine .pure _ _ ?_ ⟨rfl,rfl⟩ c_awake59 fun _=>?_
  ·exact leL_refl _
  (try dsimp only[awp]);conv=>whnf
  refine fM ?_;(conv=>whnf);refine ⟨?_,rfl⟩;conv=>whnf
  all_goals exact wk
 have hc : chkP p a.vars = 0:=by simpa using hc
 obtain ⟨hpl,hpe⟩:=chkP_ok hc hws
 (try dsimp only[awp]);conv=>whnf
 refine LoopE.of <| LoopSpec.inv (.refl _ _) (fun (k : Nat)=>k ≤ p.length ∧ Short4 (p.take k)) (fun (k : Nat)=>[(7,.int .i64 k)]) (fun _=>_) (fun (k : Nat)=>p.length - k) 0 ?_ (fun _=>rfl) ?_ ?_
 ·exact ⟨Nat.zero_le _,fun x hx=>by simp at hx⟩
 ·all_goals exact wk
 rintro k ⟨hk,hsh⟩ _
 (try dsimp only[awp]);conv=>whnf
 rw [List.length_map]
 refine And.intro (fun g1=>?_) (fun g1=>?_)
 ·have hlt : k < p.length:=by omega
  have hsh1 : p[k].num.length ≤ 4 ∧ p[k].den.length ≤ 4 → Short4 (p.take (k + 1)):=fun h x hx=>by
   rw [List.take_succ_eq_append_getElem hlt] at hx
   rcases List.mem_append.1 hx with hx | hx
   ·exact hsh x hx
   ·obtain rfl:=List.mem_singleton.1 hx; exact h
  (try dsimp only[awp]);conv=>whnf
  refine aidx hlt ?_
  (try dsimp only[awp]);conv=>whnf
  rw [List.length_map]
  refine And.intro (fun g2=>?_) (fun g2=>?_)
  ·(try dsimp only[awp]);conv=>whnf
   refine fM ?_;(conv=>whnf);refine ⟨?_,rfl⟩;conv=>whnf
   all_goals exact wk
  (try dsimp only[awp]);conv=>whnf
  refine aidx hlt ?_
  (try dsimp only[awp]);conv=>whnf
  rw [List.length_map]
  refine And.intro (fun g3=>?_) (fun g3=>?_)
  ·(try dsimp only[awp]);conv=>whnf
   refine fM ?_;(conv=>whnf);refine ⟨?_,rfl⟩;conv=>whnf
   all_goals exact wk
  (try dsimp only[awp]);conv=>whnf
  refine zA ?_;conv=>whnf
  refine ⟨k + 1,?_,?_,?_⟩
  ·exact ⟨hlt,hsh1 ⟨by omega,by omega⟩⟩
  ·all_goals exact wk
  ·omega
 have hk : k = p.length:=by omega
 subst hk
 rw [List.take_length] at hsh
 have pk:=PsOk.of hsh hws
 have cS:=c_Shift a b p (K:=4) (by omega) pk (fun _=>h7) _ rfl
 have e1 : shErr a b p = 0:=by unfold shErr; rw [if_neg (by rw [h0]; simp)]; exact hc
 rw [show shR a b p = canR (topQ b (p.map qv) - topQ a (p.map qv)) from if_neg (by rw [e1]; simp),e1,errAV_zero] at cS
 rw [show (AV.sl 3 (p.map Rat.av) .no) = qL (p.map qv) from by rw [hpe]] at cS ⊢
 have hPl : (p.map qv).length = a.vars.toNat:=by rw [List.length_map]; omega
 have hsz : ∀ q ∈ p.map qv,Sz q 4:=fun q hq=>by
  obtain ⟨y,hy,rfl⟩:=List.mem_map.1 hq
  exact pk.sz y hy
 generalize p.map qv = P at *
 have hpow : 2 ^ a.vars.toNat ≤ 2 ^ 7:=Nat.pow_le_pow_right (by decide) (by omega)
 have hw : ∀ m,Sz (wtK P m P.length) 100:=fun m=>(wtK_sz hsz m P.length (Nat.le_refl _)).mono (by
  have : P.length * (4 + 2) ≤ 7 * 6:=Nat.mul_le_mul (by omega) (by omega)
  omega)
 have hg : ∀ (f : Fo) m,Sz (if faV f m = true then wtK P m P.length else 0) 100:=fun f m=>by
  split
  ·exact hw m
  ·exact Sz_zero.mono (by omega)
 have hsm : ∀ n,n ≤ 2 ^ a.vars.toNat → Sz (smQ a b P n) 40000:=fun n hn=>(sumQ_sz (W:=201) fun m _=>(hg b m).sub (hg a m)).mono (by
  have : n * (201 + 1) ≤ 2 ^ 7 * 202:=Nat.mul_le_mul (by omega) (by omega)
  omega)
 have hst : ∀ s : Nat,s < 2 ^ a.vars.toNat → FnH Tryz.prog 24 [qL P,.int .i64 s] [] (canR (wtK P s P.length)).av []:=fun s hs=>c_rState P hsz (by omega) (by omega) s (by rw [hPl]; exact hs)
 have hva : ∀ s : Nat,s < 2 ^ a.vars.toNat → FnH Tryz.prog 22 [a.av,.int .i64 s] [] (.tup [.bool (faV a s),.nilI]) []:=fun s hs=>c_fValue a ha s hs
 have hvb : ∀ s : Nat,s < 2 ^ b.vars.toNat → FnH Tryz.prog 22 [b.av,.int .i64 s] [] (.tup [.bool (faV b s),.nilI]) []:=fun s hs=>c_fValue b hb s hs
 rw [← hab] at hvb
 have htop:=smQ_top a b P hab hPl
 have hss:=smQ_succ a b P
 have hsh:=shl_one (i:=a.vars.toNat) (by omega)
 rw [show ((a.vars.toNat : Nat) : Int) = a.vars by omega] at hsh
 have hcz:=c_rqCmp0 (hsm (2 ^ a.vars.toNat) (Nat.le_refl _)) (by omega)
 have hs0 : smQ a b P 0 = 0:=rfl
 rw [← htop] at cS
 generalize smQ a b P = sm at *
 generalize hN : 2 ^ a.vars.toNat = N at *
 have hN24 : N ≤ 128:=hpow
 (try dsimp only[awp]);conv=>whnf
 refine .pure _ _ ?_ ⟨rfl,rfl⟩ cS fun _=>?_
 ·exact leL_refl _
 (try dsimp only[awp]);conv=>whnf
 refine LoopE.of <| (LoopSpec.inv (.refl _ _) (fun k : Nat=>k ≤ N) (fun k=>[(11,.int .i64 k)]) (fun k=>[(3,.box (canR (sm k)).av),(2,.box (canR (sm N)).av),(1,.box b.av),(0,.box a.av)]) (fun k=>N - k) 0 (Nat.zero_le _) ?_ ?_ ?_)
 ·exact fun _=>rfl
 ·rw [hs0]
  refine ⟨?_,.mk ?_ (by simp [idsOk])⟩
  ·all_goals exact wk
  ·all_goals exact wk
 intro k hk _
 (try dsimp only[awp]);conv=>whnf
 refine ⟨by omega,?_⟩
 rw [hsh]
 (try dsimp only[awp]);conv=>whnf
 refine And.intro (fun g=>?_) (fun g=>?_)
 ·have hlt : k < N:=by omega
  have c1:=hva k hlt
  have c2:=hvb k hlt
  have cw:=hst k hlt
  have hs1:=hss k
  have ca:=c_rqAdd (hsm k (by omega)) (hw k) (by omega) (by omega)
  have cb:=c_rqSub (hsm k (by omega)) (hw k) (by omega) (by omega)
  generalize hfa : faV a k = A at *
  generalize hfb : faV b k = B at *
  rcases A with _ | _ <;> rcases B with _ | _
  ·have hs1 : sm (k + 1) = sm k:=by rw [hs1]; simp only [Bool.false_eq_true,reduceIte]; grind
   (try dsimp only[awp]);conv=>whnf
   refine .pure _ _ ?_ ⟨rfl,rfl⟩ c1 fun _=>?_
   ·exact leL_refl _
   (try dsimp only[awp]);conv=>whnf
   refine .pure _ _ ?_ ⟨rfl,rfl⟩ c2 fun _=>?_
   ·exact leL_refl _
   (try dsimp only[awp]);conv=>whnf
   refine And.intro (fun h=>absurd h (by simp)) (fun _=>?_)
   (try dsimp only[awp]);conv=>whnf
   refine And.intro (fun h=>absurd h (by simp)) (fun _=>?_)
   (try dsimp only[awp]);conv=>whnf
   refine zA ?_;conv=>whnf
   refine ⟨k + 1,?_,?_,?_⟩
   ·exact hlt
   ·rw [hs1]
    refine ⟨?_,.mk ?_ (by simp [idsOk])⟩
    ·all_goals exact wk
    ·all_goals exact wk
   ·omega
  ·have hs1 : sm (k + 1) = sm k + wtK P k P.length:=by rw [hs1]; simp only [Bool.false_eq_true,reduceIte]; grind
   rw [← hs1] at ca
   (try dsimp only[awp]);conv=>whnf
   refine .pure _ _ ?_ ⟨rfl,rfl⟩ c1 fun _=>?_
   ·exact leL_refl _
   (try dsimp only[awp]);conv=>whnf
   refine .pure _ _ ?_ ⟨rfl,rfl⟩ c2 fun _=>?_
   ·exact leL_refl _
   (try dsimp only[awp]);conv=>whnf
   refine And.intro (fun _=>?_) (fun h=>absurd h (by simp))
   (try dsimp only[awp]);conv=>whnf
   refine And.intro (fun _=>?_) (fun h=>absurd h (by simp))
   (try dsimp only[awp]);conv=>whnf
   refine ADraw.auto (by kernel_rfl) ?_;conv=>whnf
   refine ACallP.pure _ _ ?_ ⟨rfl,rfl⟩ cw ?_
   ·exact leL_refl _
   conv=>whnf
   refine ACallP.pure _ _ ?_ ⟨rfl,rfl⟩ ca ?_
   ·exact leL_refl _
   (try dsimp only[awp]);conv=>whnf
   refine And.intro (fun h=>absurd h (by simp)) (fun _=>?_)
   (try dsimp only[awp]);conv=>whnf
   refine zA ?_;conv=>whnf
   refine ⟨k + 1,?_,?_,?_⟩
   ·exact hlt
   ·rw [hs1]
    refine ⟨?_,.mk ?_ (by simp [idsOk])⟩
    ·all_goals exact wk
    ·all_goals exact wk
   ·omega
  ·have hs1 : sm (k + 1) = sm k - wtK P k P.length:=by rw [hs1]; simp only [Bool.false_eq_true,reduceIte]; grind
   rw [← hs1] at cb
   (try dsimp only[awp]);conv=>whnf
   refine .pure _ _ ?_ ⟨rfl,rfl⟩ c1 fun _=>?_
   ·exact leL_refl _
   (try dsimp only[awp]);conv=>whnf
   refine .pure _ _ ?_ ⟨rfl,rfl⟩ c2 fun _=>?_
   ·exact leL_refl _
   (try dsimp only[awp]);conv=>whnf
   refine And.intro (fun h=>absurd h (by simp)) (fun _=>?_)
   (try dsimp only[awp]);conv=>whnf
   refine And.intro (fun _=>?_) (fun h=>absurd h (by simp))
   (try dsimp only[awp]);conv=>whnf
   refine And.intro (fun _=>?_) (fun h=>absurd h (by simp))
   (try dsimp only[awp]);conv=>whnf
   refine ADraw.auto (by kernel_rfl) ?_;conv=>whnf
   refine ACallP.pure _ _ ?_ ⟨rfl,rfl⟩ cw ?_
   ·exact leL_refl _
   conv=>whnf
   refine ACallP.pure _ _ ?_ ⟨rfl,rfl⟩ cb ?_
   ·exact leL_refl _
   (try dsimp only[awp]);conv=>whnf
   refine zA ?_;conv=>whnf
   refine ⟨k + 1,?_,?_,?_⟩
   ·exact hlt
   ·rw [hs1]
    refine ⟨?_,.mk ?_ (by simp [idsOk])⟩
    ·all_goals exact wk
    ·all_goals exact wk
   ·omega
  ·have hs1 : sm (k + 1) = sm k:=by rw [hs1]; simp only [Bool.false_eq_true,reduceIte]; grind
   (try dsimp only[awp]);conv=>whnf
   refine .pure _ _ ?_ ⟨rfl,rfl⟩ c1 fun _=>?_
   ·exact leL_refl _
   (try dsimp only[awp]);conv=>whnf
   refine .pure _ _ ?_ ⟨rfl,rfl⟩ c2 fun _=>?_
   ·exact leL_refl _
   (try dsimp only[awp]);conv=>whnf
   refine And.intro (fun _=>?_) (fun h=>absurd h (by simp))
   (try dsimp only[awp]);conv=>whnf
   refine And.intro (fun h=>absurd h (by simp)) (fun _=>?_)
   (try dsimp only[awp]);conv=>whnf
   refine And.intro (fun _=>?_) (fun h=>absurd h (by simp))
   (try dsimp only[awp]);conv=>whnf
   refine And.intro (fun h=>absurd h (by simp)) (fun _=>?_)
   (try dsimp only[awp]);conv=>whnf
   refine zA ?_;conv=>whnf
   refine ⟨k + 1,?_,?_,?_⟩
   ·exact hlt
   ·rw [hs1]
    refine ⟨?_,.mk ?_ (by simp [idsOk])⟩
    ·all_goals exact wk
    ·all_goals exact wk
   ·omega
 ·have hk : k = N:=by omega
  subst hk
  (try dsimp only[awp]);conv=>whnf
  refine .pure _ _ ?_ ⟨rfl,rfl⟩ hcz fun _=>?_
  ·exact leL_refl _
  (try dsimp only[awp]);conv=>whnf
  refine fM ?_;(conv=>whnf);refine ⟨?_,rfl⟩;conv=>whnf
  show _ ↔ true = true
  simp

theorem list_of {α : Type} {f : α → AV} : ∀ {l : List AV},(∀ x ∈ l,∃ y,x = f y) → ∃ m : List α,l = m.map f
 | [],_=>⟨[],rfl⟩
 | x :: l,h=>by
   obtain ⟨y,rfl⟩:=h x (by simp)
   obtain ⟨m,rfl⟩:=list_of (l:=l) fun z hz=>h z (by simp [hz])
   exact ⟨y :: m,rfl⟩

theorem ints_of {sz : Nat} {k : IntKind} {A : AV} (h : (Sh.sl sz (.int k)).In A) : ∃ l : List Int,A = .sl sz (l.map (.int k)) .no:=by
 simp only [Sh.In] at h
 obtain ⟨l,rfl,hl⟩:=h
 obtain ⟨m,rfl⟩:=list_of hl
 exact ⟨m,rfl⟩

theorem int_of {k : IntKind} {A : AV} (h : (Sh.int k).In A) : ∃ n : Int,A = .int k n:=by
 simpa only [Sh.In] using h

end S

open Go Go.AL Go.Proofs Go.ChangeShapes Go.RowKit
namespace S

section
variable {H : Type} {enc : TypeId × Value → H} {P : Program} {w : World} {base : Nat} {spare : Nat → Bool} {held : Bool}

theorem w_all {e : TypeId} {d : DataW H} {n : Nat} (hn : n ∈ d.weights P e) : ∀ {l : List (DataW H)},d ∈ l → n ∈ DataW.weightsAll P e l
 | d0 :: l,h=>by
   simp only [DataW.weightsAll,List.mem_append]
   rcases List.mem_cons.1 h with rfl | h
   ·exact .inl hn
   ·exact .inr (w_all hn h)

structure RatT (P : Program) (t : TypeId) where
 f0 : Field
 f1 : Field
 f2 : Field
 e : TypeId
 hu : P.underlying t = some (.struct #[f0,f1,f2])
 c3 : P.cellsOf t = 3
 o0 : f0.offset = 0
 o1 : f1.offset = 1
 o2 : f2.offset = 2
 c0 : P.cellsOf f0.type = 1
 c1 : P.cellsOf f1.type = 1
 c2 : P.cellsOf f2.type = 1
 u0 : P.underlying f0.type = some .bool
 u1 : P.underlying f1.type = some (.slice e)
 u2 : P.underlying f2.type = some (.slice e)
 he : P.underlying e = some (.int .u32)
 hc : P.cellsOf e = 1
 hb : P.bytesOf e = 4

theorem num_len {t e : TypeId} {fuel : Nat} {cs : List Value} {x : DataW H × List MemPlace} (hu : P.underlying t = some (.slice e)) (he : P.underlying e = some (.int .u32)) (hc : P.cellsOf e = 1) (hb : P.bytesOf e = 4) {B : Nat}
  (h : DataW.trod enc P w base spare held fuel t cs = some x) (hw : ∀ n ∈ x.1.weights P t,n ≤ B) : ∃ l : List Int,Rd w (Im0 w) (.sl 1 (l.map (.int .u32)) .no) cs ∧ l.length * 4 ≤ B:=by
 rcases DataW.trod_slice hu h with ⟨rfl,_⟩ | ⟨a,len,cap,elems,rest,m,_,rfl,rfl,_,hlc,hcm,hel,hat,_,_⟩
 ·exact ⟨[],by simp only [Rd,List.map_nil]; exact ⟨by simp [maxL],.inl ⟨trivial,trivial⟩⟩,by simp⟩
 ·rw [hc] at hat
  obtain ⟨l,hll,hq,hsp,hR⟩:=trod_elems (by omega) (fun A=>∃ n : Int,A = .int .u32 n) hel hat (fun cs x _ hx=>by
   obtain ⟨n,rfl,_,hw⟩:=DataW.trod_int he hx
   exact ⟨.int .u32 n,⟨n,rfl⟩,by simp only [Rd]; exact ⟨trivial,wf_InR hw⟩⟩)
  have hwl:=hw ((elems.length + rest.length) * 4) (by simp [DataW.weights,hu,hb])
  obtain ⟨l,rfl⟩:=list_of hq
  refine ⟨l,?_,?_⟩
  ·simp only [Rd]
   subst hll
   exact ⟨Nat.le_trans hlc hcm,.inr ⟨a,cap,rfl,hlc,hcm,hsp,hR⟩⟩
  ·rw [List.length_map] at hll
   omega

theorem rat_len {t : TypeId} (T : RatT P t) {fuel : Nat} {cs : List Value} {x : DataW H × List MemPlace} {B : Nat} (h : DataW.trod enc P w base spare held fuel t cs = some x) (hw : ∀ n ∈ x.1.weights P t,n ≤ B) :
  ∃ r : Rat,Rd w (Im0 w) r.av cs ∧ r.num.length * 4 ≤ B ∧ r.den.length * 4 ≤ B:=by
 obtain ⟨f0,f1,f2,e,hu,c3,o0,o1,o2,c0,c1,c2,u0,u1,u2,he,hc,hb⟩:=T
 obtain ⟨xs,n,rfl,hxd,hl,hxl,hf⟩:=DataW.trod_struct hu h
 have hsz : xs.length = 3:=hxl
 obtain ⟨y0,y1,y2,rfl⟩ : ∃ y0 y1 y2,xs = [y0,y1,y2]:=by
  match xs,hsz with
  | [a,b,c],_=>exact ⟨a,b,c,rfl⟩
 obtain ⟨a,b,c,rfl⟩:=take1 (by rw [hl]; exact c3)
 have t0:=hf 0 f0 rfl
 have t1:=hf 1 f1 rfl
 have t2:=hf 2 f2 rfl
 rw [o0,c0] at t0
 rw [o1,c1] at t1
 rw [o2,c2] at t2
 simp only [List.drop_zero,List.take_succ_cons,List.take_zero,List.drop_succ_cons,List.getElem?_cons_zero,List.getElem?_cons_succ] at t0 t1 t2
 obtain ⟨v,hv,_⟩:=DataW.trod_bool u0 t0
 obtain rfl : a = _:=(List.cons.inj hv).1
 subst hxd
 have hwe : ∀ (j : Nat) (f : Field) (y : DataW H × List MemPlace),[f0,f1,f2][j]? = some f → [y0,y1,y2][j]? = some y → ∀ n ∈ y.1.weights P f.type,n ≤ B:=fun j f y hj hy n hn=>hw n (by
  simp only [DataW.weights,hu]
  exact DataW.weights_mem_each (j:=j) (t:=f.type) (d:=y.1) (by rw [List.getElem?_map]; simp [hj]) (by rw [List.getElem?_map,hy]; rfl) n hn)
 obtain ⟨p,r1,b1⟩:=num_len u1 he hc hb t1 (hwe 1 f1 y1 rfl rfl)
 obtain ⟨q,r2,b2⟩:=num_len u2 he hc hb t2 (hwe 2 f2 y2 rfl rfl)
 refine ⟨⟨v,p,q⟩,?_,b1,b2⟩
 simp only [Rd,RdL]
 refine ⟨[.bool v],[b,c],rfl,rfl,[b],[c],rfl,?_,[c],[],rfl,?_,rfl⟩
 ·simpa only [Rd] using r1
 ·simpa only [Rd] using r2

theorem EV_rats {r : Reach} {b0 : Nat} {t e : TypeId} {v : Value} {d : DataW H} {ps : List MemPlace} (hu : P.underlying t = some (.slice e)) (T : RatT P e) (hval : Value.okWide P w r b0 t v) (h : DataW.Trod enc P w base spare held t v d ps) (hw : ∀ n ∈ d.weights P t,n ≤ reachBytes) :
  ∃ p : List Rat,LensR p ∧ EV (cx0 w) (.sl 3 (p.map Rat.av) .no) v:=by
 obtain ⟨fuel,hf⟩:=h
 have hne : ∀ A,Rd w (Im0 w) A v.cells.toList → isAg A = false → EV (cx0 w) A v:=fun A hR hA=>by
  refine EV_VV (VV_of_Rd ⟨fun hn=>absurd (hA.symm.trans hn) (by simp),fun _=>?_⟩ hR)
  unfold Value.okWide at hval
  simp only [hu,Cell.okWide,Cell.ok] at hval
  cases v <;> first | rfl | simp at hval
 rcases DataW.trod_slice hu hf with ⟨hv,_⟩ | ⟨a,len,cap,elems,rest,m,_,hv,hx,_,hlc,hcm,hel,hat,_,_⟩
 ·refine ⟨[],fun x hx=>by simp at hx,hne _ ?_ rfl⟩
  rw [hv]
  simp only [Rd,List.map_nil]; exact ⟨by simp [maxL],.inl ⟨trivial,trivial⟩⟩
 ·rw [T.c3] at hat
  have hd : d = .slice (elems.map (·.1)) (rest.map (·.1)):=congrArg Prod.fst hx
  obtain ⟨l,hll,hq,hsp,hR⟩:=trod_elems (by omega) (fun A=>∃ r : Rat,(r.num.length * 4 ≤ reachBytes ∧ r.den.length * 4 ≤ reachBytes) ∧ A = r.av) hel hat (fun cs x hxm hx=>by
   obtain ⟨r,g1,g2⟩:=rat_len T (B:=reachBytes) hx fun n hn=>hw n (by
    rw [hd]
    simp only [DataW.weights,hu,List.mem_cons,List.mem_append]
    exact .inr (.inl (w_all hn (List.mem_map.2 ⟨x,hxm,rfl⟩))))
   exact ⟨r.av,⟨r,g2,rfl⟩,g1⟩)
  obtain ⟨p,rfl⟩ : ∃ p : List {r : Rat // r.num.length * 4 ≤ reachBytes ∧ r.den.length * 4 ≤ reachBytes},l = p.map fun r=>r.1.av:=list_of fun A hA=>by
   obtain ⟨r,h1,h2⟩:=hq A hA
   exact ⟨⟨r,h1⟩,h2⟩
  refine ⟨p.map (·.1),fun x hx=>?_,hne _ ?_ rfl⟩
  ·obtain ⟨y,_,rfl⟩:=List.mem_map.1 hx
   have:=y.2
   have e : reachBytes = 140737488351232:=rfl
   omega
  ·rw [hv,List.map_map]
   simp only [Rd]
   subst hll
   exact ⟨Nat.le_trans hlc hcm,.inr ⟨a,cap,rfl,hlc,hcm,hsp,hR⟩⟩
end
theorem one : OneC:=r_of

theorem sl_of {α : Type} {f : α → AV} {sh : Sh} {sz : Nat} {A : AV} (hf : ∀ x,sh.In x → ∃ y,x = f y) (h : (Sh.sl sz sh).In A) : ∃ l : List α,A = .sl sz (l.map f) .no:=by
 unfold Sh.In at h
 obtain ⟨l,rfl,hl⟩:=h
 obtain ⟨m,rfl⟩:=list_of fun x hx=>hf x (hl x hx)
 exact ⟨m,rfl⟩

structure Ak where
 page : Int
 inp : Str
 old : Str
 new : Str


abbrev shNd : Sh:=.st [.int .i64,.int .i64,.sl 1 (.int .i64)]
abbrev shFo : Sh:=.st [.int .i64,.sl 3 shNd,.int .i64]

theorem Nd.of {A : AV} (h : shNd.In A) : ∃ x : Nd,A = x.av:=by
 unfold Sh.In at h
 simp only [InL] at h
 obtain ⟨_,rfl,_,_,rfl,h0,_,_,rfl,h1,_,_,rfl,h2,rfl⟩:=h
 obtain ⟨a,rfl⟩:=int_of h0
 obtain ⟨b,rfl⟩:=int_of h1
 obtain ⟨c,rfl⟩:=ints_of h2
 exact ⟨⟨a,b,c⟩,rfl⟩

theorem Fo.of {A : AV} (h : shFo.In A) : ∃ x : Fo,A = x.av:=by
 unfold Sh.In at h
 simp only [InL] at h
 obtain ⟨_,rfl,_,_,rfl,h0,_,_,rfl,h1,_,_,rfl,h2,rfl⟩:=h
 obtain ⟨a,rfl⟩:=int_of h0
 obtain ⟨b,rfl⟩:=sl_of (f:=Nd.av) (fun _ hx=>Nd.of hx) h1
 obtain ⟨c,rfl⟩:=int_of h2
 exact ⟨⟨a,b,c⟩,rfl⟩
end S
