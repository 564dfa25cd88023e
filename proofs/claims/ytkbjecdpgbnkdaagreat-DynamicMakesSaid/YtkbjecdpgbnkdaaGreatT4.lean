/-
  Contracts of functions of the program, over the logic of the texts before. Nothing is assumed.
-/
import Derived.Test.YtkbjecdpgbnkdaaGreatT3

open Go Go.AL Go.Proofs
namespace S
set_option maxRecDepth 100000

def mid (us : List Int) (off : Nat) (s : List Int) : List Int:=us.take off ++ (s ++ us.drop (off + s.length))

theorem mid_len {us s : List Int} {off : Nat} (h : off + s.length ≤ us.length) : (mid us off s).length = us.length:=by
 simp only [mid,List.length_append,List.length_take,List.length_drop]; omega

theorem mid_nil {us : List Int} {off : Nat} : mid us off [] = us:=by simp [mid]

theorem mid_get {us s : List Int} {off : Nat} (h : off + s.length < us.length) : (mid us off s).getD (off + s.length) 0 = us.getD (off + s.length) 0:=by
 simp only [mid,List.getD_eq_getElem?_getD]
 rw [List.getElem?_append_right (by simp; omega),List.getElem?_append_right (by simp; omega),List.getElem?_drop]
 congr 2
 simp only [List.length_take]; omega

theorem mid_set {us s : List Int} {off : Nat} {y : Int} (h : off + s.length < us.length) : (mid us off s).set (off + s.length) y = mid us off (s ++ [y]):=by
 simp only [mid]
 have h1 : (us.take off).length = off:=by simp; omega
 rw [List.set_append_right _ _ (by omega),h1,show off + s.length - off = s.length by omega,List.set_append_right _ _ (by omega),Nat.sub_self,List.drop_eq_getElem_cons h]
 simp only [List.set_cons_zero,List.append_assoc,List.length_append,List.length_singleton]
 rfl

theorem mid_Ws {us s : List Int} {off : Nat} (hu : Ws us) (hs : Ws s) : Ws (mid us off s):=(hu.take _).append (hs.append (hu.drop _))

theorem sub_word {x low b : Nat} (hx : x < 4294967296) (hl : low < 4294967296) (hb : b ≤ 1) :
  ∃ D : Nat,IntKind.wrap .u64 (IntKind.wrap .u64 ((x : Int) - (low : Int)) - (b : Int)) = (D : Int) ∧ D < 18446744073709551616 ∧ D / 9223372036854775808 ≤ 1 ∧ x + 4294967296 * (D / 9223372036854775808) = D % 4294967296 + low + b:=by
 have hw : ∀ z : Int,IntKind.wrap .u64 z = z % 18446744073709551616:=by
  intro z; simp [IntKind.wrap,IntKind.bits,IntKind.signed]
 rw [hw,hw]
 refine ⟨((((x : Int) - (low : Int)) % 18446744073709551616 - (b : Int)) % 18446744073709551616).toNat,?_,?_,?_,?_⟩ <;> omega

theorem shr_63 {a : Nat} : shrR .u64 (a : Int) 63 = ((a / 9223372036854775808 : Nat) : Int):=by
 unfold shrR
 have h1 : min (63 : Int).toNat (IntKind.bits .u64) = 63:=by decide
 rw [h1]
 rw [Int.fdiv_eq_ediv_of_nonneg _ (by decide)]
 simp

theorem take_arith {p B n w x y c c' b b' low vs s nv : Nat} (h1 : x + B * b' = y + low + b) (h2 : c + n * w = low + B * c') (h : vs + p * (b + c) = s + nv) :
  vs + p * x + p * B * (b' + c') = s + p * y + (nv + p * (n * w)):=by
 have e1 : p * (x + B * b') = p * (y + low + b):=by rw [h1]
 have e2 : p * (c + n * w) = p * (low + B * c'):=by rw [h2]
 rw [Nat.mul_add,Nat.mul_add,Nat.mul_add,← Nat.mul_assoc] at e1
 rw [Nat.mul_add,Nat.mul_add p low,← Nat.mul_assoc p B] at e2
 rw [Nat.mul_add] at h
 rw [Nat.mul_add (p * B)]
 omega

theorem val_take_getD {l : List Int} {i : Nat} : val (l.take (i + 1)) = val (l.take i) + 4294967296 ^ i * (l.getD i 0).toNat:=by
 by_cases h : i < l.length
 ·rw [val_take_succ h,getD_lt' h]
 ·rw [List.take_of_length_le (by omega),List.take_of_length_le (by omega),List.getD_eq_getElem?_getD,List.getElem?_eq_none (by omega)]
  simp

theorem carry_step {p B a n w c : Nat} (hp : 0 < p) (h : c = a / p) : (c + n * w) / B = (a + p * (n * w)) / (p * B):=by
 rw [← Nat.div_div_eq_div_mul,Nat.add_mul_div_left _ _ hp,h]

theorem carry_lt {B n v p : Nat} (hn : n ≤ B) (hv : v < p) (hB : 0 < B) : n * v / p < B:=by
 rw [Nat.div_lt_iff_lt_mul (by omega)]
 have h1 : n * v ≤ B * v:=Nat.mul_le_mul_right _ hn
 have h2 : B * v < B * p:=Nat.mul_lt_mul_of_pos_left hv hB
 omega

def takeN (x y k : Nat) : Nat:=if x < y then x + 4294967296 ^ k - y else x - y

theorem c_take (us v : List Int) (off cap n : Nat) (hus : Ws us) (ho : off + v.length + 1 ≤ us.length) (hn : n ≤ 4294967296) (hsz : us.length ≤ 2000000)
  (hlim : n * val v < 4294967296 ^ (v.length + 1)) :
  FnH Tryz.prog 280 [.ms 0 off (v.length + 1) cap 1,wL v,.int .u64 n] [(0,.arr 1 us.length (us.map (.int .u32)))]
   (.dec (val ((us.drop off).take (v.length + 1)) < n * val v))
   [(0,.arr 1 us.length ((mid us off (wdN (v.length + 1) (takeN (val ((us.drop off).take (v.length + 1))) (n * val v) (v.length + 1)))).map (.int .u32)))]:=by
 refine FnH.intro lay mixed Tryz.func280 (by kernel_rfl) rfl (by kernel_rfl) rfl fun hok=>?_
 have hw : Ws v:=Ws.ok hok.2.1.2
 conv=>whnf
 refine LoopE.of <| LoopSpec.inv (.refl _ _) (fun x : Nat × Nat × Nat × List Int × List Int=>x.1 ≤ v.length + 1 ∧ x.2.2.1 ≤ 1 ∧ x.2.1 = n * val (v.take x.1) / 4294967296 ^ x.1 ∧ Ws x.2.2.2.1 ∧ x.2.2.2.1.length = x.1 ∧ x.2.2.2.2 = mid us off x.2.2.2.1 ∧
   val ((us.drop off).take x.1) + 4294967296 ^ x.1 * (x.2.2.1 + x.2.1) = val x.2.2.2.1 + n * val (v.take x.1))
  (fun | (i,c,b,_)=>[(13,.int .i64 i),(8,.int .u64 b),(7,.int .u64 c)]) (fun | (_,_,_,_,M)=>[(0,.arr 1 us.length (M.map (.int .u32)))])
  (fun x=>v.length + 1 - x.1) (0,0,0,[],us) ?_ (fun _=>rfl) ?_ ?_
 ·refine ⟨Nat.zero_le _,by simp,?_,Ws.nil,rfl,?_,?_⟩
  ·simp [val]
  ·simp [mid_nil]
  ·simp [val]
 ·refine ⟨?_,.mk ?_ ⟨by simp,trivial⟩⟩
  ·all_goals exact wk
  ·repeat' first|exact rfl|exact trivial|exact wR|exact lR _|apply aI
   all_goals first | (simp; done) | exact leRL_of (by simp)
 rintro ⟨i,c,b,s,M⟩ ⟨hi,hb,hc,hws,hsl,hM,hv⟩ _
 simp only at hi hb hc hws hsl hM hv
 conv=>whnf
 refine And.intro (fun h=>?_) (fun h=>?_)
 ·have hlt : i < v.length + 1:=by omega
  have hML : M.length = us.length:=by rw [hM,mid_len (by omega)]
  conv=>whnf
  refine .gen _ _ (FnH.frame [] (c_word v i) ⟨rfl,rfl,rfl,rfl⟩ trivial (leL_refl _)) fun _=>?_
  have hwd:=hw.getD (i:=i)
  have hvt:=val_take_getD (l:=v) (i:=i)
  generalize v.getD i 0 = w0 at *
  obtain ⟨w,rfl⟩ : ∃ w : Nat,w0 = w:=⟨w0.toNat,by omega⟩
  rw [Int.toNat_natCast] at hvt
  have hlow : val (v.take i) < 4294967296 ^ i:=by
   have h1:=val_lt (hw.take i)
   have h2 : 4294967296 ^ (v.take i).length ≤ 4294967296 ^ i:=Nat.pow_le_pow_right (by omega) (by simp; omega)
   omega
  have hcl : c < 4294967296:=by rw [hc]; exact carry_lt hn hlow (by omega)
  have hnw : n * w ≤ 4294967296 * 4294967295:=Nat.mul_le_mul hn (by omega)
  have hi2 : off + i < M.length:=by omega
  have hg : M.getD (off + i) 0 = us.getD (off + i) 0:=by rw [hM,← hsl]; exact mid_get (by omega)
  have hx:=hus.getD (i:=off + i)
  have hut:=val_take_getD (l:=us.drop off) (i:=i)
  rw [show (us.drop off).getD i 0 = us.getD (off + i) 0 by simp only [List.getD_eq_getElem?_getD,List.getElem?_drop]] at hut
  generalize us.getD (off + i) 0 = x0 at *
  obtain ⟨x,rfl⟩ : ∃ x : Nat,x0 = x:=⟨x0.toNat,by omega⟩
  rw [Int.toNat_natCast] at hut
  conv=>whnf
  rw [show ((n : Int) * (w : Int)) = ((n * w : Nat) : Int) from (Int.natCast_mul n w).symm,wrap_u64 (n:=((n * w : Nat) : Int)) (by omega) (by omega)]
  rw [show ((c : Int) + ((n * w : Nat) : Int)) = ((c + n * w : Nat) : Int) from (Int.natCast_add c (n * w)).symm,wrap_u64 (n:=((c + n * w : Nat) : Int)) (by omega) (by omega)]
  generalize hC : c + n * w = C at *
  conv=>whnf
  refine ⟨⟨Int.natCast_nonneg _,Int.ofNat_lt.2 hlt⟩,?_⟩
  conv=>whnf
  refine aidxN' 0 (i:=off + i) (by omega) hi2 ?_
  rw [hg]
  refine ⟨rfl,?_⟩
  conv=>whnf
  rw [wrapu32_mod (a:=C),wrap_u64 (n:=(x : Int)) (by omega) (by omega)]
  have hCd:=Nat.mod_add_div C 4294967296
  have hlo : C % 4294967296 < 4294967296:=Nat.mod_lt _ (by decide)
  generalize C % 4294967296 = lo at *
  rw [wrap_u64 (n:=(lo : Int)) (by omega) (by omega)]
  obtain ⟨D,hD,hD1,hD2,hD3⟩:=sub_word (x:=x) (low:=lo) (b:=b) (by omega) (by omega) hb
  rw [hD,wrapu32_mod (a:=D)]
  have hy : D % 4294967296 < 4294967296:=Nat.mod_lt _ (by decide)
  generalize D % 4294967296 = y at *
  refine ⟨⟨Int.natCast_nonneg _,Int.ofNat_lt.2 hlt⟩,?_⟩
  dsimp only [putE]
  rw [aops]
  dsimp only [guardC]
  dsimp only [aopW,aop]
  conv=>whnf
  refine ⟨by rw [List.length_map]; omega,rfl,?_⟩
  conv=>whnf
  refine ⟨by decide,?_⟩
  rw [shr_63]
  conv=>whnf
  refine ⟨by decide,?_⟩
  rw [shr_word rfl]
  conv=>whnf
  refine zA ?_;conv=>whnf
  refine ⟨(i + 1,C / 4294967296,D / 9223372036854775808,s ++ [(y : Int)],M.set (off + i) (y : Int)),?_,?_,?_⟩
  ·refine ⟨hlt,hD2,?_,hws.append (Ws.cons (by omega) Ws.nil),by simp [hsl],?_,?_⟩
   ·show C / 4294967296 = n * val (v.take (i + 1)) / 4294967296 ^ (i + 1)
    rw [hvt,Nat.mul_add,Nat.mul_left_comm n,Nat.pow_succ,← hC]
    exact carry_step (Nat.pow_pos (by omega)) hc
   ·show M.set (off + i) (y : Int) = mid us off (s ++ [(y : Int)])
    rw [hM,← hsl]
    exact mid_set (by omega)
   ·show val ((us.drop off).take (i + 1)) + 4294967296 ^ (i + 1) * (D / 9223372036854775808 + C / 4294967296) = val (s ++ [(y : Int)]) + n * val (v.take (i + 1))
    have e1 : val (s ++ [(y : Int)]) = val s + 4294967296 ^ i * y:=by rw [val_append,hsl]; simp [val]
    rw [hut,hvt,e1,Nat.mul_add n,Nat.mul_left_comm n,Nat.pow_succ]
    exact take_arith hD3 (by omega) hv
  ·refine ⟨?_,.mk ?_ ⟨by simp,trivial⟩⟩
   ·all_goals exact wk
   ·repeat' first|exact rfl|exact trivial|exact wR|exact lR _|apply aI
    refine leRL_of ?_
    rw [List.map_set]
    simp [strip]
  ·show v.length + 1 - (i + 1) < v.length + 1 - i
   omega
 ·have hia : i = v.length + 1:=by omega
  subst hia
  rw [List.take_of_length_le (l:=v) (by omega)] at hc hv
  rw [Nat.div_eq_of_lt hlim] at hc
  subst hc
  have hsg:=val_lt ((hus.drop off).take (v.length + 1))
  rw [List.length_take,List.length_drop,Nat.min_eq_left (by omega)] at hsg
  have hvs:=val_lt hws
  rw [hsl] at hvs
  have hfin : (((b : Int) = 1) = (val ((us.drop off).take (v.length + 1)) < n * val v)) ∧ val s = takeN (val ((us.drop off).take (v.length + 1))) (n * val v) (v.length + 1):=by
   unfold takeN
   generalize val ((us.drop off).take (v.length + 1)) = sg at *
   generalize 4294967296 ^ (v.length + 1) = P at *
   generalize n * val v = nv at *
   have hb2 : b = 0 ∨ b = 1:=by omega
   rcases hb2 with rfl | rfl
   ·rw [Nat.add_zero,Nat.mul_zero] at hv
    refine ⟨?_,?_⟩
    ·exact propext ⟨fun h=>by omega,fun h=>by omega⟩
    ·split <;> omega
   ·rw [Nat.add_zero,Nat.mul_one] at hv
    refine ⟨?_,?_⟩
    ·exact propext ⟨fun h=>by omega,fun h=>by omega⟩
    ·split <;> omega
  have hse:=wdN_eq hws hsl hfin.2
  conv=>whnf
  refine ⟨⟨_,_,.refl _ _,?_⟩⟩
  conv=>whnf
  refine ⟨?_,rfl,by simp [nextId],.mk ?_ ⟨by simp,trivial⟩⟩
  ·rw [hfin.1]
   exact le_refl _
  ·repeat' first|exact rfl|exact trivial|exact wR|exact lR _|apply aI
   refine leRL_of ?_
   rw [hM,hse]

theorem give_arith {p B c c' x w y vs s nv : Nat} (h1 : c + (x + w) = y + B * c') (h : vs + nv = s + p * c) :
  vs + p * x + (nv + p * w) = s + p * y + p * B * c':=by
 have e1 : p * (c + (x + w)) = p * (y + B * c'):=by rw [h1]
 rw [Nat.mul_add,Nat.mul_add,Nat.mul_add,← Nat.mul_assoc] at e1
 omega

theorem c_give (us v : List Int) (off cap : Nat) (hus : Ws us) (ho : off + v.length + 1 ≤ us.length) (hsz : us.length ≤ 2000000) :
  FnH Tryz.prog 281 [.ms 0 off (v.length + 1) cap 1,wL v] [(0,.arr 1 us.length (us.map (.int .u32)))]
   (.tup [])
   [(0,.arr 1 us.length ((mid us off (wdN (v.length + 1) ((val ((us.drop off).take (v.length + 1)) + val v) % 4294967296 ^ (v.length + 1)))).map (.int .u32)))]:=by
 refine FnH.intro lay mixed Tryz.func281 (by kernel_rfl) rfl (by kernel_rfl) rfl fun hok=>?_
 have hw : Ws v:=Ws.ok hok.2.1.2
 conv=>whnf
 refine LoopE.of <| LoopSpec.inv (.refl _ _) (fun x : Nat × Nat × List Int × List Int=>x.1 ≤ v.length + 1 ∧ x.2.1 ≤ 1 ∧ Ws x.2.2.1 ∧ x.2.2.1.length = x.1 ∧ x.2.2.2 = mid us off x.2.2.1 ∧
   val ((us.drop off).take x.1) + val (v.take x.1) = val x.2.2.1 + 4294967296 ^ x.1 * x.2.1)
  (fun | (i,c,_)=>[(8,.int .i64 i),(4,.int .u64 c)]) (fun | (_,_,_,M)=>[(0,.arr 1 us.length (M.map (.int .u32)))])
  (fun x=>v.length + 1 - x.1) (0,0,[],us) ?_ (fun _=>rfl) ?_ ?_
 ·refine ⟨Nat.zero_le _,by simp,Ws.nil,rfl,?_,?_⟩
  ·simp [mid_nil]
  ·simp [val]
 ·refine ⟨?_,.mk ?_ ⟨by simp,trivial⟩⟩
  ·all_goals exact wk
  ·repeat' first|exact rfl|exact trivial|exact wR|exact lR _|apply aI
   all_goals first | (simp; done) | exact leRL_of (by simp)
 rintro ⟨i,c,s,M⟩ ⟨hi,hb,hws,hsl,hM,hv⟩ _
 simp only at hi hb hws hsl hM hv
 conv=>whnf
 refine And.intro (fun h=>?_) (fun h=>?_)
 ·have hlt : i < v.length + 1:=by omega
  have hML : M.length = us.length:=by rw [hM,mid_len (by omega)]
  have hwd:=hw.getD (i:=i)
  have hvt:=val_take_getD (l:=v) (i:=i)
  have cw:=c_word v i
  generalize v.getD i 0 = w0 at *
  obtain ⟨w,rfl⟩ : ∃ w : Nat,w0 = w:=⟨w0.toNat,by omega⟩
  rw [Int.toNat_natCast] at hvt
  have hi2 : off + i < M.length:=by omega
  have hg : M.getD (off + i) 0 = us.getD (off + i) 0:=by rw [hM,← hsl]; exact mid_get (by omega)
  have hx:=hus.getD (i:=off + i)
  have hut:=val_take_getD (l:=us.drop off) (i:=i)
  rw [show (us.drop off).getD i 0 = us.getD (off + i) 0 by simp only [List.getD_eq_getElem?_getD,List.getElem?_drop]] at hut
  generalize us.getD (off + i) 0 = x0 at *
  obtain ⟨x,rfl⟩ : ∃ x : Nat,x0 = x:=⟨x0.toNat,by omega⟩
  rw [Int.toNat_natCast] at hut
  conv=>whnf
  refine ADraw.auto (by kernel_rfl) ?_;conv=>whnf
  refine ⟨⟨Int.natCast_nonneg _,Int.ofNat_lt.2 hlt⟩,?_⟩
  conv=>whnf
  refine aidxN' 0 (i:=off + i) (by omega) hi2 ?_
  rw [hg]
  refine ⟨rfl,?_⟩
  conv=>whnf
  refine ACallP.pure _ _ ?_ ⟨rfl,rfl⟩ cw ?_
  ·exact leL_refl _
  conv=>whnf
  rw [wrap_u64 (n:=(x : Int)) (by omega) (by omega)]
  rw [show ((x : Int) + (w : Int)) = ((x + w : Nat) : Int) from (Int.natCast_add x w).symm,wrap_u64 (n:=((x + w : Nat) : Int)) (by omega) (by omega)]
  rw [show ((c : Int) + ((x + w : Nat) : Int)) = ((c + (x + w) : Nat) : Int) from (Int.natCast_add c (x + w)).symm,wrap_u64 (n:=((c + (x + w) : Nat) : Int)) (by omega) (by omega)]
  generalize hC : c + (x + w) = C at *
  conv=>whnf
  rw [wrapu32_mod (a:=C)]
  have hCd:=Nat.mod_add_div C 4294967296
  have hlo : C % 4294967296 < 4294967296:=Nat.mod_lt _ (by decide)
  generalize C % 4294967296 = y at *
  refine ⟨⟨Int.natCast_nonneg _,Int.ofNat_lt.2 hlt⟩,?_⟩
  dsimp only [putE]
  rw [aops]
  dsimp only [guardC]
  dsimp only [aopW,aop]
  conv=>whnf
  refine ⟨by rw [List.length_map]; omega,rfl,?_⟩
  conv=>whnf
  refine ⟨by decide,?_⟩
  rw [shr_word rfl]
  conv=>whnf
  refine zA ?_;conv=>whnf
  refine ⟨(i + 1,C / 4294967296,s ++ [(y : Int)],M.set (off + i) (y : Int)),?_,?_,?_⟩
  ·refine ⟨hlt,(by omega : C / 4294967296 ≤ 1),hws.append (Ws.cons (by omega) Ws.nil),by simp [hsl],?_,?_⟩
   ·show M.set (off + i) (y : Int) = mid us off (s ++ [(y : Int)])
    rw [hM,← hsl]
    exact mid_set (by omega)
   ·show val ((us.drop off).take (i + 1)) + val (v.take (i + 1)) = val (s ++ [(y : Int)]) + 4294967296 ^ (i + 1) * (C / 4294967296)
    have e1 : val (s ++ [(y : Int)]) = val s + 4294967296 ^ i * y:=by rw [val_append,hsl]; simp [val]
    rw [hut,hvt,e1,Nat.pow_succ]
    exact give_arith (by omega) hv
  ·refine ⟨?_,.mk ?_ ⟨by simp,trivial⟩⟩
   ·all_goals exact wk
   ·repeat' first|exact rfl|exact trivial|exact wR|exact lR _|apply aI
    refine leRL_of ?_
    rw [List.map_set]
    simp [strip]
  ·show v.length + 1 - (i + 1) < v.length + 1 - i
   omega
 ·have hia : i = v.length + 1:=by omega
  subst hia
  rw [List.take_of_length_le (l:=v) (by omega)] at hv
  have hvs:=val_lt hws
  rw [hsl] at hvs
  have hfin : val s = (val ((us.drop off).take (v.length + 1)) + val v) % 4294967296 ^ (v.length + 1):=by
   rw [hv,Nat.add_mul_mod_self_left,Nat.mod_eq_of_lt hvs]
  have hse:=wdN_eq hws hsl hfin
  conv=>whnf
  refine ⟨⟨_,_,.refl _ _,?_⟩⟩
  conv=>whnf
  refine ⟨trivial,rfl,by simp [nextId],.mk ?_ ⟨by simp,trivial⟩⟩
  repeat' first|exact rfl|exact trivial|exact wR|exact lR _|apply aI
  refine leRL_of ?_
  rw [hM,hse]

theorem guess_gt {B p V s top next head u2 guess rest : Nat} (hV : (top * B + next) * p ≤ V) (hs : s < (head * B + u2 + 1) * p)
  (hg : guess * top + rest = head) (hc : rest * B + u2 < guess * next) : s / V < guess:=by
 apply Classical.byContradiction
 intro hn
 have h1 : guess * V ≤ s:=by
  have : guess * V ≤ (s / V) * V:=Nat.mul_le_mul_right _ (by omega)
  exact Nat.le_trans this (Nat.div_mul_le_self s V)
 have h2 : guess * ((top * B + next) * p) < (head * B + u2 + 1) * p:=Nat.lt_of_le_of_lt (Nat.le_trans (Nat.mul_le_mul_left _ hV) h1) hs
 rw [← Nat.mul_assoc] at h2
 have h3:=Nat.lt_of_mul_lt_mul_right h2
 have h4 : guess * (top * B + next) = guess * top * B + guess * next:=by rw [Nat.mul_add,Nat.mul_assoc]
 have h5 : head * B = guess * top * B + rest * B:=by rw [← hg,Nat.add_mul]
 omega

theorem guess_ge {p V s top head : Nat} (ht : 0 < top) (hV : top * p ≤ V) (hs : s < (head + 1) * p) : s / V ≤ head / top:=by
 rw [Nat.le_div_iff_mul_le ht]
 apply Classical.byContradiction
 intro hn
 have h1 : (head + 1) * p ≤ s / V * top * p:=Nat.mul_le_mul_right _ (by omega)
 have h2 : s / V * top * p ≤ s / V * V:=by rw [Nat.mul_assoc]; exact Nat.mul_le_mul_left _ hV
 have h3:=Nat.div_mul_le_self s V
 omega

theorem guess_le {B p V s top next head u2 guess rest : Nat} (hB : 0 < B) (hp : 0 < p) (ht : 0 < top) (hV1 : (top * B + next) * p ≤ V) (hV : V < (top * B + next + 1) * p) (hs : (head * B + u2) * p ≤ s)
  (hg : guess * top + rest = head) (hc : guess * next ≤ rest * B + u2) (hgB : guess < B) : guess ≤ s / V + 1:=by
 have hV0 : 0 < V:=by
  have : 0 < (top * B + next) * p:=Nat.mul_pos (by have:=Nat.mul_pos ht hB; omega) hp
  omega
 have h1 : guess * (top * B + next) ≤ head * B + u2:=by
  have h4 : guess * (top * B + next) = guess * top * B + guess * next:=by rw [Nat.mul_add,Nat.mul_assoc]
  have h5 : head * B = guess * top * B + rest * B:=by rw [← hg,Nat.add_mul]
  omega
 have h2 : guess * (top * B + next) * p ≤ s:=Nat.le_trans (Nat.mul_le_mul_right _ h1) hs
 have h3 : guess * V ≤ guess * ((top * B + next + 1) * p):=Nat.mul_le_mul_left _ (by omega)
 have h4 : guess * ((top * B + next + 1) * p) = guess * (top * B + next) * p + guess * p:=by
  rw [← Nat.mul_assoc,Nat.mul_add guess _ 1,Nat.mul_one,Nat.add_mul]
 have h5 : guess * p < V:=by
  have h6 : guess * p < B * p:=Nat.mul_lt_mul_of_pos_right hgB hp
  have h7 : B * p ≤ (top * B + next) * p:=Nat.mul_le_mul_right _ (by have:=Nat.le_mul_of_pos_left B ht; omega)
  omega
 have h6 : guess * V < s + V:=by omega
 have h8 : guess < s / V + 1 + 1:=by
  have h9:=Nat.lt_div_mul_add (a:=s) hV0
  have h10 : guess * V < (s / V + 1 + 1) * V:=by
   rw [Nat.add_mul,Nat.add_mul,Nat.one_mul]; omega
  exact Nat.lt_of_mul_lt_mul_right h10
 omega

theorem guess_small {B top head guess rest : Nat} (hg : guess * top + rest = head) (hh : head < (top + 1) * B) (hr : B ≤ rest) : guess < B:=by
 have h1 : guess * top < top * B:=by rw [Nat.add_mul,Nat.one_mul] at hh; omega
 rw [Nat.mul_comm top] at h1
 exact Nat.lt_of_mul_lt_mul_right h1

theorem take_fix {V s g q : Nat} (hV : 0 < V) (hq : q = s / V) (h1 : q ≤ g) (h2 : g ≤ q + 1) : (s < g * V) = (g = q + 1):=by
 subst hq
 have h3:=Nat.div_mul_le_self s V
 have h4:=Nat.lt_div_mul_add (a:=s) hV
 refine propext ⟨fun h=>?_,fun h=>?_⟩
 ·apply Classical.byContradiction
  intro hn
  have : g = s / V:=by omega
  rw [this] at h; omega
 ·rw [h,Nat.add_mul,Nat.one_mul]; omega

theorem take_rest {V s q k : Nat} (hq : q = s / V) : takeN s (q * V) k = s % V:=by
 subst hq
 have h3:=Nat.div_mul_le_self s V
 have h4:=Nat.div_add_mod s V
 rw [Nat.mul_comm] at h4
 unfold takeN
 rw [if_neg (by omega)]
 omega

theorem give_rest {V s q k : Nat} (hV : 0 < V) (hq : q = s / V) (hs : V < 4294967296 ^ k) : (takeN s ((q + 1) * V) k + V) % 4294967296 ^ k = s % V:=by
 subst hq
 have h3:=Nat.div_mul_le_self s V
 have h4:=Nat.div_add_mod s V
 have h5:=Nat.lt_div_mul_add (a:=s) hV
 rw [Nat.mul_comm] at h4
 have hm:=Nat.mod_lt s hV
 unfold takeN
 rw [Nat.add_mul,Nat.one_mul,if_pos (by omega)]
 generalize s / V * V = x at *
 generalize s % V = r at *
 generalize 4294967296 ^ k = P at *
 rw [show s + P - (x + V) + V = r + P by omega,Nat.add_mod_right,Nat.mod_eq_of_lt (by omega)]

theorem mid_drop {us s : List Int} {off : Nat} (h : off + s.length ≤ us.length) : (mid us off s).drop off = s ++ us.drop (off + s.length):=by
 simp only [mid]
 rw [List.drop_append_of_le_length (by simp; omega),List.drop_eq_nil_of_le (by simp; omega),List.nil_append]

theorem mid_val {us s : List Int} {off : Nat} (h : off + s.length ≤ us.length) :
  val (mid us off s) + 4294967296 ^ off * val ((us.drop off).take s.length) = val us + 4294967296 ^ off * val s:=by
 have e1 : val us = val (us.take off) + 4294967296 ^ off * val (us.drop off):=val_take_drop off (by omega)
 have e2 : val (us.drop off) = val ((us.drop off).take s.length) + 4294967296 ^ s.length * val ((us.drop off).drop s.length):=val_take_drop s.length (by simp; omega)
 have e3 : val (mid us off s) = val (us.take off) + 4294967296 ^ off * (val s + 4294967296 ^ s.length * val ((us.drop off).drop s.length)):=by
  simp only [mid]
  rw [val_append,val_append,List.drop_drop,List.length_take,Nat.min_eq_left (by omega)]
 rw [e3,e1,e2,Nat.mul_add,Nat.mul_add]
 omega

theorem val_three {l : List Int} {n : Nat} (hl : l.length = n + 3) : val l = val (l.take n) + 4294967296 ^ n * ((l.getD n 0).toNat + 4294967296 * ((l.getD (n + 1) 0).toNat + 4294967296 * (l.getD (n + 2) 0).toNat)):=by
 rw [val_take_drop n (by omega),val_hd l n,val_hd l (n + 1),val_hd l (n + 1 + 1),List.drop_eq_nil_of_le (by omega : l.length ≤ n + 1 + 1 + 1)]
 rfl

theorem val_two {l : List Int} {n : Nat} (hl : l.length = n + 2) : val l = val (l.take n) + 4294967296 ^ n * ((l.getD n 0).toNat + 4294967296 * (l.getD (n + 1) 0).toNat):=by
 rw [val_take_drop n (by omega),val_hd l n,val_hd l (n + 1),List.drop_eq_nil_of_le (by omega : l.length ≤ n + 1 + 1)]
 rfl

theorem take_lt {l : List Int} (hw : Ws l) (n : Nat) : val (l.take n) < 4294967296 ^ n:=by
 have h1:=val_lt (hw.take n)
 have h2 : 4294967296 ^ (l.take n).length ≤ 4294967296 ^ n:=Nat.pow_le_pow_right (by omega) (by simp; omega)
 omega

theorem between {r p x : Nat} (h : r < p) : x * p ≤ r + p * x ∧ r + p * x < (x + 1) * p:=by
 rw [Nat.mul_comm x p,Nat.add_mul,Nat.one_mul,Nat.mul_comm x p]; omega

structure DivInv (U V n L : Nat) (j : Nat) (M Q : List Int) : Prop where
 jle : j ≤ L - n
 wm : Ws M
 lm : M.length = L
 wq : Ws Q
 lq : Q.length = L - n
 lt : val (M.drop j) < V
 eq : val M + V * val Q = U
 z : ∀ k,k < j → Q.getD k 0 = 0

theorem DivInv.seg {U V n L j : Nat} {M Q : List Int} (h : DivInv U V n L (j + 1) M Q) (hn : n ≤ L) (hV : V < 4294967296 ^ n) :
  val ((M.drop j).take (n + 1)) = val (M.drop j) ∧ val (M.drop j) < 4294967296 * V ∧ val (M.drop (j + (n + 1))) = 0:=by
 have h1:=val_hd M j
 have h2:=h.wm.getD (i:=j)
 have h3:=h.lt
 have hj:=h.jle
 have hlt : val (M.drop j) < 4294967296 * V:=by omega
 have h4 : val (M.drop j) < 4294967296 ^ (n + 1):=by
  rw [Nat.pow_succ]
  have : V * 4294967296 < 4294967296 ^ n * 4294967296:=Nat.mul_lt_mul_of_pos_right hV (by omega)
  omega
 have h5:=val_take_drop (l:=M.drop j) (n + 1) (by rw [List.length_drop,h.lm]; omega)
 rw [List.drop_drop] at h5
 have h6 : val (M.drop (j + (n + 1))) = 0:=by
  apply Classical.byContradiction
  intro hne
  have : 4294967296 ^ (n + 1) * 1 ≤ 4294967296 ^ (n + 1) * val (M.drop (j + (n + 1))):=Nat.mul_le_mul_left _ (by omega)
  omega
 rw [h6,Nat.mul_zero,Nat.add_zero] at h5
 exact ⟨h5.symm,hlt,h6⟩

theorem DivInv.step {U V n L j : Nat} {M Q : List Int} (h : DivInv U V n L (j + 1) M Q) (hn : n ≤ L) (hV0 : 0 < V) (hV : V < 4294967296 ^ n) :
  DivInv U V n L j (mid M j (wdN (n + 1) (val (M.drop j) % V))) (Q.set j ((val (M.drop j) / V : Nat) : Int)):=by
 obtain ⟨h1,h2,h3⟩:=h.seg hn hV
 have hj:=h.jle
 have hq : val (M.drop j) / V < 4294967296:=by rw [Nat.div_lt_iff_lt_mul hV0]; omega
 have hr : val (M.drop j) % V < V:=Nat.mod_lt _ hV0
 have hdm:=Nat.div_add_mod (val (M.drop j)) V
 generalize hs : val (M.drop j) = s at *
 generalize s / V = q at *
 generalize s % V = r at *
 have hwl : (wdN (n + 1) r).length = n + 1:=wdN_len _ _
 have hwv : val (wdN (n + 1) r) = r:=val_wdN (by rw [Nat.pow_succ]; omega)
 have hml : j + (wdN (n + 1) r).length ≤ M.length:=by rw [hwl,h.lm]; omega
 have hjq : j < Q.length:=by rw [h.lq]; omega
 refine ⟨by omega,mid_Ws h.wm (wdN_Ws _ _),by rw [mid_len hml,h.lm],h.wq.set (by omega),by simpa using h.lq,?_,?_,?_⟩
 ·rw [mid_drop hml,val_append,hwv,hwl,h3,Nat.mul_zero]; omega
 ·have e1:=mid_val hml
  rw [hwl,h1,hwv] at e1
  have e2:=val_set (x:=(q : Int)) hjq
  have e3:=h.z j (by omega)
  rw [getD_lt' hjq] at e3
  rw [e3] at e2
  have e4:=h.eq
  have e5 : V * val (Q.set j (q : Int)) = V * val Q + 4294967296 ^ j * (V * q):=by
   have : val (Q.set j (q : Int)) = val Q + 4294967296 ^ j * q:=by simpa using e2
   rw [this,Nat.mul_add,Nat.mul_left_comm]
  rw [e5]
  have e6 : 4294967296 ^ j * s = 4294967296 ^ j * (V * q) + 4294967296 ^ j * r:=by rw [← Nat.mul_add,hdm]
  omega
 ·intro k hk
  have:=h.z k (by omega)
  rw [List.getD_eq_getElem?_getD] at this ⊢
  rw [List.getElem?_set_ne (by omega)]
  exact this

theorem DivInv.fin {U V n L : Nat} {M Q : List Int} (h : DivInv U V n L 0 M Q) : val Q = U / V ∧ val M = U % V:=by
 have h1:=h.lt
 have h2:=h.eq
 rw [List.drop_zero] at h1
 have hV : 0 < V:=by omega
 rw [← h2]
 constructor
 ·rw [Nat.add_mul_div_left _ _ hV,Nat.div_eq_of_lt h1,Nat.zero_add]
 ·rw [Nat.add_mul_mod_self_left,Nat.mod_eq_of_lt h1]

theorem DivInv.init {x V n L : Nat} {k : Nat} (hx : x < 4294967296 ^ (L - 1) * 2 ^ k) (hn : n ≤ L) (hn1 : 1 ≤ n) (hk : k < 32) (hV : 4294967296 ^ (n - 1) * 2 ^ k ≤ V) :
  DivInv x V n L (L - n) (wdN L x) (List.replicate (L - n) 0):=by
 have hk2 : 2 ^ k ≤ 4294967296:=Nat.le_trans (Nat.pow_le_pow_right (by omega) (show k ≤ 32 by omega)) (by decide)
 have hxl : x < 4294967296 ^ L:=by
  have h1 : 4294967296 ^ (L - 1) * 2 ^ k ≤ 4294967296 ^ (L - 1) * 4294967296:=Nat.mul_le_mul_left _ hk2
  rw [← Nat.pow_succ,show (L - 1).succ = L by omega] at h1
  omega
 refine ⟨Nat.le_refl _,wdN_Ws _ _,wdN_len _ _,?_,by simp,?_,?_,?_⟩
 ·intro y hy
  rw [(List.mem_replicate.1 hy).2]; omega
 ·rw [← val_drop (wdN_Ws _ _),val_wdN hxl]
  have h2 : x < 4294967296 ^ (L - n) * V:=by
   have h3 : 4294967296 ^ (L - n) * (4294967296 ^ (n - 1) * 2 ^ k) ≤ 4294967296 ^ (L - n) * V:=Nat.mul_le_mul_left _ hV
   rw [← Nat.mul_assoc,← Nat.pow_add,show L - n + (n - 1) = L - 1 by omega] at h3
   omega
  rw [Nat.div_lt_iff_lt_mul (Nat.pow_pos (by omega)),Nat.mul_comm]
  exact h2
 ·rw [val_wdN hxl,val_zeros (fun y hy=>(List.mem_replicate.1 hy).2),Nat.mul_zero,Nat.add_zero]
 ·intro i _
  rw [List.getD_eq_getElem?_getD,List.getElem?_replicate]
  split <;> rfl

def blen (x : Nat) : Nat:=if x = 0 then 0 else x.log2 + 1

theorem blen_pow {x l : Nat} (h1 : 2 ^ l ≤ x) (h2 : x < 2 ^ (l + 1)) : blen x = l + 1:=by
 have hx : x ≠ 0:=by have:=Nat.two_pow_pos l; omega
 unfold blen
 rw [if_neg hx,(Nat.log2_eq_iff hx).2 ⟨h1,h2⟩]

theorem blen_spec {x : Nat} (hx : x ≠ 0) : ∃ l,blen x = l + 1 ∧ 2 ^ l ≤ x ∧ x < 2 ^ (l + 1):=by
 refine ⟨x.log2,by unfold blen; rw [if_neg hx],(Nat.log2_eq_iff hx).1 rfl⟩

theorem blen_div {x k : Nat} (h : 2 ^ k ≤ x) : blen x = blen (x / 2 ^ k) + k:=by
 have hk:=Nat.two_pow_pos k
 have h0 : x / 2 ^ k ≠ 0:=by
  have:=(Nat.le_div_iff_mul_le hk (x:=1) (y:=x)).2 (by omega)
  omega
 obtain ⟨l,h1,h2,h3⟩:=blen_spec h0
 have:=blen_pow (x:=x) (l:=l + k) (by
  rw [Nat.le_div_iff_mul_le hk] at h2
  rw [Nat.pow_add]; exact h2) (by
  rw [Nat.div_lt_iff_lt_mul hk] at h3
  rw [show l + k + 1 = l + 1 + k by omega,Nat.pow_add]; exact h3)
 rw [this,h1]; omega

theorem blen_lt {x n : Nat} (h : x < 2 ^ n) : blen x ≤ n:=by
 by_cases hx : x = 0
 ·subst hx; simp [blen]
 ·obtain ⟨l,h1,h2,_⟩:=blen_spec hx
  have : 2 ^ l < 2 ^ n:=by omega
  have:=(Nat.pow_lt_pow_iff_right (a:=2) (by omega)).1 this
  omega

theorem aidxT {T : List UInt8} {x : Nat} {n : Int} {k : UInt8 → Prop} (hT : ((List.range 256).all fun i=>T[i]? == some (UInt8.ofNat (blen i))) = true) (hn : n = x) (hx : x < 256) (hk : k (UInt8.ofNat (blen x))) : AIdx T n k:=by
 subst hn
 refine ⟨⟨_,⟨Int.natCast_nonneg _,?_⟩,hk⟩⟩
 have:=List.all_eq_true.1 hT x (by simpa using hx)
 simpa using this

theorem shr_u32 {a n : Nat} (hn : n < 32) : shrR .u32 (a : Int) (n : Int) = ((a / 2 ^ n : Nat) : Int):=by
 unfold shrR
 have h1 : min (n : Int).toNat (IntKind.bits .u32) = n:=by show min n 32 = n; omega
 rw [h1]
 rw [Int.fdiv_eq_ediv_of_nonneg _ (by have:=Int.pow_pos (n:=(2 : Int)) (m:=n) (by decide); omega)]
 simp

theorem c_len32 (x : Nat) (hx : x < 4294967296) : FnH Tryz.prog 290 [.int .u32 x] [] (.int .i64 (blen x)) []:=by
 refine FnH.intro lay mixed Tryz.func290 (by kernel_rfl) rfl (by kernel_rfl) rfl fun hok=>?_
 conv=>whnf
 refine And.intro (fun n1=>?_) (fun n1=>?_)
 ·have k1:=blen_div (x:=x) (k:=16) (by omega)
  conv=>whnf
  refine ⟨by decide,?_⟩
  rw [show shrR .u32 (x : Int) 16 = ((x / 2 ^ 16 : Nat) : Int) from shr_u32 (n:=16) (by omega)]
  generalize hz : x / 2 ^ 16 = z at *
  have hz : z < 65536:=by omega
  conv=>whnf
  refine And.intro (fun n2=>?_) (fun n2=>?_)
  ·have k2:=blen_div (x:=z) (k:=8) (by omega)
   conv=>whnf
   refine ⟨by decide,?_⟩
   rw [show shrR .u32 (z : Int) 8 = ((z / 2 ^ 8 : Nat) : Int) from shr_u32 (n:=8) (by omega)]
   generalize hy : z / 2 ^ 8 = y at *
   have hy : y < 256:=by omega
   conv=>whnf
   refine zA ?_;conv=>whnf
   conv=>whnf
   refine aidxT (x:=y) (by decide +kernel) ?_ hy ?_
   ·simp [IntKind.wrap,IntKind.bits,IntKind.signed]; omega
   have hb8:=blen_lt (x:=y) (n:=8) (by omega)
   rw [show ((UInt8.ofNat (blen y)).toNat : Int) = (blen y : Int) by rw [UInt8.toNat_ofNat']; omega]
   conv=>whnf
   rw [wrap64 (n:=(blen y : Int)) (by omega) (by omega)]
   refine zA ?_;conv=>whnf
   refine fM ?_;(conv=>whnf);refine ⟨?_,rfl⟩;conv=>whnf
   refine ⟨rfl,?_⟩
   omega
  ·conv=>whnf
   refine aidxT (x:=z) (by decide +kernel) ?_ (by omega) ?_
   ·simp [IntKind.wrap,IntKind.bits,IntKind.signed]; omega
   have hb8:=blen_lt (x:=z) (n:=8) (by omega)
   rw [show ((UInt8.ofNat (blen z)).toNat : Int) = (blen z : Int) by rw [UInt8.toNat_ofNat']; omega]
   conv=>whnf
   rw [wrap64 (n:=(blen z : Int)) (by omega) (by omega)]
   refine zA ?_;conv=>whnf
   refine fM ?_;(conv=>whnf);refine ⟨?_,rfl⟩;conv=>whnf
   refine ⟨rfl,?_⟩
   omega
 ·conv=>whnf
  refine And.intro (fun n2=>?_) (fun n2=>?_)
  ·have k2:=blen_div (x:=x) (k:=8) (by omega)
   conv=>whnf
   refine ⟨by decide,?_⟩
   rw [show shrR .u32 (x : Int) 8 = ((x / 2 ^ 8 : Nat) : Int) from shr_u32 (n:=8) (by omega)]
   generalize hy : x / 2 ^ 8 = y at *
   have hy : y < 256:=by omega
   conv=>whnf
   refine zA ?_;conv=>whnf
   conv=>whnf
   refine aidxT (x:=y) (by decide +kernel) ?_ hy ?_
   ·simp [IntKind.wrap,IntKind.bits,IntKind.signed]; omega
   have hb8:=blen_lt (x:=y) (n:=8) (by omega)
   rw [show ((UInt8.ofNat (blen y)).toNat : Int) = (blen y : Int) by rw [UInt8.toNat_ofNat']; omega]
   conv=>whnf
   rw [wrap64 (n:=(blen y : Int)) (by omega) (by omega)]
   refine zA ?_;conv=>whnf
   refine fM ?_;(conv=>whnf);refine ⟨?_,rfl⟩;conv=>whnf
   refine ⟨rfl,?_⟩
   omega
  ·conv=>whnf
   refine aidxT (x:=x) (by decide +kernel) ?_ (by omega) ?_
   ·simp [IntKind.wrap,IntKind.bits,IntKind.signed]; omega
   have hb8:=blen_lt (x:=x) (n:=8) (by omega)
   rw [show ((UInt8.ofNat (blen x)).toNat : Int) = (blen x : Int) by rw [UInt8.toNat_ofNat']; omega]
   conv=>whnf
   rw [wrap64 (n:=(blen x : Int)) (by omega) (by omega)]
   refine zA ?_;conv=>whnf
   refine fM ?_;(conv=>whnf);refine ⟨?_,rfl⟩;conv=>whnf
   refine ⟨rfl,?_⟩
   omega

theorem c_lz32 (x : Nat) (hx : x < 4294967296) : FnH Tryz.prog 278 [.int .u32 x] [] (.int .i64 ((32 - blen x : Nat) : Int)) []:=by
 have hb:=blen_lt (x:=x) (n:=32) (by omega)
 refine FnH.intro lay mixed Tryz.func278 (by kernel_rfl) rfl (by kernel_rfl) rfl fun hok=>?_
 conv=>whnf
 refine .pure _ _ ?_ ⟨rfl,rfl⟩ (c_len32 x hx) fun _=>?_
 ·exact leL_refl _
 conv=>whnf
 refine zA ?_;conv=>whnf
 refine fM ?_;(conv=>whnf);refine ⟨?_,rfl⟩;conv=>whnf
 refine ⟨rfl,?_⟩
 omega

theorem c_leftP (a : List Int) (n : Nat) (hn : n < 32) (hsz : a.length ≤ 1000000) :
  FnH Tryz.prog 279 [wL a,.int .i64 n] [] (wL (wdN (a.length + 1) (val a * 2 ^ n))) []:=by
 have h:=(c_left a n hn hsz).cv (.freeze 0 0 0 (a.length + 1) (a.length + 1) (a.length + 1) 1 _ rfl rfl (by simp [wdN_len]) (.refl _ _)) rfl
 refine (h.heap (G:=[]) (.mk trivial trivial) (Nat.zero_le _) rfl).weak ?_
 refine ⟨rfl,leRL_of ?_⟩
 rw [List.drop_zero,List.take_of_length_le (by simp [wdN_len])]

theorem c_rightP (a : List Int) (n : Nat) (hn : n < 32) (hsz : a.length ≤ 1000000) :
  FnH Tryz.prog 282 [wL a,.int .i64 n] [] (wL (wdN a.length (val a / 2 ^ n))) []:=by
 have h:=(c_right a n hn hsz).cv (.freeze 0 0 0 a.length a.length a.length 1 _ rfl rfl (by simp [wdN_len]) (.refl _ _)) rfl
 refine (h.heap (G:=[]) (.mk trivial trivial) (Nat.zero_le _) rfl).weak ?_
 refine ⟨rfl,leRL_of ?_⟩
 rw [List.drop_zero,List.take_of_length_le (by simp [wdN_len])]

theorem wd_len_two {y : Nat} (h : 4294967296 ≤ y) : 2 ≤ (wd y).length:=by
 rw [wd_pos (by omega),wd_pos (n:=y / 4294967296) (by omega)]
 simp

theorem wdN_take : ∀ {k m x : Nat},k ≤ m → (wdN m x).take k = wdN k x
 | 0,_,_,_=>by simp [wdN]
 | k + 1,0,_,h=>by omega
 | k + 1,m + 1,x,h=>by simp only [wdN,List.take_succ_cons,wdN_take (k:=k) (m:=m) (by omega)]

theorem digit_arith {B p s V r3 r2 w2 w1 w0 top next : Nat} (t3 : r3 < p) (t2 : r2 < p) (hw0 : w0 < B) (hnext : next < B) (e3 : s = r3 + p * (w0 + B * (w1 + B * w2))) (e2 : V = r2 + p * (next + B * top)) (hV1 : p * B ≤ V) (hs2 : s < B * V) :
  1 ≤ top ∧ ((w2 * B + w1) * B + w0) * p ≤ s ∧ s < ((w2 * B + w1) * B + w0 + 1) * p ∧ (top * B + next) * p ≤ V ∧ V < (top * B + next + 1) * p ∧ w2 * B + w1 < (top + 1) * B ∧ s / V ≤ (w2 * B + w1) / top:=by
 have f1 : w0 + B * (w1 + B * w2) = (w2 * B + w1) * B + w0:=by rw [Nat.mul_comm B (w1 + B * w2),Nat.mul_comm B w2,Nat.add_comm w1,Nat.add_comm]
 have f2 : next + B * top = top * B + next:=by rw [Nat.mul_comm,Nat.add_comm]
 rw [f1] at e3
 rw [f2] at e2
 generalize hh : w2 * B + w1 = head at *
 have b3:=between (r:=r3) (p:=p) (x:=head * B + w0) t3
 have b2:=between (r:=r2) (p:=p) (x:=top * B + next) t2
 rw [← e3] at b3
 rw [← e2] at b2
 have htop1 : 1 ≤ top:=by
  apply Classical.byContradiction
  intro h0
  have h0 : top = 0:=by omega
  subst h0
  have h1 : (0 * B + next + 1) * p ≤ B * p:=Nat.mul_le_mul_right _ (by omega)
  rw [Nat.mul_comm p] at hV1
  omega
 have k0 : (top * B + next + 1) * p ≤ (top + 1) * B * p:=Nat.mul_le_mul_right _ (by rw [Nat.add_mul]; omega)
 have hhead : head < (top + 1) * B:=by
  have k1 : head * B * p ≤ (head * B + w0) * p:=Nat.mul_le_mul_right _ (by omega)
  have k2 : B * V ≤ B * ((top + 1) * B * p):=Nat.mul_le_mul_left _ (by omega)
  have h1 : head * B * p < B * ((top + 1) * B * p):=by omega
  have h2 : B * ((top + 1) * B * p) = (top + 1) * B * B * p:=by rw [Nat.mul_comm B,Nat.mul_assoc _ p B,Nat.mul_comm p B,← Nat.mul_assoc]
  rw [h2] at h1
  exact Nat.lt_of_mul_lt_mul_right (Nat.lt_of_mul_lt_mul_right h1)
 refine ⟨htop1,b3.1,b3.2,b2.1,b2.2,hhead,?_⟩
 refine guess_ge (p:=B * p) htop1 ?_ ?_
 ·have : top * (B * p) ≤ (top * B + next) * p:=by rw [← Nat.mul_assoc]; exact Nat.mul_le_mul_right _ (by omega)
  omega
 ·have : (head * B + w0 + 1) * p ≤ (head + 1) * (B * p):=by rw [← Nat.mul_assoc]; exact Nat.mul_le_mul_right _ (by rw [Nat.add_mul]; omega)
  omega

theorem digit_facts {U V n L k w2 w1 w0 top next : Nat} {M Q v : List Int} (hI : DivInv U V n L (k + 1) M Q) (hn2 : 2 ≤ n) (hnL : n + 1 ≤ L) (hk : k + 1 ≤ L - n) (hvl : v.length = n) (hvw : Ws v) (hvv : val v = V) (hV1 : 4294967296 ^ (n - 1) ≤ V)
  (ew2 : M.getD (k + n) 0 = (w2 : Int)) (ew1 : M.getD (k + n - 1) 0 = (w1 : Int)) (ew0 : M.getD (k + n - 2) 0 = (w0 : Int)) (htp : v.getD (n - 1) 0 = (top : Int)) (hnx : v.getD (n - 2) 0 = (next : Int)) :
  ∃ p,0 < p ∧ 1 ≤ top ∧ ((w2 * 4294967296 + w1) * 4294967296 + w0) * p ≤ val (M.drop k) ∧ val (M.drop k) < ((w2 * 4294967296 + w1) * 4294967296 + w0 + 1) * p ∧
    (top * 4294967296 + next) * p ≤ V ∧ V < (top * 4294967296 + next + 1) * p ∧ w2 * 4294967296 + w1 < (top + 1) * 4294967296 ∧ val (M.drop k) / V ≤ (w2 * 4294967296 + w1) / top:=by
 have hV2 : V < 4294967296 ^ n:=by rw [← hvv,← hvl]; exact val_lt hvw
 have hseg:=hI.seg (by omega) hV2
 have hML:=hI.lm
 have hwM:=hI.wm
 have htop:=hvw.getD (i:=n - 1)
 have hnext:=hvw.getD (i:=n - 2)
 have hw2:=hwM.getD (i:=k + n)
 have hw1:=hwM.getD (i:=k + n - 1)
 have hw0:=hwM.getD (i:=k + n - 2)
 rw [htp] at htop
 rw [hnx] at hnext
 rw [ew2] at hw2
 rw [ew1] at hw1
 rw [ew0] at hw0
 have e3:=val_three (l:=(M.drop k).take (n + 1)) (n:=n - 2) (by rw [List.length_take,List.length_drop,hML]; omega)
 have e2:=val_two (l:=v) (n:=n - 2) (by omega)
 have gt : ∀ i,i < n + 1 → ((M.drop k).take (n + 1)).getD i 0 = M.getD (k + i) 0:=by
  intro i hi
  rw [List.getD_eq_getElem?_getD,List.getElem?_take,if_pos hi,List.getElem?_drop,← List.getD_eq_getElem?_getD]
 rw [gt _ (by omega),gt _ (by omega),gt _ (by omega),show k + (n - 2) = k + n - 2 by omega,show k + (n - 2 + 1) = k + n - 1 by omega,show k + (n - 2 + 2) = k + n by omega,ew2,ew1,ew0,hseg.1] at e3
 rw [show n - 2 + 1 = n - 1 by omega,hnx,htp,hvv] at e2
 simp only [Int.toNat_natCast] at e3 e2
 have t3:=take_lt (l:=(M.drop k).take (n + 1)) ((hwM.drop _).take _) (n - 2)
 have t2:=take_lt hvw (n - 2)
 have hpp : 0 < 4294967296 ^ (n - 2):=Nat.pow_pos (by omega)
 have ep : 4294967296 ^ (n - 1) = 4294967296 ^ (n - 2) * 4294967296:=by rw [← Nat.pow_succ,show (n - 2).succ = n - 1 by omega]
 have hs2:=hseg.2.1
 rw [ep] at hV1
 generalize val (M.drop k) = s at *
 generalize val (((M.drop k).take (n + 1)).take (n - 2)) = r3 at *
 generalize val (v.take (n - 2)) = r2 at *
 generalize 4294967296 ^ (n - 2) = p at *
 exact ⟨p,hpp,digit_arith (B:=4294967296) t3 t2 (by omega) (by omega) e3 e2 hV1 hs2⟩

theorem mid_mid {us s t : List Int} {off : Nat} (h : off + s.length ≤ us.length) (hl : s.length = t.length) : mid (mid us off s) off t = mid us off t:=by
 have h1 : (mid us off s).take off = us.take off:=by
  simp only [mid]
  rw [List.take_append_of_le_length (by simp; omega),List.take_take,Nat.min_self]
 have h2 : (mid us off s).drop (off + t.length) = us.drop (off + t.length):=by
  rw [← List.drop_drop,mid_drop h,← hl,List.drop_left]
 have h3 : mid (mid us off s) off t = (mid us off s).take off ++ (t ++ (mid us off s).drop (off + t.length)):=rfl
 rw [h3,h1,h2]; rfl

theorem mid_part {us s : List Int} {off : Nat} (h : off + s.length ≤ us.length) : ((mid us off s).drop off).take s.length = s:=by
 rw [mid_drop h,List.take_left]

set_option maxHeartbeats 2000000 in
theorem div_large (x y : Nat) (hx : (wd x).length ≤ 999999) (hyl : (wd y).length ≤ 1000000) (hy : 4294967296 ≤ y) : DivC x y:=by
 unfold DivC
 have hyx : y ≤ x → (wd y).length ≤ (wd x).length:=wd_len_mono
 have hn2:=wd_len_two hy
 have c1:=c_trim (wd x) (by omega)
 rw [val_wd] at c1
 have c2:=c_trim (wd y) hyl
 rw [val_wd] at c2
 have c3:=c_Cmp (wd x) (wd y) (by omega) hyl
 rw [val_wd,val_wd] at c3
 have hwx:=wd_Ws x
 have hwy:=wd_Ws y
 have hvx:=val_wd x
 have hvy:=val_wd y
 have hpy:=wd_Pl y
 generalize ha : wd x = a at *
 generalize hb : wd y = b at *
 refine FnH.intro lay mixed Tryz.func248 (by kernel_rfl) rfl (by kernel_rfl) rfl fun hok=>?_
 conv=>whnf
 refine .pure _ _ ?_ ⟨rfl,rfl⟩ c1 fun _=>?_
 ·exact leL_refl _
 conv=>whnf
 refine .pure _ _ ?_ ⟨rfl,rfl⟩ c2 fun _=>?_
 ·exact leL_refl _
 conv=>whnf
 refine And.intro (fun h=>?_) (fun _=>?_)
 ·exfalso
  simp only [List.length_map] at h; omega
 conv=>whnf
 refine .pure _ _ ?_ ⟨rfl,rfl⟩ c3 fun _=>?_
 ·exact leL_refl _
 conv=>whnf
 refine And.intro (fun h=>?_) (fun h=>?_)
 ·have hlt : x < y:=by
   unfold cmpN at h
   split at h
   ·assumption
   ·split at h <;> omega
  conv=>whnf
  refine fM ?_;(conv=>whnf);refine ⟨?_,rfl⟩;conv=>whnf
  refine ⟨?_,?_,rfl,trivial⟩
  ·rw [Nat.div_eq_of_lt hlt,wd_zero]; rfl
  ·rw [Nat.mod_eq_of_lt hlt,ha]; exact le0_refl _
 have hxy : ¬ x < y:=by
  intro hlt
  unfold cmpN at h
  rw [if_pos hlt] at h
  omega
 have hle : y ≤ x:=by omega
 have hyx:=hyx hle
 conv=>whnf
 refine And.intro (fun h=>?_) (fun _=>?_)
 ·exfalso
  simp only [List.length_map] at h; omega
 conv=>whnf
 refine ⟨inr64 (by simp; omega) (by simp; omega),?_⟩
 conv=>whnf
 refine aidxN' 0 (i:=b.length - 1) (by simp; omega) (by omega) ?_
 have htb:=hwy.getD (i:=b.length - 1)
 have htn : b.getD (b.length - 1) 0 ≠ 0:=by
  rcases hpy with h | h
  ·rw [h] at hn2; simp at hn2
  ·rw [List.getLastD_eq_getLast?,List.getLast?_eq_getElem?] at h
   rw [List.getD_eq_getElem?_getD]; exact h
 generalize htt : b.getD (b.length - 1) 0 = tb0 at *
 obtain ⟨tb,rfl⟩ : ∃ tb : Nat,tb0 = tb:=⟨tb0.toNat,by omega⟩
 conv=>whnf
 refine .pure _ _ ?_ ⟨rfl,rfl⟩ (c_lz32 tb (by omega)) fun _=>?_
 ·exact leL_refl _
 obtain ⟨l,hl1,hl2,hl3⟩:=blen_spec (x:=tb) (by omega)
 have hl4:=blen_lt (x:=tb) (n:=32) (by omega)
 obtain ⟨sh,hsh⟩ : ∃ sh,32 - blen tb = sh:=⟨_,rfl⟩
 rw [hsh]
 conv=>whnf
 refine .pure _ _ ?_ ⟨rfl,rfl⟩ (c_leftP b sh (by omega) (by omega)) fun _=>?_
 ·exact leL_refl _
 rw [hvy]
 conv=>whnf
 refine ⟨⟨by omega,by simp,by simp [wdN_len]; omega⟩,?_⟩
 -- the divisor, shifted
 have hV1 : 4294967296 ^ (b.length - 1) * 2 ^ sh ≤ y * 2 ^ sh:=Nat.mul_le_mul_right _ (by rw [← hvy]; exact val_pos_of_len hpy (by intro e; rw [e] at hn2; simp at hn2) hwy)
 have hp2:=Nat.two_pow_pos sh
 have hV2 : y * 2 ^ sh < 4294967296 ^ b.length:=by
  have e1:=val_take_drop (l:=b) (b.length - 1) (by omega)
  rw [val_hd b (b.length - 1),List.drop_eq_nil_of_le (by omega : b.length ≤ b.length - 1 + 1),htt,hvy] at e1
  have e2:=take_lt hwy (b.length - 1)
  have e3 : y < 4294967296 ^ (b.length - 1) * (tb + 1):=by
   rw [Nat.mul_add]
   simp only [Int.toNat_natCast,val,Nat.mul_zero,Nat.add_zero] at e1
   omega
  have e4 : (tb + 1) * 2 ^ sh ≤ 4294967296:=by
   have : (tb + 1) * 2 ^ sh ≤ 2 ^ (l + 1) * 2 ^ sh:=Nat.mul_le_mul_right _ (by omega)
   rw [← Nat.pow_add,show l + 1 + sh = 32 by omega] at this
   exact this
  have e5 : y * 2 ^ sh < 4294967296 ^ (b.length - 1) * (tb + 1) * 2 ^ sh:=Nat.mul_lt_mul_of_pos_right e3 hp2
  have e6 : 4294967296 ^ (b.length - 1) * ((tb + 1) * 2 ^ sh) ≤ 4294967296 ^ (b.length - 1) * 4294967296:=Nat.mul_le_mul_left _ e4
  rw [← Nat.pow_succ,show (b.length - 1).succ = b.length by omega,← Nat.mul_assoc] at e6
  omega
 have hcut : ((List.map (AV.int .u32) (wdN (b.length + 1) (y * 2 ^ sh))).drop (0 : Int).toNat).take ((((b.map (AV.int .u32)).length : Nat) : Int).toNat - (0 : Int).toNat) = (wdN b.length (y * 2 ^ sh)).map (AV.int .u32):=by
  simp only [List.length_map,Int.toNat_natCast,Int.toNat_zero,List.drop_zero,Nat.sub_zero,← List.map_take]
  rw [wdN_take (by omega)]
 rw [hcut]
 have hvw:=wdN_Ws b.length (y * 2 ^ sh)
 have hvl:=wdN_len b.length (y * 2 ^ sh)
 have hvv:=val_wdN hV2
 generalize wdN b.length (y * 2 ^ sh) = v at *
 have hxl:=val_lt hwx
 rw [hvx] at hxl
 have hinit:=DivInv.init (x:=x * 2 ^ sh) (V:=y * 2 ^ sh) (n:=b.length) (L:=a.length + 1) (k:=sh) (Nat.mul_lt_mul_of_pos_right hxl hp2) (by omega) (by omega) (by omega) hV1
 have hVpos : 4294967296 ^ (b.length - 1) ≤ y * 2 ^ sh:=Nat.le_trans (Nat.le_mul_of_pos_right _ hp2) hV1
 have hres : x * 2 ^ sh / (y * 2 ^ sh) = x / y ∧ x * 2 ^ sh % (y * 2 ^ sh) / 2 ^ sh = x % y:=by
  refine ⟨Nat.mul_div_mul_right _ _ hp2,?_⟩
  rw [Nat.mul_mod_mul_right,Nat.mul_div_cancel _ hp2]
 conv=>whnf
 refine .gen _ _ (c_left a sh (by omega) (by omega)) fun _=>?_
 rw [hvx]
 generalize hU : x * 2 ^ sh = U at *
 generalize hV : y * 2 ^ sh = V at *
 conv=>whnf
 refine ADraw.auto (by kernel_rfl) ?_;conv=>whnf
 refine ⟨inr64 (by simp; omega) (by simp; omega),?_⟩
 conv=>whnf
 refine aidxN' 0 (i:=b.length - 1) (by simp; omega) (by omega) ?_
 conv=>whnf
 refine ⟨inr64 (by simp; omega) (by simp; omega),?_⟩
 conv=>whnf
 refine aidxN' 0 (i:=b.length - 2) (by simp; omega) (by omega) ?_
 have htop:=hvw.getD (i:=b.length - 1)
 have hnext:=hvw.getD (i:=b.length - 2)
 generalize htp : v.getD (b.length - 1) 0 = top0 at *
 generalize hnx : v.getD (b.length - 2) 0 = next0 at *
 obtain ⟨top,rfl⟩ : ∃ top : Nat,top0 = top:=⟨top0.toNat,by omega⟩
 obtain ⟨next,rfl⟩ : ∃ next : Nat,next0 = next:=⟨next0.toNat,by omega⟩
 conv=>whnf
 rw [wrap_u64 (n:=(top : Int)) (by omega) (by omega),wrap_u64 (n:=(next : Int)) (by omega) (by omega)]
 refine ⟨inr64 (by simp; omega) (by simp; omega),?_⟩
 obtain ⟨m,hm⟩ : ∃ m,a.length + 1 - b.length = m:=⟨_,rfl⟩
 rw [show (((a.length + 1 : Nat) : Int) - (((v.map (AV.int .u32)).length : Nat) : Int)) = (m : Int) by simp; omega]
 conv=>whnf
 refine ⟨⟨by omega,by omega,by simp; omega,by omega⟩,.wr ?_⟩
 conv=>whnf
 refine ⟨inr64 (by simp; omega) (by simp; omega),?_⟩
 rw [hm] at hinit
 conv=>whnf
 refine LoopE.of <| LoopSpec.inv (.refl _ _) (fun x : Nat × List Int × List Int=>DivInv U V b.length (a.length + 1) x.1 x.2.1 x.2.2)
  (fun | (j,_)=>[(14,.int .i64 ((j : Int) - 1))]) (fun | (_,M,Q)=>[(1,.arr 1 m (Q.map (.int .u32))),(0,.arr 1 (a.length + 1) (M.map (.int .u32)))])
  (fun x=>x.1) (m,wdN (a.length + 1) U,List.replicate m 0) hinit (fun _=>rfl) ?_ ?_
 ·refine ⟨?_,.mk ?_ ⟨by simp,by simp,trivial⟩⟩
  ·all_goals exact wk
  ·repeat' first|exact rfl|exact trivial|exact wR|exact lR _|apply aI
   all_goals first | (simp; done) | exact leRL_of (by simp)
 rintro ⟨j,M,Q⟩ hI _
 simp only at hI
 have hjl:=hI.jle
 conv=>whnf
 refine And.intro (fun h=>?_) (fun h=>?_)
 ·obtain ⟨k,rfl⟩ : ∃ k,j = k + 1:=⟨j - 1,by omega⟩
  have hseg:=hI.seg (by omega) hV2
  have hML:=hI.lm
  have hQL:=hI.lq
  have hwM:=hI.wm
  have e14 : (((k + 1 : Nat) : Int) - 1) = (k : Int):=by omega
  have elv : (((v.map (AV.int .u32)).length : Nat) : Int) = (b.length : Int):=by simp; omega
  rw [e14,elv]
  have hw2:=hwM.getD (i:=k + b.length)
  have hw1:=hwM.getD (i:=k + b.length - 1)
  have hw0:=hwM.getD (i:=k + b.length - 2)
  obtain ⟨w2,ew2⟩ : ∃ w : Nat,M.getD (k + b.length) 0 = w:=⟨(M.getD (k + b.length) 0).toNat,by omega⟩
  obtain ⟨w1,ew1⟩ : ∃ w : Nat,M.getD (k + b.length - 1) 0 = w:=⟨(M.getD (k + b.length - 1) 0).toNat,by omega⟩
  obtain ⟨w0,ew0⟩ : ∃ w : Nat,M.getD (k + b.length - 2) 0 = w:=⟨(M.getD (k + b.length - 2) 0).toNat,by omega⟩
  rw [ew2] at hw2
  rw [ew1] at hw1
  rw [ew0] at hw0
  obtain ⟨p,hp0,htop1,b3,b3',b2,b2',hhead,hge⟩:=digit_facts hI hn2 (by omega) (by omega) (by omega) hvw hvv hVpos ew2 ew1 ew0 htp hnx
  have hdst:=hI.step (by omega) (by omega) hV2
  obtain ⟨s,hs⟩ : ∃ s,val (M.drop k) = s:=⟨_,rfl⟩
  rw [hs] at b3 b3' hge hdst hseg
  have hVp : 0 < V:=by have:=Nat.pow_pos (n:=b.length - 1) (show 0 < 4294967296 by omega); omega
  have hqB : s / V < 4294967296:=by rw [Nat.div_lt_iff_lt_mul hVp]; exact hseg.2.1
  obtain ⟨q,hq⟩ : ∃ q,s / V = q:=⟨_,rfl⟩
  rw [hq] at hge hqB hdst
  have hrest : takeN s (q * V) (b.length + 1) = s % V:=take_rest hq.symm
  have hVB : V < 4294967296 ^ (b.length + 1):=by
   rw [Nat.pow_succ]
   have : 4294967296 ^ b.length * 1 ≤ 4294967296 ^ b.length * 4294967296:=Nat.mul_le_mul_left _ (by omega)
   omega
  have hsB : s < 4294967296 ^ (b.length + 1):=by
   rw [Nat.pow_succ,Nat.mul_comm]
   have : 4294967296 * V ≤ 4294967296 * 4294967296 ^ b.length:=Nat.mul_le_mul_left _ (by omega)
   omega
  have hmidL : ∀ z,(mid M k (wdN (b.length + 1) z)).length = a.length + 1:=fun z=>by rw [mid_len (by rw [wdN_len,hML]; omega),hML]
  have htl : takeN s ((q + 1) * V) (b.length + 1) < 4294967296 ^ (b.length + 1):=by
   have h1:=Nat.lt_div_mul_add (a:=s) hVp
   rw [hq] at h1
   unfold takeN
   rw [Nat.add_mul,Nat.one_mul,if_pos h1]
   have h2:=Nat.div_mul_le_self s V
   rw [hq] at h2
   omega
  have hgive : mid (mid M k (wdN (b.length + 1) (takeN s ((q + 1) * V) (b.length + 1)))) k (wdN (b.length + 1) ((val (((mid M k (wdN (b.length + 1) (takeN s ((q + 1) * V) (b.length + 1)))).drop k).take (b.length + 1)) + V) % 4294967296 ^ (b.length + 1))) = mid M k (wdN (b.length + 1) (s % V)):=by
   have e1:=mid_part (us:=M) (s:=wdN (b.length + 1) (takeN s ((q + 1) * V) (b.length + 1))) (off:=k) (by rw [wdN_len,hML]; omega)
   rw [wdN_len] at e1
   rw [e1,val_wdN htl,give_rest hVp hq.symm hVB,mid_mid (by rw [wdN_len,hML]; omega) (by rw [wdN_len,wdN_len])]
  conv=>whnf
  refine ADraw.auto (by kernel_rfl) ?_;conv=>whnf
  refine zA ?_;conv=>whnf
  refine ⟨⟨by omega,by simp; omega⟩,?_⟩
  conv=>whnf
  refine aidxN' 0 (i:=k + b.length) (by simp; omega) (by omega) ?_
  refine ⟨by simp,?_⟩
  rw [ew2]
  conv=>whnf
  refine ⟨by decide,?_⟩
  rw [wrap_u64 (n:=(w2 : Int)) (by omega) (by omega),shl_word (by omega)]
  refine zA ?_;conv=>whnf
  refine zA ?_;conv=>whnf
  refine ⟨⟨by omega,by simp; omega⟩,?_⟩
  conv=>whnf
  refine aidxN' 0 (i:=k + b.length - 1) (by simp; omega) (by omega) ?_
  refine ⟨by simp,?_⟩
  rw [ew1]
  conv=>whnf
  rw [wrap_u64 (n:=(w1 : Int)) (by omega) (by omega),or_word (by omega) (by omega)]
  obtain ⟨head,hhd⟩ : ∃ head,w2 * 4294967296 + w1 = head:=⟨_,rfl⟩
  rw [hhd]
  rw [hhd] at b3 b3' hhead hge
  have hhl : head < 18446744073709551616:=by omega
  clear hcut
  refine ADraw.auto (by kernel_rfl) ?_;conv=>whnf
  refine ⟨by omega,?_⟩
  rw [tdiv_nat]
  have hg0 : head / top * top + head % top = head:=by rw [Nat.mul_comm]; exact Nat.div_add_mod _ _
  have hr0 : head % top < top:=Nat.mod_lt _ (by omega)
  have hg1 : head / top ≤ head:=Nat.div_le_self _ _
  have hg2 : head / top * top ≤ head:=by omega
  generalize head / top = g0 at *
  conv=>whnf
  refine ⟨by omega,?_⟩
  rw [tmod_nat]
  generalize head % top = r0 at *
  rw [wrap_u64 (n:=(g0 : Int)) (by omega) (by omega)]
  conv=>whnf
  refine LoopE.of <| LoopSpec.inv (.refl _ _) (fun (x : Nat × Nat)=>x.1 * top + x.2 = head ∧ q ≤ x.1 ∧ x.2 < 4294967296 ∧ x.1 ≤ g0) (fun (x : Nat × Nat)=>[(16,.int .u64 (x.1 : Nat)),(17,.int .u64 (x.2 : Nat))]) (fun _=>_) (fun (x : Nat × Nat)=>x.1) (g0,r0) ?_ (fun _=>rfl) ?_ ?_
  ·exact ⟨hg0,hge,(by omega : r0 < 4294967296),Nat.le_refl _⟩
  ·refine ⟨?_,.refl rfl⟩
   all_goals exact wk
  rintro ⟨g,r⟩ ⟨hgr,hgq,hr,hgg⟩ _
  simp only at hgr hgq hr hgg
  dsimp only [awp]
  conv=>whnf
  refine And.intro (fun hc1=>?_) (fun hc1=>?_)
  ·have hgt : q < g:=by omega
   conv=>whnf
   conv=>whnf
   rw [show ((g : Int) - 1) = ((g - 1 : Nat) : Int) by omega,wrap_u64 (n:=((g - 1 : Nat) : Int)) (by omega) (by omega)]
   conv=>whnf
   rw [show ((r : Int) + (top : Int)) = ((r + top : Nat) : Int) from (Int.natCast_add r top).symm,wrap_u64 (n:=((r + top : Nat) : Int)) (by omega) (by omega)]
   have hgr' : (g - 1) * top + (r + top) = head:=by
    have h1 : (g - 1 + 1) * top = g * top:=by rw [show g - 1 + 1 = g by omega]
    rw [Nat.add_mul,Nat.one_mul] at h1
    omega
   conv=>whnf
   refine And.intro (fun hc3=>?_) (fun hc3=>?_)
   ·have hgB' : g - 1 < 4294967296:=guess_small hgr' hhead (by omega)
    have hG : g - 1 ≤ q + 1:=by
     rw [← hq]
     refine guess_le (B:=4294967296) (p:=p) (by omega) hp0 htop1 b2 b2' b3 hgr' ?_ hgB'
     have h1 : (g - 1) * next ≤ 4294967295 * 4294967295:=Nat.mul_le_mul (by omega) (by omega)
     have h2 : 4294967296 * 4294967296 ≤ (r + top) * 4294967296:=Nat.mul_le_mul_right _ (by omega)
     omega
    conv=>whnf
    rw [elv]
    refine zA ?_;conv=>whnf
    refine zA ?_;conv=>whnf
    refine ⟨⟨by omega,by omega,by omega⟩,by omega,?_⟩
    have ct:=c_take M v k (a.length + 1 - k) (g - 1) hwM (by omega) (by omega) (by omega) (by
     rw [hvv,hvl,Nat.pow_succ,Nat.mul_comm (4294967296 ^ b.length)]
     exact Nat.mul_lt_mul_of_le_of_lt (by omega) hV2 (by omega))
    rw [hML,hvv,hvl,hseg.1,take_fix hVp hq.symm (by omega) hG] at ct
    conv=>whnf
    refine .gen _ _ (FnH.frame [0] ct ⟨rfl,rfl,rfl,rfl⟩ ?_ ?_) fun _=>?_
    ·all_goals exact wk
    ·repeat' first|exact rfl|exact trivial|exact wR|exact lR _|apply aI
     all_goals (show AV.ms 0 _ _ _ 1 = AV.ms 0 _ _ _ 1; congr 1 <;> omega)
    conv=>whnf
    refine And.intro (fun hGq=>?_) (fun hGq=>?_)
    ·conv=>whnf
     rw [show (((g - 1 : Nat) : Int) - 1) = (q : Int) by omega,wrap_u64 (n:=(q : Int)) (by omega) (by omega)]
     conv=>whnf
     rw [elv]
     refine zA ?_;conv=>whnf
     refine zA ?_;conv=>whnf
     refine ⟨⟨by omega,by omega,by omega⟩,by omega,?_⟩
     have cg:=c_give (mid M k (wdN (b.length + 1) (takeN s ((g - 1) * V) (b.length + 1)))) v k (a.length + 1 - k) (mid_Ws hwM (wdN_Ws _ _)) (by rw [hmidL]; omega) (by rw [hmidL]; omega)
     rw [hmidL,hvv,hvl,hGq,hgive] at cg
     rw [hGq]
     conv=>whnf
     refine .gen _ _ (FnH.frame [0] cg ⟨rfl,rfl,rfl,rfl⟩ ?_ ?_) fun _=>?_
     ·all_goals exact wk
     ·repeat' first|exact rfl|exact trivial|exact wR|exact lR _|apply aI
      all_goals (show AV.ms 0 _ _ _ 1 = AV.ms 0 _ _ _ 1; congr 1 <;> omega)
     conv=>whnf
     rw [wrap_u32 (n:=(q : Int)) (by omega) (by omega)]
     refine ⟨⟨by omega,by omega⟩,?_⟩
     dsimp only [putE]
     rw [aops]
     dsimp only [guardC]
     dsimp only [aopW,aop]
     conv=>whnf
     refine ⟨by rw [List.length_map,hQL]; omega,rfl,?_⟩
     conv=>whnf
     refine zA ?_;conv=>whnf
     refine ⟨(k,mid M k (wdN (b.length + 1) (s % V)),Q.set k (q : Int)),?_,?_,?_⟩
     ·exact hdst
     ·refine ⟨?_,.mk ?_ ⟨by simp,by simp,trivial⟩⟩
      ·all_goals exact wk
      ·repeat' first|exact rfl|exact trivial|exact wR|exact lR _|apply aI
       all_goals first | exact leRL_refl _ | (refine leRL_of ?_; rw [List.map_set]; simp [strip])
     ·show k < k + 1
      omega
    ·have hGq' : g - 1 = q:=by omega
     rw [hGq',hrest]
     conv=>whnf
     rw [wrap_u32 (n:=(q : Int)) (by omega) (by omega)]
     refine ⟨⟨by omega,by omega⟩,?_⟩
     dsimp only [putE]
     rw [aops]
     dsimp only [guardC]
     dsimp only [aopW,aop]
     conv=>whnf
     refine ⟨by rw [List.length_map,hQL]; omega,rfl,?_⟩
     conv=>whnf
     refine zA ?_;conv=>whnf
     refine ⟨(k,mid M k (wdN (b.length + 1) (s % V)),Q.set k (q : Int)),?_,?_,?_⟩
     ·exact hdst
     ·refine ⟨?_,.mk ?_ ⟨by simp,by simp,trivial⟩⟩
      ·all_goals exact wk
      ·repeat' first|exact rfl|exact trivial|exact wR|exact lR _|apply aI
       all_goals first | exact leRL_refl _ | (refine leRL_of ?_; rw [List.map_set]; simp [strip])
     ·show k < k + 1
      omega
   ·conv=>whnf
    refine ⟨(g - 1,r + top),?_,?_,?_⟩
    ·exact ⟨hgr',(by omega : q ≤ g - 1),(by omega : r + top < 4294967296),(by omega : g - 1 ≤ g0)⟩
    ·refine ⟨?_,.refl rfl⟩
     all_goals exact wk
    ·show g - 1 < g
     omega
  ·have hgB : g < 4294967296:=by omega
   have hgn : g * next ≤ 4294967295 * 4294967295:=Nat.mul_le_mul (by omega) (by omega)
   conv=>whnf
   rw [show ((g : Int) * (next : Int)) = ((g * next : Nat) : Int) from (Int.natCast_mul g next).symm,wrap_u64 (n:=((g * next : Nat) : Int)) (by omega) (by omega)]
   refine ⟨by decide,?_⟩
   rw [shl_word (by omega)]
   conv=>whnf
   rw [elv]
   refine zA ?_;conv=>whnf
   refine zA ?_;conv=>whnf
   refine ⟨⟨by omega,by simp; omega⟩,?_⟩
   conv=>whnf
   refine aidxN' 0 (i:=k + b.length - 2) (by simp; omega) (by omega) ?_
   refine ⟨by simp,?_⟩
   rw [ew0]
   conv=>whnf
   rw [wrap_u64 (n:=(w0 : Int)) (by omega) (by omega),or_word (by omega) (by omega)]
   conv=>whnf
   refine And.intro (fun hc2=>?_) (fun hc2=>?_)
   ·have hgt : q < g:=hq ▸ guess_gt b2 b3' hgr (by omega)
    conv=>whnf
    rw [show ((g : Int) - 1) = ((g - 1 : Nat) : Int) by omega,wrap_u64 (n:=((g - 1 : Nat) : Int)) (by omega) (by omega)]
    conv=>whnf
    rw [show ((r : Int) + (top : Int)) = ((r + top : Nat) : Int) from (Int.natCast_add r top).symm,wrap_u64 (n:=((r + top : Nat) : Int)) (by omega) (by omega)]
    have hgr' : (g - 1) * top + (r + top) = head:=by
     have h1 : (g - 1 + 1) * top = g * top:=by rw [show g - 1 + 1 = g by omega]
     rw [Nat.add_mul,Nat.one_mul] at h1
     omega
    conv=>whnf
    refine And.intro (fun hc3=>?_) (fun hc3=>?_)
    ·have hgB' : g - 1 < 4294967296:=guess_small hgr' hhead (by omega)
     have hG : g - 1 ≤ q + 1:=by
      rw [← hq]
      refine guess_le (B:=4294967296) (p:=p) (by omega) hp0 htop1 b2 b2' b3 hgr' ?_ hgB'
      have h1 : (g - 1) * next ≤ 4294967295 * 4294967295:=Nat.mul_le_mul (by omega) (by omega)
      have h2 : 4294967296 * 4294967296 ≤ (r + top) * 4294967296:=Nat.mul_le_mul_right _ (by omega)
      omega
     conv=>whnf
     rw [elv]
     refine zA ?_;conv=>whnf
     refine zA ?_;conv=>whnf
     refine ⟨⟨by omega,by omega,by omega⟩,by omega,?_⟩
     have ct:=c_take M v k (a.length + 1 - k) (g - 1) hwM (by omega) (by omega) (by omega) (by
      rw [hvv,hvl,Nat.pow_succ,Nat.mul_comm (4294967296 ^ b.length)]
      exact Nat.mul_lt_mul_of_le_of_lt (by omega) hV2 (by omega))
     rw [hML,hvv,hvl,hseg.1,take_fix hVp hq.symm (by omega) hG] at ct
     conv=>whnf
     refine .gen _ _ (FnH.frame [0] ct ⟨rfl,rfl,rfl,rfl⟩ ?_ ?_) fun _=>?_
     ·all_goals exact wk
     ·repeat' first|exact rfl|exact trivial|exact wR|exact lR _|apply aI
      all_goals (show AV.ms 0 _ _ _ 1 = AV.ms 0 _ _ _ 1; congr 1 <;> omega)
     conv=>whnf
     refine And.intro (fun hGq=>?_) (fun hGq=>?_)
     ·conv=>whnf
      rw [show (((g - 1 : Nat) : Int) - 1) = (q : Int) by omega,wrap_u64 (n:=(q : Int)) (by omega) (by omega)]
      conv=>whnf
      rw [elv]
      refine zA ?_;conv=>whnf
      refine zA ?_;conv=>whnf
      refine ⟨⟨by omega,by omega,by omega⟩,by omega,?_⟩
      have cg:=c_give (mid M k (wdN (b.length + 1) (takeN s ((g - 1) * V) (b.length + 1)))) v k (a.length + 1 - k) (mid_Ws hwM (wdN_Ws _ _)) (by rw [hmidL]; omega) (by rw [hmidL]; omega)
      rw [hmidL,hvv,hvl,hGq,hgive] at cg
      rw [hGq]
      conv=>whnf
      refine .gen _ _ (FnH.frame [0] cg ⟨rfl,rfl,rfl,rfl⟩ ?_ ?_) fun _=>?_
      ·all_goals exact wk
      ·repeat' first|exact rfl|exact trivial|exact wR|exact lR _|apply aI
       all_goals (show AV.ms 0 _ _ _ 1 = AV.ms 0 _ _ _ 1; congr 1 <;> omega)
      conv=>whnf
      rw [wrap_u32 (n:=(q : Int)) (by omega) (by omega)]
      refine ⟨⟨by omega,by omega⟩,?_⟩
      dsimp only [putE]
      rw [aops]
      dsimp only [guardC]
      dsimp only [aopW,aop]
      conv=>whnf
      refine ⟨by rw [List.length_map,hQL]; omega,rfl,?_⟩
      conv=>whnf
      refine zA ?_;conv=>whnf
      refine ⟨(k,mid M k (wdN (b.length + 1) (s % V)),Q.set k (q : Int)),?_,?_,?_⟩
      ·exact hdst
      ·refine ⟨?_,.mk ?_ ⟨by simp,by simp,trivial⟩⟩
       ·all_goals exact wk
       ·repeat' first|exact rfl|exact trivial|exact wR|exact lR _|apply aI
        all_goals first | exact leRL_refl _ | (refine leRL_of ?_; rw [List.map_set]; simp [strip])
      ·show k < k + 1
       omega
     ·have hGq' : g - 1 = q:=by omega
      rw [hGq',hrest]
      conv=>whnf
      rw [wrap_u32 (n:=(q : Int)) (by omega) (by omega)]
      refine ⟨⟨by omega,by omega⟩,?_⟩
      dsimp only [putE]
      rw [aops]
      dsimp only [guardC]
      dsimp only [aopW,aop]
      conv=>whnf
      refine ⟨by rw [List.length_map,hQL]; omega,rfl,?_⟩
      conv=>whnf
      refine zA ?_;conv=>whnf
      refine ⟨(k,mid M k (wdN (b.length + 1) (s % V)),Q.set k (q : Int)),?_,?_,?_⟩
      ·exact hdst
      ·refine ⟨?_,.mk ?_ ⟨by simp,by simp,trivial⟩⟩
       ·all_goals exact wk
       ·repeat' first|exact rfl|exact trivial|exact wR|exact lR _|apply aI
        all_goals first | exact leRL_refl _ | (refine leRL_of ?_; rw [List.map_set]; simp [strip])
      ·show k < k + 1
       omega
    ·conv=>whnf
     refine ⟨(g - 1,r + top),?_,?_,?_⟩
     ·exact ⟨hgr',(by omega : q ≤ g - 1),(by omega : r + top < 4294967296),(by omega : g - 1 ≤ g0)⟩
     ·refine ⟨?_,.refl rfl⟩
      all_goals exact wk
     ·show g - 1 < g
      omega
   ·have hG : g ≤ q + 1:=hq ▸ guess_le (B:=4294967296) (p:=p) (by omega) hp0 htop1 b2 b2' b3 hgr (by omega) hgB
    conv=>whnf
    rw [elv]
    refine zA ?_;conv=>whnf
    refine zA ?_;conv=>whnf
    refine ⟨⟨by omega,by omega,by omega⟩,by omega,?_⟩
    have ct:=c_take M v k (a.length + 1 - k) (g) hwM (by omega) (by omega) (by omega) (by
     rw [hvv,hvl,Nat.pow_succ,Nat.mul_comm (4294967296 ^ b.length)]
     exact Nat.mul_lt_mul_of_le_of_lt (by omega) hV2 (by omega))
    rw [hML,hvv,hvl,hseg.1,take_fix hVp hq.symm (by omega) hG] at ct
    conv=>whnf
    refine .gen _ _ (FnH.frame [0] ct ⟨rfl,rfl,rfl,rfl⟩ ?_ ?_) fun _=>?_
    ·all_goals exact wk
    ·repeat' first|exact rfl|exact trivial|exact wR|exact lR _|apply aI
     all_goals (show AV.ms 0 _ _ _ 1 = AV.ms 0 _ _ _ 1; congr 1 <;> omega)
    conv=>whnf
    refine And.intro (fun hGq=>?_) (fun hGq=>?_)
    ·conv=>whnf
     rw [show (((g : Nat) : Int) - 1) = (q : Int) by omega,wrap_u64 (n:=(q : Int)) (by omega) (by omega)]
     conv=>whnf
     rw [elv]
     refine zA ?_;conv=>whnf
     refine zA ?_;conv=>whnf
     refine ⟨⟨by omega,by omega,by omega⟩,by omega,?_⟩
     have cg:=c_give (mid M k (wdN (b.length + 1) (takeN s ((g) * V) (b.length + 1)))) v k (a.length + 1 - k) (mid_Ws hwM (wdN_Ws _ _)) (by rw [hmidL]; omega) (by rw [hmidL]; omega)
     rw [hmidL,hvv,hvl,hGq,hgive] at cg
     rw [hGq]
     conv=>whnf
     refine .gen _ _ (FnH.frame [0] cg ⟨rfl,rfl,rfl,rfl⟩ ?_ ?_) fun _=>?_
     ·all_goals exact wk
     ·repeat' first|exact rfl|exact trivial|exact wR|exact lR _|apply aI
      all_goals (show AV.ms 0 _ _ _ 1 = AV.ms 0 _ _ _ 1; congr 1 <;> omega)
     conv=>whnf
     rw [wrap_u32 (n:=(q : Int)) (by omega) (by omega)]
     refine ⟨⟨by omega,by omega⟩,?_⟩
     dsimp only [putE]
     rw [aops]
     dsimp only [guardC]
     dsimp only [aopW,aop]
     conv=>whnf
     refine ⟨by rw [List.length_map,hQL]; omega,rfl,?_⟩
     conv=>whnf
     refine zA ?_;conv=>whnf
     refine ⟨(k,mid M k (wdN (b.length + 1) (s % V)),Q.set k (q : Int)),?_,?_,?_⟩
     ·exact hdst
     ·refine ⟨?_,.mk ?_ ⟨by simp,by simp,trivial⟩⟩
      ·all_goals exact wk
      ·repeat' first|exact rfl|exact trivial|exact wR|exact lR _|apply aI
       all_goals first | exact leRL_refl _ | (refine leRL_of ?_; rw [List.map_set]; simp [strip])
     ·show k < k + 1
      omega
    ·have hGq' : g = q:=by omega
     rw [hGq',hrest]
     conv=>whnf
     rw [wrap_u32 (n:=(q : Int)) (by omega) (by omega)]
     refine ⟨⟨by omega,by omega⟩,?_⟩
     dsimp only [putE]
     rw [aops]
     dsimp only [guardC]
     dsimp only [aopW,aop]
     conv=>whnf
     refine ⟨by rw [List.length_map,hQL]; omega,rfl,?_⟩
     conv=>whnf
     refine zA ?_;conv=>whnf
     refine ⟨(k,mid M k (wdN (b.length + 1) (s % V)),Q.set k (q : Int)),?_,?_,?_⟩
     ·exact hdst
     ·refine ⟨?_,.mk ?_ ⟨by simp,by simp,trivial⟩⟩
      ·all_goals exact wk
      ·repeat' first|exact rfl|exact trivial|exact wR|exact lR _|apply aI
       all_goals first | exact leRL_refl _ | (refine leRL_of ?_; rw [List.map_set]; simp [strip])
     ·show k < k + 1
      omega
 ·have hj0 : j = 0:=by omega
  subst hj0
  obtain ⟨f1,f2⟩:=hI.fin
  have hQL:=hI.lq
  have hML:=hI.lm
  have hcq:=c_trim Q (by omega)
  rw [f1,hres.1] at hcq
  have hcr:=c_rightP M sh (by omega) (by omega)
  rw [f2,hres.2] at hcr
  have hrl : x % y < 4294967296 ^ M.length:=by
   have h1:=Nat.mod_lt x (show 0 < y by omega)
   have h2 : 4294967296 ^ b.length ≤ 4294967296 ^ M.length:=Nat.pow_le_pow_right (by omega) (by omega)
   have h3:=val_lt hwy
   omega
  have hct:=c_trim (wdN M.length (x % y)) (by rw [wdN_len]; omega)
  rw [val_wdN hrl] at hct
  conv=>whnf
  refine .gen _ _ (FnH.frz 0 rfl rfl (by simp; omega) (FnH.ofPure hcq ?_ ⟨rfl,rfl⟩)) fun _=>?_
  ·repeat' first|exact rfl|exact trivial|exact wR|exact lR _|apply aI
   refine leRL_of ?_
   simp
   rw [List.take_of_length_le (by simp; omega)]
  conv=>whnf
  refine .gen _ _ (FnH.frz 0 rfl rfl (by simp; omega) (FnH.ofPure hcr ?_ ⟨rfl,rfl⟩)) fun _=>?_
  ·repeat' first|exact rfl|exact trivial|exact wR|exact lR _|apply aI
   refine leRL_of ?_
   simp
   rw [List.take_of_length_le (by simp; omega)]
  conv=>whnf
  refine .pure _ _ ?_ ⟨rfl,rfl⟩ hct fun _=>?_
  ·exact leL_refl _
  conv=>whnf
  refine fM ?_;(conv=>whnf);refine ⟨?_,rfl⟩;conv=>whnf
  all_goals exact wk

theorem divC (x y : Nat) (hx : (wd x).length ≤ 999999) (hy : (wd y).length ≤ 1000000) (h0 : y ≠ 0) : DivC x y:=by
 by_cases h : y < 4294967296
 ·exact div_small x y (by omega) h0 h
 ·exact div_large x y hx hy (by omega)

theorem wd_len_max {a b : List Int} (ha : Ws a) (hb : Ws b) (la : a.length ≤ 999999) (lb : b.length ≤ 999999) {x : Nat} (h : x ≤ max (val a) (val b)) : (wd x).length ≤ 999999:=by
 have h1:=wd_len_le ha
 have h2:=wd_len_le hb
 rcases Nat.le_total (val a) (val b) with hab | hab
 ·rw [Nat.max_eq_right hab] at h; have:=wd_len_mono h; omega
 ·rw [Nat.max_eq_left hab] at h; have:=wd_len_mono h; omega

theorem FnH.ok {P : Program} {f : Nat} {args : List AV} {H : Heap} {R : AV} {H' : Heap} (hf : ∃ fn,P.funcs[f]? = some fn ∧ (fn.name == "runtime.NumGoroutine") = false ∧ fn.body.isSome = true) (h : OkL args → FnH P f args H R H') : FnH P f args H R H' :=
 ⟨hf,fun c vs hr hv=>(h (EVL_ok hv)).2 c vs hr hv⟩

theorem ratAll (r : Rat) (h1 : r.num.length ≤ 999999) (h2 : r.den.length ≤ 999999) : RatC r:=by
 have key : OkL [r.av] → RatC r:=by
  intro hok
  have w1 : Ws r.num:=Ws.ok hok.1.2.1.2
  have w2 : Ws r.den:=Ws.ok hok.1.2.2.1.2
  refine ratC r (by omega) (by omega) fun _ x y hy hx hy'=>?_
  have l1:=wd_len_max w1 w2 h1 h2 hx
  have l2:=wd_len_max w1 w2 h1 h2 hy'
  exact divC x y l1 (by omega) hy
 exact ⟨FnH.ok ratC_zero.v.1 fun h=>(key h).v,FnH.ok ratC_zero.s.1 fun h=>(key h).s,FnH.ok ratC_zero.p.1 fun h=>(key h).p⟩

def shortR (r : Rat) : Bool:=decide (r.num.length ≤ 40) && decide (r.den.length ≤ 40)

theorem shortR_C {r : Rat} (h : shortR r = true) : RatC r:=by
 simp only [shortR,Bool.and_eq_true,decide_eq_true_eq] at h
 exact ratAll r (by omega) (by omega)

theorem c_Short (r : Rat) : FnH Tryz.prog 81 [r.av] [] (.bool (shortR r)) []:=by
 refine FnH.intro lay mixed Tryz.func81 (by kernel_rfl) rfl (by kernel_rfl) rfl fun hok=>?_
 conv=>whnf
 refine And.intro (fun h=>?_) (fun h=>?_)
 ·have h : r.num.length ≤ 40:=by simp only [List.length_map] at h; omega
  conv=>whnf
  refine fM ?_;(conv=>whnf);refine ⟨?_,rfl⟩;conv=>whnf
  simp [shortR,h]
  omega
 ·have h : ¬ r.num.length ≤ 40:=by simp only [List.length_map] at h; omega
  conv=>whnf
  refine fM ?_;(conv=>whnf);refine ⟨?_,rfl⟩;conv=>whnf
  simp [shortR,h]

theorem all_take {α : Type} {p : α → Bool} {l : List α} {i : Nat} (h : i < l.length) : (l.take (i + 1)).all p = ((l.take i).all p && p l[i]):=by
 rw [List.take_add_one,List.getElem?_eq_getElem h,List.all_append]; simp

theorem all_false {α : Type} {p : α → Bool} {l : List α} {x : α} (h : x ∈ l) (hp : p x = false) : l.all p = false:=by
 cases ha : l.all p with
 | false=>rfl
 | true=>have:=List.all_eq_true.1 ha x h; rw [hp] at this; cases this


theorem c_rTrim (a : List Int) (hsz : a.length ≤ 1000000) : FnH Tryz.prog 151 [wL a] [] (wL (wd (val a))) []:=by
 refine FnH.intro lay mixed Tryz.func151 (by kernel_rfl) rfl (by kernel_rfl) rfl fun hok=>?_
 have hl : a.length ≤ 9223372036854775807:=by simpa [OkL,Ok,maxL] using hok.1.1
 have hw : Ws a:=Ws.ok hok.1.2
 conv=>whnf
 refine LoopE.of <| LoopSpec.inv (.refl _ _) (fun (n : Nat)=>n ≤ a.length ∧ ∀ k,n ≤ k → a.getD k 0 = 0) (fun (n : Nat)=>[(3,.int .i64 n)]) (fun _=>_) (fun (n : Nat)=>n) a.length ?_ (fun _=>rfl) ?_ ?_
 ·exact ⟨Nat.le_refl _,fun k hk=>by rw [List.getD_eq_getElem?_getD,List.getElem?_eq_none hk]; rfl⟩
 ·repeat' first|exact rfl|exact trivial|exact wR|exact lR _|apply aI
  simp
 rintro n ⟨hn,hz⟩ _
 have fin : (n = 0 ∨ a.getD (n - 1) 0 ≠ 0) → a.take n = wd (val a):=trim_eq hw hn hz
 have cut : a.take n = wd (val a) → ((a.map (AV.int .u32)).drop (0 : Int).toNat).take ((n : Int).toNat - (0 : Int).toNat) = (wd (val a)).map (AV.int .u32):=by
  intro e
  rw [← e]; simp [List.map_take]
 have hll : a.take n = wd (val a) → (wd (val a)).length ≤ a.length:=by
  intro e
  rw [← e]; simp; omega
 conv=>whnf
 refine And.intro (fun h=>?_) (fun h=>?_)
 ·conv=>whnf
  refine zA ?_;conv=>whnf
  refine aidxN' 0 (i:=n - 1) (by omega) (by omega) ?_
  conv=>whnf
  refine And.intro (fun h0=>?_) (fun h0=>?_)
  ·conv=>whnf
   refine zA ?_;conv=>whnf
   refine ⟨n - 1,?_,?_,?_⟩
   ·refine ⟨by omega,fun k hk=>?_⟩
    by_cases hkn : k = n - 1
    ·subst hkn; exact h0
    ·exact hz k (by omega)
   ·repeat' first|exact rfl|exact trivial|exact wR|exact lR _|apply aI
    omega
   ·omega
  ·have e:=fin (.inr h0)
   have hlen:=hll e
   conv=>whnf
   refine ⟨⟨by omega,by omega,by simp; omega⟩,?_⟩
   rw [cut e]
   conv=>whnf
   refine .tok (by simp [maxL]; omega) (by simp; omega) ?_
   conv=>whnf
   refine fM ?_;(conv=>whnf);refine ⟨?_,rfl⟩;conv=>whnf
   exact ⟨rfl,leRL_of (by simp)⟩
 ·have e:=fin (.inl (by omega))
  have hlen:=hll e
  conv=>whnf
  refine ⟨⟨by omega,by omega,by simp; omega⟩,?_⟩
  rw [cut e]
  conv=>whnf
  refine .tok (by simp [maxL]; omega) (by simp; omega) ?_
  conv=>whnf
  refine fM ?_;(conv=>whnf);refine ⟨?_,rfl⟩;conv=>whnf
  exact ⟨rfl,leRL_of (by simp)⟩

theorem c_rWord (a : List Int) (i : Nat) : FnH Tryz.prog 150 [wL a,.int .i64 i] [] (.int .u64 (a.getD i 0)) []:=by
 refine FnH.intro lay mixed Tryz.func150 (by kernel_rfl) rfl (by kernel_rfl) rfl fun hok=>?_
 have hw : Ws a:=Ws.ok hok.1.2
 conv=>whnf
 refine And.intro (fun h=>?_) (fun h=>?_)
 ·have h : i < a.length:=by simp only [List.length_map] at h; omega
  conv=>whnf
  refine aidxN' 0 rfl h ?_
  conv=>whnf
  refine fM ?_;(conv=>whnf);refine ⟨?_,rfl⟩;conv=>whnf
  have:=hw.getD (i:=i)
  exact ⟨rfl,wrap_u64 (by omega) (by omega)⟩
 ·have h : a.length ≤ i:=by simp only [List.length_map] at h; omega
  conv=>whnf
  refine fM ?_;(conv=>whnf);refine ⟨?_,rfl⟩;conv=>whnf
  refine ⟨rfl,?_⟩
  rw [List.getD_eq_getElem?_getD,List.getElem?_eq_none h]; rfl

theorem r_size : FnH Tryz.prog 124 [.int .i64 1] [] (wL [1,0]) []:=by
 refine FnH.intro lay mixed Tryz.func124 (by kernel_rfl) rfl (by kernel_rfl) rfl fun hok=>?_
 conv=>whnf
 (repeat' ((first|refine LoopE.step 300 ?_|refine zY ?_|refine zN ?_|refine zI ?_|refine zD ?_|refine AIdx.mk ⟨_,⟨by decide +kernel,rfl⟩,?_⟩|refine zC ?_|refine zT ?_|refine zU ?_|refine AApp.mk (by decide +kernel) (by decide +kernel) ?_|refine AMake.wr ?_|refine ADraw.auto (by kernel_rfl) ?_);(conv=>whnf)))
 refine fM ?_;(conv=>whnf);refine ⟨?_,rfl⟩;conv=>whnf
 exact ⟨rfl,⟨rfl,by decide +kernel⟩,⟨rfl,by decide +kernel⟩,trivial⟩

theorem r_bits : FnH Tryz.prog 152 [wL [1,0]] [] (.int .i64 1) []:=by
 refine FnH.intro lay mixed Tryz.func152 (by kernel_rfl) rfl (by kernel_rfl) rfl fun hok=>?_
 conv=>whnf
 (repeat' ((first|refine LoopE.step 300 ?_|refine zY ?_|refine zN ?_|refine zI ?_|refine zD ?_|refine AIdx.mk ⟨_,⟨by decide +kernel,rfl⟩,?_⟩|refine zC ?_|refine zT ?_|refine zU ?_|refine AApp.mk (by decide +kernel) (by decide +kernel) ?_|refine AMake.wr ?_|refine ADraw.auto (by kernel_rfl) ?_);(conv=>whnf)))
 refine fM ?_;(conv=>whnf);refine ⟨?_,rfl⟩;conv=>whnf
 exact ⟨rfl,by decide +kernel⟩

theorem r_up1 : FnH Tryz.prog 242 [wL [1],.int .i64 31] [] (wL [2147483648]) []:=by
 have ct:=c_rTrim [2147483648,0] (by decide)
 rw [show wd (val [2147483648,0]) = [2147483648] from by decide +kernel] at ct
 refine FnH.intro lay mixed Tryz.func242 (by kernel_rfl) rfl (by kernel_rfl) rfl fun hok=>?_
 conv=>whnf
 (repeat' ((first|refine LoopE.step 300 ?_|refine zY ?_|refine zN ?_|refine zI ?_|refine zD ?_|refine AIdx.mk ⟨_,⟨by decide +kernel,rfl⟩,?_⟩|refine zC ?_|refine zT ?_|refine zU ?_|refine AApp.mk (by decide +kernel) (by decide +kernel) ?_|refine AMake.wr ?_|refine ADraw.auto (by kernel_rfl) ?_);(conv=>whnf)))
 refine .pure _ _ ?_ ⟨rfl,rfl⟩ (ct) fun _=>?_
 ·(repeat' (first|exact trivial|refine aI ?_ ?_|decide +kernel|exact rfl))
 conv=>whnf
 (repeat' ((first|refine LoopE.step 300 ?_|refine zY ?_|refine zN ?_|refine zI ?_|refine zD ?_|refine AIdx.mk ⟨_,⟨by decide +kernel,rfl⟩,?_⟩|refine zC ?_|refine zT ?_|refine zU ?_|refine AApp.mk (by decide +kernel) (by decide +kernel) ?_|refine AMake.wr ?_|refine ADraw.auto (by kernel_rfl) ?_);(conv=>whnf)))
 refine fM ?_;(conv=>whnf);refine ⟨?_,rfl⟩;conv=>whnf
 all_goals exact wk

theorem r_up2 : FnH Tryz.prog 242 [wL [1,0],.int .i64 31] [] (wL [2147483648]) []:=by
 have ct:=c_rTrim [2147483648,0,0] (by decide)
 rw [show wd (val [2147483648,0,0]) = [2147483648] from by decide +kernel] at ct
 refine FnH.intro lay mixed Tryz.func242 (by kernel_rfl) rfl (by kernel_rfl) rfl fun hok=>?_
 conv=>whnf
 (repeat' ((first|refine LoopE.step 300 ?_|refine zY ?_|refine zN ?_|refine zI ?_|refine zD ?_|refine AIdx.mk ⟨_,⟨by decide +kernel,rfl⟩,?_⟩|refine zC ?_|refine zT ?_|refine zU ?_|refine AApp.mk (by decide +kernel) (by decide +kernel) ?_|refine AMake.wr ?_|refine ADraw.auto (by kernel_rfl) ?_);(conv=>whnf)))
 refine .pure _ _ ?_ ⟨rfl,rfl⟩ (ct) fun _=>?_
 ·(repeat' (first|exact trivial|refine aI ?_ ?_|decide +kernel|exact rfl))
 conv=>whnf
 (repeat' ((first|refine LoopE.step 300 ?_|refine zY ?_|refine zN ?_|refine zI ?_|refine zD ?_|refine AIdx.mk ⟨_,⟨by decide +kernel,rfl⟩,?_⟩|refine zC ?_|refine zT ?_|refine zU ?_|refine AApp.mk (by decide +kernel) (by decide +kernel) ?_|refine AMake.wr ?_|refine ADraw.auto (by kernel_rfl) ?_);(conv=>whnf)))
 refine fM ?_;(conv=>whnf);refine ⟨?_,rfl⟩;conv=>whnf
 all_goals exact wk

theorem r_cmp : FnH Tryz.prog 72 [wL [2147483648],wL [2147483648]] [] (.int .i64 0) []:=by
 have cw:=c_rWord [2147483648] 0
 refine FnH.intro lay mixed Tryz.func72 (by kernel_rfl) rfl (by kernel_rfl) rfl fun hok=>?_
 conv=>whnf
 (repeat' ((first|refine LoopE.step 300 ?_|refine zY ?_|refine zN ?_|refine zI ?_|refine zD ?_|refine AIdx.mk ⟨_,⟨by decide +kernel,rfl⟩,?_⟩|refine zC ?_|refine zT ?_|refine zU ?_|refine AApp.mk (by decide +kernel) (by decide +kernel) ?_|refine AMake.wr ?_|refine ADraw.auto (by kernel_rfl) ?_);(conv=>whnf)))
 refine .pure _ _ ?_ ⟨rfl,rfl⟩ (cw) fun _=>?_
 ·(repeat' (first|exact trivial|refine aI ?_ ?_|decide +kernel|exact rfl))
 conv=>whnf
 (repeat' ((first|refine LoopE.step 300 ?_|refine zY ?_|refine zN ?_|refine zI ?_|refine zD ?_|refine AIdx.mk ⟨_,⟨by decide +kernel,rfl⟩,?_⟩|refine zC ?_|refine zT ?_|refine zU ?_|refine AApp.mk (by decide +kernel) (by decide +kernel) ?_|refine AMake.wr ?_|refine ADraw.auto (by kernel_rfl) ?_);(conv=>whnf)))
 refine .pure _ _ ?_ ⟨rfl,rfl⟩ (cw) fun _=>?_
 ·(repeat' (first|exact trivial|refine aI ?_ ?_|decide +kernel|exact rfl))
 conv=>whnf
 (repeat' ((first|refine LoopE.step 300 ?_|refine zY ?_|refine zN ?_|refine zI ?_|refine zD ?_|refine AIdx.mk ⟨_,⟨by decide +kernel,rfl⟩,?_⟩|refine zC ?_|refine zT ?_|refine zU ?_|refine AApp.mk (by decide +kernel) (by decide +kernel) ?_|refine AMake.wr ?_|refine ADraw.auto (by kernel_rfl) ?_);(conv=>whnf)))
 refine .pure _ _ ?_ ⟨rfl,rfl⟩ (cw) fun _=>?_
 ·(repeat' (first|exact trivial|refine aI ?_ ?_|decide +kernel|exact rfl))
 conv=>whnf
 (repeat' ((first|refine LoopE.step 300 ?_|refine zY ?_|refine zN ?_|refine zI ?_|refine zD ?_|refine AIdx.mk ⟨_,⟨by decide +kernel,rfl⟩,?_⟩|refine zC ?_|refine zT ?_|refine zU ?_|refine AApp.mk (by decide +kernel) (by decide +kernel) ?_|refine AMake.wr ?_|refine ADraw.auto (by kernel_rfl) ?_);(conv=>whnf)))
 refine .pure _ _ ?_ ⟨rfl,rfl⟩ (cw) fun _=>?_
 ·(repeat' (first|exact trivial|refine aI ?_ ?_|decide +kernel|exact rfl))
 conv=>whnf
 (repeat' ((first|refine LoopE.step 300 ?_|refine zY ?_|refine zN ?_|refine zI ?_|refine zD ?_|refine AIdx.mk ⟨_,⟨by decide +kernel,rfl⟩,?_⟩|refine zC ?_|refine zT ?_|refine zU ?_|refine AApp.mk (by decide +kernel) (by decide +kernel) ?_|refine AMake.wr ?_|refine ADraw.auto (by kernel_rfl) ?_);(conv=>whnf)))
 refine fM ?_;(conv=>whnf);refine ⟨?_,rfl⟩;conv=>whnf
 exact ⟨rfl,rfl⟩

theorem r_sub : FnH Tryz.prog 73 [wL [2147483648],wL [2147483648]] [] (.tup [wL [],.int .i64 0]) []:=by
 have cw:=c_rWord [2147483648] 0
 have ct:=c_rTrim [0] (by decide)
 rw [show wd (val [0]) = [] from by decide +kernel] at ct
 refine FnH.intro lay mixed Tryz.func73 (by kernel_rfl) rfl (by kernel_rfl) rfl fun hok=>?_
 conv=>whnf
 (repeat' ((first|refine LoopE.step 300 ?_|refine zY ?_|refine zN ?_|refine zI ?_|refine zD ?_|refine AIdx.mk ⟨_,⟨by decide +kernel,rfl⟩,?_⟩|refine zC ?_|refine zT ?_|refine zU ?_|refine AApp.mk (by decide +kernel) (by decide +kernel) ?_|refine AMake.wr ?_|refine ADraw.auto (by kernel_rfl) ?_);(conv=>whnf)))
 refine .pure _ _ ?_ ⟨rfl,rfl⟩ (r_cmp) fun _=>?_
 ·(repeat' (first|exact trivial|refine aI ?_ ?_|decide +kernel|exact rfl))
 conv=>whnf
 (repeat' ((first|refine LoopE.step 300 ?_|refine zY ?_|refine zN ?_|refine zI ?_|refine zD ?_|refine AIdx.mk ⟨_,⟨by decide +kernel,rfl⟩,?_⟩|refine zC ?_|refine zT ?_|refine zU ?_|refine AApp.mk (by decide +kernel) (by decide +kernel) ?_|refine AMake.wr ?_|refine ADraw.auto (by kernel_rfl) ?_);(conv=>whnf)))
 refine .pure _ _ ?_ ⟨rfl,rfl⟩ (cw) fun _=>?_
 ·(repeat' (first|exact trivial|refine aI ?_ ?_|decide +kernel|exact rfl))
 conv=>whnf
 (repeat' ((first|refine LoopE.step 300 ?_|refine zY ?_|refine zN ?_|refine zI ?_|refine zD ?_|refine AIdx.mk ⟨_,⟨by decide +kernel,rfl⟩,?_⟩|refine zC ?_|refine zT ?_|refine zU ?_|refine AApp.mk (by decide +kernel) (by decide +kernel) ?_|refine AMake.wr ?_|refine ADraw.auto (by kernel_rfl) ?_);(conv=>whnf)))
 refine .pure _ _ ?_ ⟨rfl,rfl⟩ (cw) fun _=>?_
 ·(repeat' (first|exact trivial|refine aI ?_ ?_|decide +kernel|exact rfl))
 conv=>whnf
 (repeat' ((first|refine LoopE.step 300 ?_|refine zY ?_|refine zN ?_|refine zI ?_|refine zD ?_|refine AIdx.mk ⟨_,⟨by decide +kernel,rfl⟩,?_⟩|refine zC ?_|refine zT ?_|refine zU ?_|refine AApp.mk (by decide +kernel) (by decide +kernel) ?_|refine AMake.wr ?_|refine ADraw.auto (by kernel_rfl) ?_);(conv=>whnf)))
 refine .pure _ _ ?_ ⟨rfl,rfl⟩ (ct) fun _=>?_
 ·(repeat' (first|exact trivial|refine aI ?_ ?_|decide +kernel|exact rfl))
 conv=>whnf
 (repeat' ((first|refine LoopE.step 300 ?_|refine zY ?_|refine zN ?_|refine zI ?_|refine zD ?_|refine AIdx.mk ⟨_,⟨by decide +kernel,rfl⟩,?_⟩|refine zC ?_|refine zT ?_|refine zU ?_|refine AApp.mk (by decide +kernel) (by decide +kernel) ?_|refine AMake.wr ?_|refine ADraw.auto (by kernel_rfl) ?_);(conv=>whnf)))
 refine fM ?_;(conv=>whnf);refine ⟨?_,rfl⟩;conv=>whnf
 all_goals exact wk

theorem r_down : FnH Tryz.prog 243 [wL [],.int .i64 31] [] (wL []) []:=by
 have ct:=c_rTrim [] (by decide)
 rw [show wd (val []) = [] from by decide +kernel] at ct
 refine FnH.intro lay mixed Tryz.func243 (by kernel_rfl) rfl (by kernel_rfl) rfl fun hok=>?_
 conv=>whnf
 (repeat' ((first|refine LoopE.step 300 ?_|refine zY ?_|refine zN ?_|refine zI ?_|refine zD ?_|refine AIdx.mk ⟨_,⟨by decide +kernel,rfl⟩,?_⟩|refine zC ?_|refine zT ?_|refine zU ?_|refine AApp.mk (by decide +kernel) (by decide +kernel) ?_|refine AMake.wr ?_|refine ADraw.auto (by kernel_rfl) ?_);(conv=>whnf)))
 refine .pure _ _ ?_ ⟨rfl,rfl⟩ (ct) fun _=>?_
 ·(repeat' (first|exact trivial|refine aI ?_ ?_|decide +kernel|exact rfl))
 conv=>whnf
 (repeat' ((first|refine LoopE.step 300 ?_|refine zY ?_|refine zN ?_|refine zI ?_|refine zD ?_|refine AIdx.mk ⟨_,⟨by decide +kernel,rfl⟩,?_⟩|refine zC ?_|refine zT ?_|refine zU ?_|refine AApp.mk (by decide +kernel) (by decide +kernel) ?_|refine AMake.wr ?_|refine ADraw.auto (by kernel_rfl) ?_);(conv=>whnf)))
 refine fM ?_;(conv=>whnf);refine ⟨?_,rfl⟩;conv=>whnf
 all_goals exact wk

theorem r_mul : FnH Tryz.prog 69 [wL [2147483648],wL [1]] [] (wL [2147483648]) []:=by
 have cw0:=c_rWord [1] 0
 have cw1:=c_rWord [1] 1
 have ct:=c_rTrim [2147483648,0,0] (by decide)
 rw [show wd (val [2147483648,0,0]) = [2147483648] from by decide +kernel] at ct
 refine FnH.intro lay mixed Tryz.func69 (by kernel_rfl) rfl (by kernel_rfl) rfl fun hok=>?_
 conv=>whnf
 (repeat' ((first|refine LoopE.step 300 ?_|refine zY ?_|refine zN ?_|refine zI ?_|refine zD ?_|refine AIdx.mk ⟨_,⟨by decide +kernel,rfl⟩,?_⟩|refine zC ?_|refine zT ?_|refine zU ?_|refine AApp.mk (by decide +kernel) (by decide +kernel) ?_|refine AMake.wr ?_|refine ADraw.auto (by kernel_rfl) ?_);(conv=>whnf)))
 refine ACallP.pure _ _ ?_ ⟨rfl,rfl⟩ (cw0) ?_
 ·(repeat' (first|exact trivial|refine aI ?_ ?_|decide +kernel|exact rfl))
 conv=>whnf
 (repeat' ((first|refine LoopE.step 300 ?_|refine zY ?_|refine zN ?_|refine zI ?_|refine zD ?_|refine AIdx.mk ⟨_,⟨by decide +kernel,rfl⟩,?_⟩|refine zC ?_|refine zT ?_|refine zU ?_|refine AApp.mk (by decide +kernel) (by decide +kernel) ?_|refine AMake.wr ?_|refine ADraw.auto (by kernel_rfl) ?_);(conv=>whnf)))
 refine ACallP.pure _ _ ?_ ⟨rfl,rfl⟩ (cw1) ?_
 ·(repeat' (first|exact trivial|refine aI ?_ ?_|decide +kernel|exact rfl))
 conv=>whnf
 (repeat' ((first|refine LoopE.step 300 ?_|refine zY ?_|refine zN ?_|refine zI ?_|refine zD ?_|refine AIdx.mk ⟨_,⟨by decide +kernel,rfl⟩,?_⟩|refine zC ?_|refine zT ?_|refine zU ?_|refine AApp.mk (by decide +kernel) (by decide +kernel) ?_|refine AMake.wr ?_|refine ADraw.auto (by kernel_rfl) ?_);(conv=>whnf)))
 refine .gen _ _ (FnH.frz 0 rfl rfl (by decide +kernel) (FnH.ofPure (ct) ?_ ⟨rfl,rfl⟩)) fun _=>?_
 ·(repeat' (first|exact trivial|refine aI ?_ ?_|decide +kernel|exact rfl))
 conv=>whnf
 (repeat' ((first|refine LoopE.step 300 ?_|refine zY ?_|refine zN ?_|refine zI ?_|refine zD ?_|refine AIdx.mk ⟨_,⟨by decide +kernel,rfl⟩,?_⟩|refine zC ?_|refine zT ?_|refine zU ?_|refine AApp.mk (by decide +kernel) (by decide +kernel) ?_|refine AMake.wr ?_|refine ADraw.auto (by kernel_rfl) ?_);(conv=>whnf)))
 refine fM ?_;(conv=>whnf);refine ⟨?_,rfl⟩;conv=>whnf
 all_goals exact wk

theorem r_div11 : FnH Tryz.prog 154 [wL [1],wL [1]] [] (.tup [wL [1],wL [],.int .i64 0]) []:=by
 have cw0:=c_rWord [2147483648] 0
 have cw1:=c_rWord [2147483648] 1
 have ct1:=c_rTrim [1] (by decide)
 rw [show wd (val [1]) = [1] from by decide +kernel] at ct1
 have ct2:=c_rTrim [2147483648] (by decide)
 rw [show wd (val [2147483648]) = [2147483648] from by decide +kernel] at ct2
 refine FnH.intro lay mixed Tryz.func154 (by kernel_rfl) rfl (by kernel_rfl) rfl fun hok=>?_
 conv=>whnf
 refine .pure _ _ ?_ ⟨rfl,rfl⟩ (ct1) fun _=>?_
 ·(repeat' (first|exact trivial|refine aI ?_ ?_|decide +kernel|exact rfl))
 conv=>whnf
 (repeat' ((first|refine LoopE.step 300 ?_|refine zY ?_|refine zN ?_|refine zI ?_|refine zD ?_|refine AIdx.mk ⟨_,⟨by decide +kernel,rfl⟩,?_⟩|refine zC ?_|refine zT ?_|refine zU ?_|refine AApp.mk (by decide +kernel) (by decide +kernel) ?_|refine AMake.wr ?_|refine ADraw.auto (by kernel_rfl) ?_);(conv=>whnf)))
 refine .pure _ _ ?_ ⟨rfl,rfl⟩ (r_up1) fun _=>?_
 ·(repeat' (first|exact trivial|refine aI ?_ ?_|decide +kernel|exact rfl))
 conv=>whnf
 refine .pure _ _ ?_ ⟨rfl,rfl⟩ (r_up1) fun _=>?_
 ·(repeat' (first|exact trivial|refine aI ?_ ?_|decide +kernel|exact rfl))
 conv=>whnf
 refine ADraw.mk ⟨[true,true,false,true,true,true,true,true,true,true,true,true,true,true,true],by kernel_rfl,?_⟩
 conv=>whnf
 refine And.intro (by decide +kernel) (.wr ?_)
 conv=>whnf
 refine And.intro (inr64 (by decide +kernel) (by decide +kernel)) ?_
 conv=>whnf
 refine And.intro (inr64 (by decide +kernel) (by decide +kernel)) ?_
 conv=>whnf
 refine ACut.mk ⟨by decide +kernel,?_⟩
 conv=>whnf
 refine AApp0.pure (by decide +kernel) (by decide +kernel) ⟨rfl,?_⟩
 conv=>whnf
 (repeat' ((first|refine LoopE.step 300 ?_|refine zY ?_|refine zN ?_|refine zI ?_|refine zD ?_|refine AIdx.mk ⟨_,⟨by decide +kernel,rfl⟩,?_⟩|refine zC ?_|refine zT ?_|refine zU ?_|refine AApp.mk (by decide +kernel) (by decide +kernel) ?_|refine AMake.wr ?_|refine ADraw.auto (by kernel_rfl) ?_);(conv=>whnf)))
 refine .pure _ _ ?_ ⟨rfl,rfl⟩ (ct2) fun _=>?_
 ·(repeat' (first|exact trivial|refine aI ?_ ?_|decide +kernel|exact rfl))
 conv=>whnf
 (repeat' ((first|refine LoopE.step 300 ?_|refine zY ?_|refine zN ?_|refine zI ?_|refine zD ?_|refine AIdx.mk ⟨_,⟨by decide +kernel,rfl⟩,?_⟩|refine zC ?_|refine zT ?_|refine zU ?_|refine AApp.mk (by decide +kernel) (by decide +kernel) ?_|refine AMake.wr ?_|refine ADraw.auto (by kernel_rfl) ?_);(conv=>whnf)))
 refine .pure _ _ ?_ ⟨rfl,rfl⟩ (cw1) fun _=>?_
 ·(repeat' (first|exact trivial|refine aI ?_ ?_|decide +kernel|exact rfl))
 conv=>whnf
 (repeat' ((first|refine LoopE.step 300 ?_|refine zY ?_|refine zN ?_|refine zI ?_|refine zD ?_|refine AIdx.mk ⟨_,⟨by decide +kernel,rfl⟩,?_⟩|refine zC ?_|refine zT ?_|refine zU ?_|refine AApp.mk (by decide +kernel) (by decide +kernel) ?_|refine AMake.wr ?_|refine ADraw.auto (by kernel_rfl) ?_);(conv=>whnf)))
 refine .pure _ _ ?_ ⟨rfl,rfl⟩ (cw0) fun _=>?_
 ·(repeat' (first|exact trivial|refine aI ?_ ?_|decide +kernel|exact rfl))
 conv=>whnf
 (repeat' ((first|refine LoopE.step 300 ?_|refine zY ?_|refine zN ?_|refine zI ?_|refine zD ?_|refine AIdx.mk ⟨_,⟨by decide +kernel,rfl⟩,?_⟩|refine zC ?_|refine zT ?_|refine zU ?_|refine AApp.mk (by decide +kernel) (by decide +kernel) ?_|refine AMake.wr ?_|refine ADraw.auto (by kernel_rfl) ?_);(conv=>whnf)))
 refine .pure _ _ ?_ ⟨rfl,rfl⟩ (cw0) fun _=>?_
 ·(repeat' (first|exact trivial|refine aI ?_ ?_|decide +kernel|exact rfl))
 conv=>whnf
 (repeat' ((first|refine LoopE.step 300 ?_|refine zY ?_|refine zN ?_|refine zI ?_|refine zD ?_|refine AIdx.mk ⟨_,⟨by decide +kernel,rfl⟩,?_⟩|refine zC ?_|refine zT ?_|refine zU ?_|refine AApp.mk (by decide +kernel) (by decide +kernel) ?_|refine AMake.wr ?_|refine ADraw.auto (by kernel_rfl) ?_);(conv=>whnf)))
 refine .pure _ _ ?_ ⟨rfl,rfl⟩ (r_mul) fun _=>?_
 ·(repeat' (first|exact trivial|refine aI ?_ ?_|decide +kernel|exact rfl))
 conv=>whnf
 (repeat' ((first|refine LoopE.step 300 ?_|refine zY ?_|refine zN ?_|refine zI ?_|refine zD ?_|refine AIdx.mk ⟨_,⟨by decide +kernel,rfl⟩,?_⟩|refine zC ?_|refine zT ?_|refine zU ?_|refine AApp.mk (by decide +kernel) (by decide +kernel) ?_|refine AMake.wr ?_|refine ADraw.auto (by kernel_rfl) ?_);(conv=>whnf)))
 refine .pure _ _ ?_ ⟨rfl,rfl⟩ (r_cmp) fun _=>?_
 ·(repeat' (first|exact trivial|refine aI ?_ ?_|decide +kernel|exact rfl))
 conv=>whnf
 (repeat' ((first|refine LoopE.step 300 ?_|refine zY ?_|refine zN ?_|refine zI ?_|refine zD ?_|refine AIdx.mk ⟨_,⟨by decide +kernel,rfl⟩,?_⟩|refine zC ?_|refine zT ?_|refine zU ?_|refine AApp.mk (by decide +kernel) (by decide +kernel) ?_|refine AMake.wr ?_|refine ADraw.auto (by kernel_rfl) ?_);(conv=>whnf)))
 refine .pure _ _ ?_ ⟨rfl,rfl⟩ (r_sub) fun _=>?_
 ·(repeat' (first|exact trivial|refine aI ?_ ?_|decide +kernel|exact rfl))
 conv=>whnf
 (repeat' ((first|refine LoopE.step 300 ?_|refine zY ?_|refine zN ?_|refine zI ?_|refine zD ?_|refine AIdx.mk ⟨_,⟨by decide +kernel,rfl⟩,?_⟩|refine zC ?_|refine zT ?_|refine zU ?_|refine AApp.mk (by decide +kernel) (by decide +kernel) ?_|refine AMake.wr ?_|refine ADraw.auto (by kernel_rfl) ?_);(conv=>whnf)))
 refine .gen _ _ (FnH.frz 0 rfl rfl (by decide +kernel) (FnH.ofPure (ct1) ?_ ⟨rfl,rfl⟩)) fun _=>?_
 ·(repeat' (first|exact trivial|refine aI ?_ ?_|decide +kernel|exact rfl))
 conv=>whnf
 (repeat' ((first|refine LoopE.step 300 ?_|refine zY ?_|refine zN ?_|refine zI ?_|refine zD ?_|refine AIdx.mk ⟨_,⟨by decide +kernel,rfl⟩,?_⟩|refine zC ?_|refine zT ?_|refine zU ?_|refine AApp.mk (by decide +kernel) (by decide +kernel) ?_|refine AMake.wr ?_|refine ADraw.auto (by kernel_rfl) ?_);(conv=>whnf)))
 refine .pure _ _ ?_ ⟨rfl,rfl⟩ (r_down) fun _=>?_
 ·(repeat' (first|exact trivial|refine aI ?_ ?_|decide +kernel|exact rfl))
 conv=>whnf
 (repeat' ((first|refine LoopE.step 300 ?_|refine zY ?_|refine zN ?_|refine zI ?_|refine zD ?_|refine AIdx.mk ⟨_,⟨by decide +kernel,rfl⟩,?_⟩|refine zC ?_|refine zT ?_|refine zU ?_|refine AApp.mk (by decide +kernel) (by decide +kernel) ?_|refine AMake.wr ?_|refine ADraw.auto (by kernel_rfl) ?_);(conv=>whnf)))
 refine fM ?_;(conv=>whnf);refine ⟨?_,rfl⟩;conv=>whnf
 (repeat' (first|exact trivial|refine aI ?_ ?_|decide +kernel|exact rfl))

theorem r_div101 : FnH Tryz.prog 154 [wL [1,0],wL [1]] [] (.tup [wL [1],wL [],.int .i64 0]) []:=by
 have cw0:=c_rWord [2147483648] 0
 have cw1:=c_rWord [2147483648] 1
 have ct1:=c_rTrim [1] (by decide)
 rw [show wd (val [1]) = [1] from by decide +kernel] at ct1
 have ct2:=c_rTrim [2147483648] (by decide)
 rw [show wd (val [2147483648]) = [2147483648] from by decide +kernel] at ct2
 refine FnH.intro lay mixed Tryz.func154 (by kernel_rfl) rfl (by kernel_rfl) rfl fun hok=>?_
 conv=>whnf
 refine .pure _ _ ?_ ⟨rfl,rfl⟩ (ct1) fun _=>?_
 ·(repeat' (first|exact trivial|refine aI ?_ ?_|decide +kernel|exact rfl))
 conv=>whnf
 (repeat' ((first|refine LoopE.step 300 ?_|refine zY ?_|refine zN ?_|refine zI ?_|refine zD ?_|refine AIdx.mk ⟨_,⟨by decide +kernel,rfl⟩,?_⟩|refine zC ?_|refine zT ?_|refine zU ?_|refine AApp.mk (by decide +kernel) (by decide +kernel) ?_|refine AMake.wr ?_|refine ADraw.auto (by kernel_rfl) ?_);(conv=>whnf)))
 refine .pure _ _ ?_ ⟨rfl,rfl⟩ (r_up2) fun _=>?_
 ·(repeat' (first|exact trivial|refine aI ?_ ?_|decide +kernel|exact rfl))
 conv=>whnf
 refine .pure _ _ ?_ ⟨rfl,rfl⟩ (r_up1) fun _=>?_
 ·(repeat' (first|exact trivial|refine aI ?_ ?_|decide +kernel|exact rfl))
 conv=>whnf
 refine ADraw.mk ⟨[true,true,false,true,true,true,true,true,true,true,true,true,true,true,true],by kernel_rfl,?_⟩
 conv=>whnf
 refine And.intro (by decide +kernel) (.wr ?_)
 conv=>whnf
 refine And.intro (inr64 (by decide +kernel) (by decide +kernel)) ?_
 conv=>whnf
 refine And.intro (inr64 (by decide +kernel) (by decide +kernel)) ?_
 conv=>whnf
 refine ACut.mk ⟨by decide +kernel,?_⟩
 conv=>whnf
 refine AApp0.pure (by decide +kernel) (by decide +kernel) ⟨rfl,?_⟩
 conv=>whnf
 (repeat' ((first|refine LoopE.step 300 ?_|refine zY ?_|refine zN ?_|refine zI ?_|refine zD ?_|refine AIdx.mk ⟨_,⟨by decide +kernel,rfl⟩,?_⟩|refine zC ?_|refine zT ?_|refine zU ?_|refine AApp.mk (by decide +kernel) (by decide +kernel) ?_|refine AMake.wr ?_|refine ADraw.auto (by kernel_rfl) ?_);(conv=>whnf)))
 refine .pure _ _ ?_ ⟨rfl,rfl⟩ (ct2) fun _=>?_
 ·(repeat' (first|exact trivial|refine aI ?_ ?_|decide +kernel|exact rfl))
 conv=>whnf
 (repeat' ((first|refine LoopE.step 300 ?_|refine zY ?_|refine zN ?_|refine zI ?_|refine zD ?_|refine AIdx.mk ⟨_,⟨by decide +kernel,rfl⟩,?_⟩|refine zC ?_|refine zT ?_|refine zU ?_|refine AApp.mk (by decide +kernel) (by decide +kernel) ?_|refine AMake.wr ?_|refine ADraw.auto (by kernel_rfl) ?_);(conv=>whnf)))
 refine .pure _ _ ?_ ⟨rfl,rfl⟩ (cw1) fun _=>?_
 ·(repeat' (first|exact trivial|refine aI ?_ ?_|decide +kernel|exact rfl))
 conv=>whnf
 (repeat' ((first|refine LoopE.step 300 ?_|refine zY ?_|refine zN ?_|refine zI ?_|refine zD ?_|refine AIdx.mk ⟨_,⟨by decide +kernel,rfl⟩,?_⟩|refine zC ?_|refine zT ?_|refine zU ?_|refine AApp.mk (by decide +kernel) (by decide +kernel) ?_|refine AMake.wr ?_|refine ADraw.auto (by kernel_rfl) ?_);(conv=>whnf)))
 refine .pure _ _ ?_ ⟨rfl,rfl⟩ (cw0) fun _=>?_
 ·(repeat' (first|exact trivial|refine aI ?_ ?_|decide +kernel|exact rfl))
 conv=>whnf
 (repeat' ((first|refine LoopE.step 300 ?_|refine zY ?_|refine zN ?_|refine zI ?_|refine zD ?_|refine AIdx.mk ⟨_,⟨by decide +kernel,rfl⟩,?_⟩|refine zC ?_|refine zT ?_|refine zU ?_|refine AApp.mk (by decide +kernel) (by decide +kernel) ?_|refine AMake.wr ?_|refine ADraw.auto (by kernel_rfl) ?_);(conv=>whnf)))
 refine .pure _ _ ?_ ⟨rfl,rfl⟩ (cw0) fun _=>?_
 ·(repeat' (first|exact trivial|refine aI ?_ ?_|decide +kernel|exact rfl))
 conv=>whnf
 (repeat' ((first|refine LoopE.step 300 ?_|refine zY ?_|refine zN ?_|refine zI ?_|refine zD ?_|refine AIdx.mk ⟨_,⟨by decide +kernel,rfl⟩,?_⟩|refine zC ?_|refine zT ?_|refine zU ?_|refine AApp.mk (by decide +kernel) (by decide +kernel) ?_|refine AMake.wr ?_|refine ADraw.auto (by kernel_rfl) ?_);(conv=>whnf)))
 refine .pure _ _ ?_ ⟨rfl,rfl⟩ (r_mul) fun _=>?_
 ·(repeat' (first|exact trivial|refine aI ?_ ?_|decide +kernel|exact rfl))
 conv=>whnf
 (repeat' ((first|refine LoopE.step 300 ?_|refine zY ?_|refine zN ?_|refine zI ?_|refine zD ?_|refine AIdx.mk ⟨_,⟨by decide +kernel,rfl⟩,?_⟩|refine zC ?_|refine zT ?_|refine zU ?_|refine AApp.mk (by decide +kernel) (by decide +kernel) ?_|refine AMake.wr ?_|refine ADraw.auto (by kernel_rfl) ?_);(conv=>whnf)))
 refine .pure _ _ ?_ ⟨rfl,rfl⟩ (r_cmp) fun _=>?_
 ·(repeat' (first|exact trivial|refine aI ?_ ?_|decide +kernel|exact rfl))
 conv=>whnf
 (repeat' ((first|refine LoopE.step 300 ?_|refine zY ?_|refine zN ?_|refine zI ?_|refine zD ?_|refine AIdx.mk ⟨_,⟨by decide +kernel,rfl⟩,?_⟩|refine zC ?_|refine zT ?_|refine zU ?_|refine AApp.mk (by decide +kernel) (by decide +kernel) ?_|refine AMake.wr ?_|refine ADraw.auto (by kernel_rfl) ?_);(conv=>whnf)))
 refine .pure _ _ ?_ ⟨rfl,rfl⟩ (r_sub) fun _=>?_
 ·(repeat' (first|exact trivial|refine aI ?_ ?_|decide +kernel|exact rfl))
 conv=>whnf
 (repeat' ((first|refine LoopE.step 300 ?_|refine zY ?_|refine zN ?_|refine zI ?_|refine zD ?_|refine AIdx.mk ⟨_,⟨by decide +kernel,rfl⟩,?_⟩|refine zC ?_|refine zT ?_|refine zU ?_|refine AApp.mk (by decide +kernel) (by decide +kernel) ?_|refine AMake.wr ?_|refine ADraw.auto (by kernel_rfl) ?_);(conv=>whnf)))
 refine .gen _ _ (FnH.frz 0 rfl rfl (by decide +kernel) (FnH.ofPure (ct1) ?_ ⟨rfl,rfl⟩)) fun _=>?_
 ·(repeat' (first|exact trivial|refine aI ?_ ?_|decide +kernel|exact rfl))
 conv=>whnf
 (repeat' ((first|refine LoopE.step 300 ?_|refine zY ?_|refine zN ?_|refine zI ?_|refine zD ?_|refine AIdx.mk ⟨_,⟨by decide +kernel,rfl⟩,?_⟩|refine zC ?_|refine zT ?_|refine zU ?_|refine AApp.mk (by decide +kernel) (by decide +kernel) ?_|refine AMake.wr ?_|refine ADraw.auto (by kernel_rfl) ?_);(conv=>whnf)))
 refine .pure _ _ ?_ ⟨rfl,rfl⟩ (r_down) fun _=>?_
 ·(repeat' (first|exact trivial|refine aI ?_ ?_|decide +kernel|exact rfl))
 conv=>whnf
 (repeat' ((first|refine LoopE.step 300 ?_|refine zY ?_|refine zN ?_|refine zI ?_|refine zD ?_|refine AIdx.mk ⟨_,⟨by decide +kernel,rfl⟩,?_⟩|refine zC ?_|refine zT ?_|refine zU ?_|refine AApp.mk (by decide +kernel) (by decide +kernel) ?_|refine AMake.wr ?_|refine ADraw.auto (by kernel_rfl) ?_);(conv=>whnf)))
 refine fM ?_;(conv=>whnf);refine ⟨?_,rfl⟩;conv=>whnf
 (repeat' (first|exact trivial|refine aI ?_ ?_|decide +kernel|exact rfl))

theorem r_gcd : FnH Tryz.prog 153 [wL [1,0],wL [1,0]] [] (wL [1]) []:=by
 have ct:=c_rTrim [1,0] (by decide)
 rw [show wd (val [1,0]) = [1] from by decide +kernel] at ct
 refine FnH.intro lay mixed Tryz.func153 (by kernel_rfl) rfl (by kernel_rfl) rfl fun hok=>?_
 conv=>whnf
 refine .pure _ _ ?_ ⟨rfl,rfl⟩ (ct) fun _=>?_
 ·(repeat' (first|exact trivial|refine aI ?_ ?_|decide +kernel|exact rfl))
 conv=>whnf
 (repeat' ((first|refine LoopE.step 300 ?_|refine zY ?_|refine zN ?_|refine zI ?_|refine zD ?_|refine AIdx.mk ⟨_,⟨by decide +kernel,rfl⟩,?_⟩|refine zC ?_|refine zT ?_|refine zU ?_|refine AApp.mk (by decide +kernel) (by decide +kernel) ?_|refine AMake.wr ?_|refine ADraw.auto (by kernel_rfl) ?_);(conv=>whnf)))
 refine .pure _ _ ?_ ⟨rfl,rfl⟩ (ct) fun _=>?_
 ·(repeat' (first|exact trivial|refine aI ?_ ?_|decide +kernel|exact rfl))
 conv=>whnf
 (repeat' ((first|refine LoopE.step 300 ?_|refine zY ?_|refine zN ?_|refine zI ?_|refine zD ?_|refine AIdx.mk ⟨_,⟨by decide +kernel,rfl⟩,?_⟩|refine zC ?_|refine zT ?_|refine zU ?_|refine AApp.mk (by decide +kernel) (by decide +kernel) ?_|refine AMake.wr ?_|refine ADraw.auto (by kernel_rfl) ?_);(conv=>whnf)))
 refine .pure _ _ ?_ ⟨rfl,rfl⟩ (r_div11) fun _=>?_
 ·(repeat' (first|exact trivial|refine aI ?_ ?_|decide +kernel|exact rfl))
 conv=>whnf
 (repeat' ((first|refine LoopE.step 300 ?_|refine zY ?_|refine zN ?_|refine zI ?_|refine zD ?_|refine AIdx.mk ⟨_,⟨by decide +kernel,rfl⟩,?_⟩|refine zC ?_|refine zT ?_|refine zU ?_|refine AApp.mk (by decide +kernel) (by decide +kernel) ?_|refine AMake.wr ?_|refine ADraw.auto (by kernel_rfl) ?_);(conv=>whnf)))
 refine fM ?_;(conv=>whnf);refine ⟨?_,rfl⟩;conv=>whnf
 (repeat' (first|exact trivial|refine aI ?_ ?_|decide +kernel|exact rfl))

theorem r_from : FnH Tryz.prog 70 [.bool false,wL [1,0],wL [1,0]] [] (.tup [Rat.av ⟨false,[1],[1]⟩,.int .i64 0]) []:=by
 refine FnH.intro lay mixed Tryz.func70 (by kernel_rfl) rfl (by kernel_rfl) rfl fun hok=>?_
 conv=>whnf
 refine .pure _ _ ?_ ⟨rfl,rfl⟩ (r_bits) fun _=>?_
 ·(repeat' (first|exact trivial|refine aI ?_ ?_|decide +kernel|exact rfl))
 conv=>whnf
 (repeat' ((first|refine LoopE.step 300 ?_|refine zY ?_|refine zN ?_|refine zI ?_|refine zD ?_|refine AIdx.mk ⟨_,⟨by decide +kernel,rfl⟩,?_⟩|refine zC ?_|refine zT ?_|refine zU ?_|refine AApp.mk (by decide +kernel) (by decide +kernel) ?_|refine AMake.wr ?_|refine ADraw.auto (by kernel_rfl) ?_);(conv=>whnf)))
 refine .pure _ _ ?_ ⟨rfl,rfl⟩ (r_bits) fun _=>?_
 ·(repeat' (first|exact trivial|refine aI ?_ ?_|decide +kernel|exact rfl))
 conv=>whnf
 (repeat' ((first|refine LoopE.step 300 ?_|refine zY ?_|refine zN ?_|refine zI ?_|refine zD ?_|refine AIdx.mk ⟨_,⟨by decide +kernel,rfl⟩,?_⟩|refine zC ?_|refine zT ?_|refine zU ?_|refine AApp.mk (by decide +kernel) (by decide +kernel) ?_|refine AMake.wr ?_|refine ADraw.auto (by kernel_rfl) ?_);(conv=>whnf)))
 refine .pure _ _ ?_ ⟨rfl,rfl⟩ (r_gcd) fun _=>?_
 ·(repeat' (first|exact trivial|refine aI ?_ ?_|decide +kernel|exact rfl))
 conv=>whnf
 (repeat' ((first|refine LoopE.step 300 ?_|refine zY ?_|refine zN ?_|refine zI ?_|refine zD ?_|refine AIdx.mk ⟨_,⟨by decide +kernel,rfl⟩,?_⟩|refine zC ?_|refine zT ?_|refine zU ?_|refine AApp.mk (by decide +kernel) (by decide +kernel) ?_|refine AMake.wr ?_|refine ADraw.auto (by kernel_rfl) ?_);(conv=>whnf)))
 refine .pure _ _ ?_ ⟨rfl,rfl⟩ (r_div101) fun _=>?_
 ·(repeat' (first|exact trivial|refine aI ?_ ?_|decide +kernel|exact rfl))
 conv=>whnf
 (repeat' ((first|refine LoopE.step 300 ?_|refine zY ?_|refine zN ?_|refine zI ?_|refine zD ?_|refine AIdx.mk ⟨_,⟨by decide +kernel,rfl⟩,?_⟩|refine zC ?_|refine zT ?_|refine zU ?_|refine AApp.mk (by decide +kernel) (by decide +kernel) ?_|refine AMake.wr ?_|refine ADraw.auto (by kernel_rfl) ?_);(conv=>whnf)))
 refine .pure _ _ ?_ ⟨rfl,rfl⟩ (r_div101) fun _=>?_
 ·(repeat' (first|exact trivial|refine aI ?_ ?_|decide +kernel|exact rfl))
 conv=>whnf
 (repeat' ((first|refine LoopE.step 300 ?_|refine zY ?_|refine zN ?_|refine zI ?_|refine zD ?_|refine AIdx.mk ⟨_,⟨by decide +kernel,rfl⟩,?_⟩|refine zC ?_|refine zT ?_|refine zU ?_|refine AApp.mk (by decide +kernel) (by decide +kernel) ?_|refine AMake.wr ?_|refine ADraw.auto (by kernel_rfl) ?_);(conv=>whnf)))
 refine fM ?_;(conv=>whnf);refine ⟨?_,rfl⟩;conv=>whnf
 (repeat' (first|exact trivial|refine aI ?_ ?_|decide +kernel|exact rfl))

theorem r_make : FnH Tryz.prog 46 [.int .i64 1,.int .i64 1] [] (.tup [Rat.av ⟨false,[1],[1]⟩,.int .i64 0]) []:=by
 refine FnH.intro lay mixed Tryz.func46 (by kernel_rfl) rfl (by kernel_rfl) rfl fun hok=>?_
 conv=>whnf
 refine .pure _ _ ?_ ⟨rfl,rfl⟩ (r_size) fun _=>?_
 ·(repeat' (first|exact trivial|refine aI ?_ ?_|decide +kernel|exact rfl))
 conv=>whnf
 (repeat' ((first|refine LoopE.step 300 ?_|refine zY ?_|refine zN ?_|refine zI ?_|refine zD ?_|refine AIdx.mk ⟨_,⟨by decide +kernel,rfl⟩,?_⟩|refine zC ?_|refine zT ?_|refine zU ?_|refine AApp.mk (by decide +kernel) (by decide +kernel) ?_|refine AMake.wr ?_|refine ADraw.auto (by kernel_rfl) ?_);(conv=>whnf)))
 refine .pure _ _ ?_ ⟨rfl,rfl⟩ (r_size) fun _=>?_
 ·(repeat' (first|exact trivial|refine aI ?_ ?_|decide +kernel|exact rfl))
 conv=>whnf
 (repeat' ((first|refine LoopE.step 300 ?_|refine zY ?_|refine zN ?_|refine zI ?_|refine zD ?_|refine AIdx.mk ⟨_,⟨by decide +kernel,rfl⟩,?_⟩|refine zC ?_|refine zT ?_|refine zU ?_|refine AApp.mk (by decide +kernel) (by decide +kernel) ?_|refine AMake.wr ?_|refine ADraw.auto (by kernel_rfl) ?_);(conv=>whnf)))
 refine .pure _ _ ?_ ⟨rfl,rfl⟩ r_from fun _=>?_
 ·refine ⟨?_,le0_refl _,le0_refl _,trivial⟩
  show _ ↔ _
  simp
 conv=>whnf
 refine fM ?_;(conv=>whnf);refine ⟨?_,rfl⟩;conv=>whnf
 (repeat' (first|exact trivial|refine aI ?_ ?_|decide +kernel|exact rfl))

theorem r_of : FnH Tryz.prog 149 [.int .i64 1] [] (Rat.av ⟨false,[1],[1]⟩) []:=by
 refine FnH.intro lay mixed Tryz.func149 (by kernel_rfl) rfl (by kernel_rfl) rfl fun hok=>?_
 conv=>whnf
 refine .pure _ _ ?_ ⟨rfl,rfl⟩ (r_make) fun _=>?_
 ·(repeat' (first|exact trivial|refine aI ?_ ?_|decide +kernel|exact rfl))
 conv=>whnf
 (repeat' ((first|refine LoopE.step 300 ?_|refine zY ?_|refine zN ?_|refine zI ?_|refine zD ?_|refine AIdx.mk ⟨_,⟨by decide +kernel,rfl⟩,?_⟩|refine zC ?_|refine zT ?_|refine zU ?_|refine AApp.mk (by decide +kernel) (by decide +kernel) ?_|refine AMake.wr ?_|refine ADraw.auto (by kernel_rfl) ?_);(conv=>whnf)))
 refine fM ?_;(conv=>whnf);refine ⟨?_,rfl⟩;conv=>whnf
 (repeat' (first|exact trivial|refine aI ?_ ?_|decide +kernel|exact rfl))

theorem lt_of_drop {a b : List Int} (ha : Ws a) (hb : Ws b) {i : Nat} (h : val (a.drop i) < val (b.drop i)) : val a < val b:=by
 rw [← val_drop ha,← val_drop hb] at h
 apply Classical.byContradiction
 intro hn
 have:=Nat.div_le_div_right (c:=4294967296 ^ i) (Nat.le_of_not_lt hn)
 omega

theorem c_rCmp (a b : List Int) (ha : a.length ≤ 1000001) (hb : b.length ≤ 1000001) : FnH Tryz.prog 72 [wL a,wL b] [] (.int .i64 (cmpN (val a) (val b))) []:=by
 refine FnH.intro lay mixed Tryz.func72 (by kernel_rfl) rfl (by kernel_rfl) rfl fun hok=>?_
 have wa : Ws a:=Ws.ok hok.1.2
 have wb : Ws b:=Ws.ok hok.2.1.2
 conv=>whnf
 obtain ⟨m,hm⟩ : ∃ m : Nat,max (((a.map (AV.int .u32)).length : Nat) : Int) (((b.map (AV.int .u32)).length : Nat) : Int) = (m : Int):=⟨max a.length b.length,by simp; omega⟩
 have hm1 : a.length ≤ m ∧ b.length ≤ m ∧ m ≤ 1000001:=by simp at hm; omega
 rw [hm]
 refine ⟨inr64 (by omega) (by omega),?_⟩
 conv=>whnf
 refine LoopE.of <| LoopSpec.inv (.refl _ _) (fun (n : Nat)=>n ≤ m ∧ val (a.drop n) = val (b.drop n)) (fun (n : Nat)=>[(5,.int .i64 ((n : Int) - 1))]) (fun _=>_) (fun (n : Nat)=>n) m ?_ (fun _=>rfl) ?_ ?_
 ·exact ⟨Nat.le_refl _,by rw [List.drop_eq_nil_of_le hm1.1,List.drop_eq_nil_of_le hm1.2.1]⟩
 ·all_goals exact wk
 rintro n ⟨hn,hd⟩ _
 conv=>whnf
 refine And.intro (fun h0=>?_) (fun h0=>?_)
 ·obtain ⟨i,rfl⟩ : ∃ i,n = i + 1:=⟨n - 1,by omega⟩
  have e1 : (((i + 1 : Nat) : Int) - 1) = (i : Int):=by omega
  have ca:=c_rWord a i
  have cb:=c_rWord b i
  have hva:=val_hd a i
  have hvb:=val_hd b i
  have hxa:=wa.getD (i:=i)
  have hxb:=wb.getD (i:=i)
  rw [e1]
  generalize a.getD i 0 = x at *
  generalize b.getD i 0 = y at *
  conv=>whnf
  refine .pure _ _ ?_ ⟨rfl,rfl⟩ ca fun _=>?_
  ·exact leL_refl _
  conv=>whnf
  refine .pure _ _ ?_ ⟨rfl,rfl⟩ cb fun _=>?_
  ·exact leL_refl _
  conv=>whnf
  refine And.intro (fun h1=>?_) (fun h1=>?_)
  ·conv=>whnf
   refine fM ?_;(conv=>whnf);refine ⟨?_,rfl⟩;conv=>whnf
   refine ⟨rfl,?_⟩
   rw [cmpN,if_pos (lt_of_drop wa wb (i:=i) (by omega))]
  conv=>whnf
  refine .pure _ _ ?_ ⟨rfl,rfl⟩ ca fun _=>?_
  ·exact leL_refl _
  conv=>whnf
  refine .pure _ _ ?_ ⟨rfl,rfl⟩ cb fun _=>?_
  ·exact leL_refl _
  conv=>whnf
  refine And.intro (fun h2=>?_) (fun h2=>?_)
  ·have:=lt_of_drop wb wa (i:=i) (by omega)
   conv=>whnf
   refine fM ?_;(conv=>whnf);refine ⟨?_,rfl⟩;conv=>whnf
   refine ⟨rfl,?_⟩
   rw [cmpN,if_neg (by omega),if_pos this]
  conv=>whnf
  refine zA ?_;conv=>whnf
  refine ⟨i,?_,?_,?_⟩
  ·exact ⟨by omega,by omega⟩
  ·all_goals exact wk
  ·omega
 ·have hn0 : n = 0:=by omega
  subst hn0
  simp only [List.drop_zero] at hd
  conv=>whnf
  refine fM ?_;(conv=>whnf);refine ⟨?_,rfl⟩;conv=>whnf
  refine ⟨rfl,?_⟩
  rw [cmpN,if_neg (by omega),if_neg (by omega)]

theorem val_take_lt {l : List Int} {n : Nat} (h : val l < 4294967296 ^ n) : val (l.take n) = val l:=by
 by_cases hn : n ≤ l.length
 ·have e:=val_take_drop n hn
  have h0 : val (l.drop n) = 0:=by
   apply Classical.byContradiction
   intro hne
   have : 4294967296 ^ n * 1 ≤ 4294967296 ^ n * val (l.drop n):=Nat.mul_le_mul_left _ (by omega)
   omega
  rw [h0,Nat.mul_zero] at e
  omega
 ·rw [List.take_of_length_le (by omega)]

theorem rsub_arith {p B x low b y b' va vb s : Nat} (h1 : x + B * b' = y + low + b) (h : va + p * b = s + vb) : va + p * x + p * B * b' = s + p * y + (vb + p * low):=by
 have e1 : p * (x + B * b') = p * (y + low + b):=by rw [h1]
 rw [Nat.mul_add,Nat.mul_add,Nat.mul_add,← Nat.mul_assoc] at e1
 omega

theorem c_rSub (a b : List Int) (ha : a.length ≤ 1000000) (hb : b.length ≤ 1000000) (R : AV) (hR : R = if val a < val b then .tup [wL [],.int .i64 3] else .tup [wL (wd (val a - val b)),.int .i64 0]) :
  FnH Tryz.prog 73 [wL a,wL b] [] R []:=by
 refine FnH.intro lay mixed Tryz.func73 (by kernel_rfl) rfl (by kernel_rfl) rfl fun hok=>?_
 have wa : Ws a:=Ws.ok hok.1.2
 have wb : Ws b:=Ws.ok hok.2.1.2
 conv=>whnf
 refine .pure _ _ ?_ ⟨rfl,rfl⟩ (c_rCmp a b (by omega) (by omega)) fun _=>?_
 ·exact leL_refl _
 conv=>whnf
 refine And.intro (fun h=>?_) (fun h=>?_)
 ·have hlt : val a < val b:=by
   unfold cmpN at h
   split at h
   ·assumption
   ·split at h <;> omega
  rw [if_pos hlt] at hR
  subst hR
  conv=>whnf
  refine fM ?_;(conv=>whnf);refine ⟨?_,rfl⟩;conv=>whnf
  all_goals exact wk
 have hge : ¬ val a < val b:=by
  intro hlt
  unfold cmpN at h
  rw [if_pos hlt] at h
  omega
 rw [if_neg hge] at hR
 subst hR
 conv=>whnf
 refine LoopE.of <| LoopSpec.inv (.grow 6 1 [] _ rfl (.inl ⟨rfl,rfl⟩) (.refl _ _)) (fun x : Nat × Nat × List Int=>x.1 ≤ a.length ∧ x.2.1 ≤ 1 ∧ Ws x.2.2 ∧ x.2.2.length = x.1 ∧ val (a.take x.1) + 4294967296 ^ x.1 * x.2.1 = val x.2.2 + val (b.take x.1))
  (fun | (i,b,s)=>[(16,.int .i64 i),(7,.int .u64 b),(6,.sl 1 (s.map (.int .u32)) (.own 0))]) (fun | (_,_,s)=>[(0,.tok 1 s.length)])
  (fun x=>a.length - x.1) (0,0,[]) ?_ (fun _=>rfl) ?_ ?_
 ·exact ⟨Nat.zero_le _,by simp,Ws.nil,rfl,by simp [val]⟩
 ·refine ⟨?_,.mk ?_ ⟨by simp,trivial⟩⟩
  ·all_goals exact wk
  ·all_goals exact wk
 rintro ⟨i,bo,s⟩ ⟨hi,hbo,hws,hsl,hv⟩ _
 simp only at hi hbo hws hsl hv
 (try dsimp only[awp]);conv=>whnf
 refine And.intro (fun h=>?_) (fun h=>?_)
 ·have hlt : i < a.length:=by simpa using h
  have ca:=c_rWord a i
  have cb:=c_rWord b i
  have hva:=val_take_getD (l:=a) (i:=i)
  have hvb:=val_take_getD (l:=b) (i:=i)
  have hxa:=wa.getD (i:=i)
  have hxb:=wb.getD (i:=i)
  generalize a.getD i 0 = x0 at *
  generalize b.getD i 0 = y0 at *
  obtain ⟨x,rfl⟩ : ∃ x : Nat,x0 = x:=⟨x0.toNat,by omega⟩
  obtain ⟨w,rfl⟩ : ∃ x : Nat,y0 = x:=⟨y0.toNat,by omega⟩
  rw [Int.toNat_natCast] at hva hvb
  conv=>whnf
  refine .gen _ _ (FnH.ofPure ca (leL_refl _) ⟨rfl,rfl⟩) fun _=>?_
  conv=>whnf
  refine .gen _ _ (FnH.ofPure cb (leL_refl _) ⟨rfl,rfl⟩) fun _=>?_
  conv=>whnf
  obtain ⟨D,hD,hD1,hD2,hD3⟩:=sub_word (x:=x) (low:=w) (b:=bo) (by omega) (by omega) hbo
  rw [hD]
  conv=>whnf
  rw [wrapu32_mod (a:=D)]
  have hy : D % 4294967296 < 4294967296:=Nat.mod_lt _ (by decide)
  generalize D % 4294967296 = y at *
  refine ⟨by rw [List.length_map],?_⟩
  refine ⟨by simp [maxL]; omega,by simp; omega,?_⟩
  conv=>whnf
  refine ⟨by decide,?_⟩
  rw [shr_63]
  conv=>whnf
  refine zA ?_;conv=>whnf
  refine ⟨(i + 1,D / 9223372036854775808,s ++ [(y : Int)]),?_,?_,?_⟩
  ·refine ⟨hlt,hD2,hws.append (Ws.cons (by omega) Ws.nil),by simp [hsl],?_⟩
   show val (a.take (i + 1)) + 4294967296 ^ (i + 1) * (D / 9223372036854775808) = val (s ++ [(y : Int)]) + val (b.take (i + 1))
   have e1 : val (s ++ [(y : Int)]) = val s + 4294967296 ^ i * y:=by rw [val_append,hsl]; simp [val]
   rw [hva,hvb,e1,Nat.pow_succ]
   exact rsub_arith hD3 hv
  ·refine ⟨?_,.mk ?_ ⟨by simp,trivial⟩⟩
   ·repeat' first|exact rfl|exact trivial|exact wR|exact lR _|apply aI
    all_goals first | (refine leRL_of ?_; simp [strip]; done) | simp
   ·repeat' first|exact rfl|exact trivial|exact wR|exact lR _|apply aI
    all_goals simp
  ·show a.length - (i + 1) < a.length - i
   omega
 ·have hil : i = a.length:=by have : ¬ i < a.length:=by simpa using h
                              omega
  subst hil
  rw [List.take_length] at hv
  have hva:=val_lt wa
  rw [val_take_lt (by omega)] at hv
  have hvs:=val_lt hws
  rw [hsl] at hvs
  have hfin : val s = val a - val b:=by
   have hb2 : bo = 0 ∨ bo = 1:=by omega
   rcases hb2 with rfl | rfl
   ·omega
   ·omega
  have ct:=c_rTrim s (by omega)
  rw [hfin] at ct
  conv=>whnf
  refine .pure _ _ ?_ ⟨rfl,rfl⟩ ct fun _=>?_
  ·all_goals exact wk
  conv=>whnf
  refine fM ?_;(conv=>whnf);refine ⟨?_,rfl⟩;conv=>whnf
  all_goals exact wk

theorem or_up {c x n : Nat} (hn : n < 32) (hc : c < 2 ^ n) (hx : x < 4294967296) : bitsR .or .u64 (c : Int) ((x * 2 ^ n : Nat) : Int) = ((c + x * 2 ^ n : Nat) : Int):=by
 have h3 : 2 ^ n ≤ 2 ^ 31:=Nat.pow_le_pow_right (by omega) (by omega)
 have h4 : x * 2 ^ n ≤ 4294967295 * 2 ^ 31:=Nat.mul_le_mul (by omega) h3
 rw [or_u64 (by omega) (by omega)]
 have:=Nat.shiftLeft_add_eq_or_of_lt (i:=n) hc x
 rw [Nat.shiftLeft_eq] at this
 rw [Nat.or_comm,← this,Nat.add_comm]

theorem up_carry {c x n : Nat} (hc : c < 2 ^ n) (hx : x < 4294967296) : (c + x * 2 ^ n) / 4294967296 < 2 ^ n:=by
 rw [Nat.div_lt_iff_lt_mul (by omega)]
 have h1 : (x + 1) * 2 ^ n ≤ 4294967296 * 2 ^ n:=Nat.mul_le_mul_right _ (by omega)
 rw [Nat.mul_comm (2 ^ n) 4294967296]
 rw [Nat.add_mul] at h1
 omega

theorem up_arith {p B c x P C vs va : Nat} (hC : C = c + x * P) (h : vs + p * c = va * P) : vs + p * (C % B) + p * B * (C / B) = (va + p * x) * P:=by
 have e1 : p * (C % B) + p * B * (C / B) = p * C:=by rw [Nat.mul_assoc,← Nat.mul_add,Nat.mod_add_div]
 rw [Nat.add_mul,← h,Nat.mul_assoc p x,Nat.add_assoc,Nat.add_assoc,e1,hC,Nat.mul_add]

theorem c_rUp (a : List Int) (n : Nat) (hn : n < 32) (ha : a.length ≤ 999999) : FnH Tryz.prog 242 [wL a,.int .i64 n] [] (wL (wd (val a * 2 ^ n))) []:=by
 refine FnH.intro lay mixed Tryz.func242 (by kernel_rfl) rfl (by kernel_rfl) rfl fun hok=>?_
 have wa : Ws a:=Ws.ok hok.1.2
 conv=>whnf
 refine LoopE.of <| LoopSpec.inv (.grow 5 1 [] _ rfl (.inl ⟨rfl,rfl⟩) (.refl _ _)) (fun x : Nat × Nat × List Int=>x.1 ≤ a.length ∧ x.2.1 < 2 ^ n ∧ Ws x.2.2 ∧ x.2.2.length = x.1 ∧ val x.2.2 + 4294967296 ^ x.1 * x.2.1 = val (a.take x.1) * 2 ^ n)
  (fun | (i,c,s)=>[(11,.int .i64 i),(6,.int .u64 c),(5,.sl 1 (s.map (.int .u32)) (.own 0))]) (fun | (_,_,s)=>[(0,.tok 1 s.length)])
  (fun x=>a.length - x.1) (0,0,[]) ?_ (fun _=>rfl) ?_ ?_
 ·exact ⟨Nat.zero_le _,Nat.two_pow_pos _,Ws.nil,rfl,by simp [val]⟩
 ·refine ⟨?_,.mk ?_ ⟨by simp,trivial⟩⟩
  ·all_goals exact wk
  ·all_goals exact wk
 rintro ⟨i,c,s⟩ ⟨hi,hc,hws,hsl,hv⟩ _
 simp only at hi hc hws hsl hv
 have hn31 : 2 ^ n ≤ 2 ^ 31:=Nat.pow_le_pow_right (by omega) (by omega)
 (try dsimp only[awp]);conv=>whnf
 refine And.intro (fun h=>?_) (fun h=>?_)
 ·have hlt : i < a.length:=by simpa using h
  have hva:=val_take_getD (l:=a) (i:=i)
  have hxa:=wa.getD (i:=i)
  conv=>whnf
  refine aidxN' 0 rfl hlt ?_
  generalize a.getD i 0 = x0 at *
  obtain ⟨x,rfl⟩ : ∃ x : Nat,x0 = x:=⟨x0.toNat,by omega⟩
  rw [Int.toNat_natCast] at hva
  conv=>whnf
  rw [wrap_u64 (n:=(x : Int)) (by omega) (by omega)]
  refine ⟨by omega,?_⟩
  rw [shl_u64 (by omega) hn]
  conv=>whnf
  rw [or_up hn hc (by omega)]
  have hcar:=up_carry hc (x:=x) (by omega)
  obtain ⟨C,hC⟩ : ∃ C,c + x * 2 ^ n = C:=⟨_,rfl⟩
  rw [hC] at hcar ⊢
  conv=>whnf
  rw [wrapu32_mod (a:=C)]
  refine ⟨by rw [List.length_map],?_⟩
  refine ⟨by simp [maxL]; omega,by simp; omega,?_⟩
  conv=>whnf
  refine ⟨by decide,?_⟩
  rw [shr_word rfl]
  conv=>whnf
  refine zA ?_;conv=>whnf
  refine ⟨(i + 1,C / 4294967296,s ++ [((C % 4294967296 : Nat) : Int)]),?_,?_,?_⟩
  ·refine ⟨hlt,hcar,hws.append (Ws.cons (by omega) Ws.nil),by simp [hsl],?_⟩
   show val (s ++ [((C % 4294967296 : Nat) : Int)]) + 4294967296 ^ (i + 1) * (C / 4294967296) = val (a.take (i + 1)) * 2 ^ n
   have e1 : val (s ++ [((C % 4294967296 : Nat) : Int)]) = val s + 4294967296 ^ i * (C % 4294967296):=by rw [val_append,hsl]; simp only [val,Int.toNat_natCast,Nat.mul_zero,Nat.add_zero]
   rw [hva,e1,Nat.pow_succ]
   exact up_arith hC.symm hv
  ·refine ⟨?_,.mk ?_ ⟨by simp,trivial⟩⟩
   ·repeat' first|exact rfl|exact trivial|exact wR|exact lR _|apply aI
    all_goals first | (refine leRL_of ?_; simp [strip]; done) | simp
   ·repeat' first|exact rfl|exact trivial|exact wR|exact lR _|apply aI
    all_goals simp
  ·show a.length - (i + 1) < a.length - i
   omega
 ·have hil : i = a.length:=by have : ¬ i < a.length:=by simpa using h
                              omega
  subst hil
  rw [List.take_length] at hv
  have ct:=c_rTrim (s ++ [(c : Int)]) (by simp; omega)
  rw [val_append,hsl,show val [(c : Int)] = c by simp [val],hv] at ct
  conv=>whnf
  rw [wrap_u32 (n:=(c : Int)) (by omega) (by omega)]
  refine ⟨by rw [List.length_map],?_⟩
  refine ⟨by simp [maxL]; omega,by simp; omega,?_⟩
  conv=>whnf
  refine .gen _ _ (FnH.ofPure ct ?_ ⟨rfl,rfl⟩) fun _=>?_
  ·repeat' first|exact rfl|exact trivial|exact wR|exact lR _|apply aI
   refine leRL_of ?_
   simp [strip]
  conv=>whnf
  refine fM ?_;(conv=>whnf);refine ⟨?_,rfl⟩;conv=>whnf
  all_goals exact wk

theorem c_rDown (a : List Int) (n : Nat) (hn : n < 32) (ha : a.length ≤ 1000000) : FnH Tryz.prog 243 [wL a,.int .i64 n] [] (wL (wd (val a / 2 ^ n))) []:=by
 refine FnH.intro lay mixed Tryz.func243 (by kernel_rfl) rfl (by kernel_rfl) rfl fun hok=>?_
 have wa : Ws a:=Ws.ok hok.1.2
 conv=>whnf
 refine LoopE.of <| LoopSpec.inv (.grow 5 1 [] _ rfl (.inl ⟨rfl,rfl⟩) (.refl _ _)) (fun i : Nat=>i ≤ a.length)
  (fun i=>[(9,.int .i64 i),(5,.sl 1 ((wdN i (val a / 2 ^ n)).map (.int .u32)) (.own 0))]) (fun i=>[(0,.tok 1 i)])
  (fun i=>a.length - i) 0 ?_ (fun _=>rfl) ?_ ?_
 ·exact Nat.zero_le _
 ·refine ⟨?_,.mk ?_ ⟨by simp,trivial⟩⟩
  ·all_goals exact wk
  ·all_goals exact wk
 intro i hi _
 (try dsimp only[awp]);conv=>whnf
 refine And.intro (fun h=>?_) (fun h=>?_)
 ·have hlt : i < a.length:=by simpa using h
  have ca:=c_rWord a i
  have cb:=c_rWord a (i + 1)
  have hx:=wa.getD (i:=i)
  have hy:=wa.getD (i:=i + 1)
  have hrw:=right_word wa (i:=i) hn
  have hsnoc : wdN (i + 1) (val a / 2 ^ n) = wdN i (val a / 2 ^ n) ++ [((val a / 2 ^ n / 4294967296 ^ i % 4294967296 : Nat) : Int)]:=by
   refine (wdN_of (by simp [wdN_len]) fun k hk=>?_).symm
   by_cases hki : k < i
   ·rw [List.getD_eq_getElem?_getD,List.getElem?_append_left (by rw [wdN_len]; exact hki),← List.getD_eq_getElem?_getD]
    exact wdN_get hki
   ·have : k = i:=by omega
    subst this
    rw [List.getD_eq_getElem?_getD,List.getElem?_append_right (by rw [wdN_len]; omega),wdN_len]
    simp
  generalize a.getD i 0 = x0 at *
  generalize a.getD (i + 1) 0 = y0 at *
  obtain ⟨x,rfl⟩ : ∃ x : Nat,x0 = x:=⟨x0.toNat,by omega⟩
  obtain ⟨y,rfl⟩ : ∃ y : Nat,y0 = y:=⟨y0.toNat,by omega⟩
  simp only [Int.toNat_natCast] at hrw
  conv=>whnf
  refine .gen _ _ (FnH.ofPure ca (leL_refl _) ⟨rfl,rfl⟩) fun _=>?_
  conv=>whnf
  refine zA ?_;conv=>whnf
  refine .gen _ _ (FnH.ofPure cb (leL_refl _) ⟨rfl,rfl⟩) fun _=>?_
  conv=>whnf
  refine ⟨by decide,?_⟩
  rw [shl_word (by omega)]
  conv=>whnf
  rw [or_word' (by omega) (by omega)]
  refine ⟨by omega,?_⟩
  rw [shr_u64 hn]
  conv=>whnf
  rw [wrapu32_mod,hrw]
  refine ⟨by simp [wdN_len],?_⟩
  refine ⟨by simp [maxL,wdN_len]; omega,by simp [wdN_len]; omega,?_⟩
  conv=>whnf
  refine zA ?_;conv=>whnf
  refine ⟨i + 1,?_,?_,?_⟩
  ·exact hlt
  ·rw [hsnoc]
   refine ⟨?_,.mk ?_ ⟨by simp,trivial⟩⟩
   ·repeat' first|exact rfl|exact trivial|exact wR|exact lR _|apply aI
    all_goals first | (refine leRL_of ?_; simp [strip]; done) | simp
   ·repeat' first|exact rfl|exact trivial|exact wR|exact lR _|apply aI
    all_goals simp [wdN_len]
  ·omega
 ·have hil : i = a.length:=by have : ¬ i < a.length:=by simpa using h
                              omega
  subst hil
  have hva:=val_lt wa
  have hle : val a / 2 ^ n ≤ val a:=Nat.div_le_self _ _
  have ct:=c_rTrim (wdN a.length (val a / 2 ^ n)) (by rw [wdN_len]; omega)
  rw [val_wdN (by omega)] at ct
  conv=>whnf
  refine .gen _ _ (FnH.ofPure ct ?_ ⟨rfl,rfl⟩) fun _=>?_
  ·all_goals exact wk
  conv=>whnf
  refine fM ?_;(conv=>whnf);refine ⟨?_,rfl⟩;conv=>whnf
  all_goals exact wk

theorem mul_step {p B x y o c C v0 vb vn : Nat} {w : Nat} (hC : C = x * y + o + c) (e : vn + p * o = v0 + p * (C % B)) (h : v0 + p * c = w + x * vb) : vn + p * B * (C / B) = w + x * vb + p * (x * y):=by
 have e1 : p * (C % B) + p * B * (C / B) = p * C:=by rw [Nat.mul_assoc,← Nat.mul_add,Nat.mod_add_div]
 have e2 : p * C = p * (x * y) + p * o + p * c:=by rw [hC,Nat.mul_add,Nat.mul_add]
 omega

theorem mul_shift {p q x y : Nat} : p * q * (x * y) = p * x * (q * y):=by
 rw [Nat.mul_assoc,Nat.mul_assoc,Nat.mul_left_comm q]

theorem carry_zero {P Q A b o c : Nat} (h : o + P * Q * c = A * b) (h1 : A < P) (h2 : b < Q) : c = 0:=by
 apply Classical.byContradiction
 intro hne
 have k1 : P * Q * 1 ≤ P * Q * c:=Nat.mul_le_mul_left _ (by omega)
 have k2 : A * b ≤ P * b:=Nat.mul_le_mul_right _ (by omega)
 have k3 : P * b < P * Q:=Nat.mul_lt_mul_of_pos_left h2 (by omega)
 omega

theorem c_rMul (a b : List Int) (ha : a.length ≤ 400000) (hb : b.length ≤ 400000) : FnH Tryz.prog 69 [wL a,wL b] [] (wL (wd (val a * val b))) []:=by
 refine FnH.intro lay mixed Tryz.func69 (by kernel_rfl) rfl (by kernel_rfl) rfl fun hok=>?_
 have wa : Ws a:=Ws.ok hok.1.2
 have wb : Ws b:=Ws.ok hok.2.1.2
 conv=>whnf
 refine ⟨inr64 (by simp; omega) (by simp; omega),?_⟩
 conv=>whnf
 refine ⟨inr64 (by simp; omega) (by simp; omega),?_⟩
 obtain ⟨m,hm⟩ : ∃ m,a.length + b.length + 1 = m:=⟨_,rfl⟩
 rw [show (((a.map (AV.int .u32)).length : Nat) : Int) + (((b.map (AV.int .u32)).length : Nat) : Int) + 1 = (m : Int) by simp; omega]
 conv=>whnf
 refine ⟨⟨by omega,by omega,by simp; omega,by omega⟩,.wr ?_⟩
 conv=>whnf
 refine LoopE.of <| LoopSpec.inv (.refl _ _) (fun x : Nat × List Int=>x.1 ≤ a.length ∧ Ws x.2 ∧ x.2.length = m ∧ val x.2 = val (a.take x.1) * val b)
  (fun | (i,_)=>[(20,.int .i64 i)]) (fun | (_,out)=>[(0,.arr 1 m (out.map (.int .u32)))])
  (fun x=>a.length - x.1) (0,List.replicate m 0) ?_ (fun _=>rfl) ?_ ?_
 ·refine ⟨Nat.zero_le _,?_,by simp,?_⟩
  ·intro x hx
   rw [(List.mem_replicate.1 hx).2]; omega
  ·rw [val_zeros (fun x hx=>(List.mem_replicate.1 hx).2)]; simp [val]
 ·refine ⟨?_,.mk ?_ ⟨by simp,trivial⟩⟩
  ·all_goals exact wk
  ·repeat' first|exact rfl|exact trivial|exact wR|exact lR _|apply aI
   all_goals first | (simp; done) | exact leRL_of (by simp)
 rintro ⟨i,out⟩ ⟨hi,hwo,hol,hv⟩ _
 simp only at hi hwo hol hv
 (try dsimp only[awp]);conv=>whnf
 refine And.intro (fun h=>?_) (fun h=>?_)
 ·have hlt : i < a.length:=by simpa using h
  have hva:=val_take_getD (l:=a) (i:=i)
  have hxa:=wa.getD (i:=i)
  conv=>whnf
  refine aidxN' 0 rfl hlt ?_
  generalize a.getD i 0 = x0 at *
  obtain ⟨x,rfl⟩ : ∃ x : Nat,x0 = x:=⟨x0.toNat,by omega⟩
  rw [Int.toNat_natCast] at hva
  conv=>whnf
  refine ⟨inr64 (by simp; omega) (by simp; omega),?_⟩
  rw [show (((b.map (AV.int .u32)).length : Nat) : Int) + 1 = ((b.length + 1 : Nat) : Int) by simp]
  conv=>whnf
  refine LoopE.of <| LoopSpec.inv (.refl _ _) (fun z : Nat × Nat × List Int=>z.1 ≤ b.length + 1 ∧ z.2.1 < 4294967296 ∧ Ws z.2.2 ∧ z.2.2.length = m ∧ val z.2.2 + 4294967296 ^ (i + z.1) * z.2.1 = val out + 4294967296 ^ i * x * val (b.take z.1))
   (fun | (j,c,_)=>[(28,.int .i64 j),(8,.int .u64 c)]) (fun | (_,_,o)=>[(0,.arr 1 m (o.map (.int .u32)))])
   (fun z=>b.length + 1 - z.1) (0,0,out) ?_ (fun _=>rfl) ?_ ?_
  ·exact ⟨Nat.zero_le _,(by omega : 0 < 4294967296),hwo,hol,by simp [val]⟩
  ·refine ⟨?_,.mk ?_ ⟨by simp,trivial⟩⟩
   ·all_goals exact wk
   ·all_goals exact wk
  rintro ⟨j,c,o⟩ ⟨hj,hc,hwo2,hol2,hv2⟩ _
  simp only at hj hc hwo2 hol2 hv2
  (try dsimp only[awp]);conv=>whnf
  refine And.intro (fun h=>?_) (fun h=>?_)
  ·have hjlt : j < b.length + 1:=by omega
   have cw:=c_rWord b j
   have hvb:=val_take_getD (l:=b) (i:=j)
   have hxb:=wb.getD (i:=j)
   have hoo:=hwo2.getD (i:=i + j)
   have hij : i + j < o.length:=by omega
   generalize b.getD j 0 = y0 at *
   obtain ⟨y,rfl⟩ : ∃ x : Nat,y0 = x:=⟨y0.toNat,by omega⟩
   rw [Int.toNat_natCast] at hvb
   have hxy : x * y ≤ 4294967295 * 4294967295:=Nat.mul_le_mul (by omega) (by omega)
   conv=>whnf
   refine ADraw.auto (by kernel_rfl) ?_;conv=>whnf
   refine ACallP.pure _ _ (leL_refl _) ⟨rfl,rfl⟩ cw ?_
   conv=>whnf
   rw [wrap_u64 (n:=(x : Int)) (by omega) (by omega)]
   rw [show ((x : Int) * (y : Int)) = ((x * y : Nat) : Int) from (Int.natCast_mul x y).symm,wrap_u64 (n:=((x * y : Nat) : Int)) (by omega) (by omega)]
   refine zA ?_;conv=>whnf
   refine ⟨⟨by omega,by omega⟩,?_⟩
   conv=>whnf
   refine aidxN' 0 (i:=i + j) (by omega) hij ?_
   refine ⟨rfl,?_⟩
   obtain ⟨ow,how⟩ : ∃ w : Nat,o.getD (i + j) 0 = w:=⟨(o.getD (i + j) 0).toNat,by omega⟩
   rw [how] at hoo ⊢
   conv=>whnf
   rw [wrap_u64 (n:=(ow : Int)) (by omega) (by omega)]
   rw [show (((x * y : Nat) : Int) + (ow : Int)) = ((x * y + ow : Nat) : Int) from (Int.natCast_add (x * y) ow).symm,wrap_u64 (n:=((x * y + ow : Nat) : Int)) (by omega) (by omega)]
   rw [show (((x * y + ow : Nat) : Int) + (c : Int)) = ((x * y + ow + c : Nat) : Int) from (Int.natCast_add (x * y + ow) c).symm,wrap_u64 (n:=((x * y + ow + c : Nat) : Int)) (by omega) (by omega)]
   obtain ⟨C,hC⟩ : ∃ C,x * y + ow + c = C:=⟨_,rfl⟩
   rw [hC]
   conv=>whnf
   refine zA ?_;conv=>whnf
   rw [wrapu32_mod (a:=C)]
   refine ⟨⟨by omega,by omega⟩,?_⟩
   dsimp only [putE]
   rw [aops]
   dsimp only [guardC]
   dsimp only [aopW,aop]
   conv=>whnf
   refine ⟨by rw [List.length_map]; omega,rfl,?_⟩
   conv=>whnf
   refine ⟨by decide,?_⟩
   rw [shr_word rfl]
   conv=>whnf
   refine zA ?_;conv=>whnf
   have hCl : C / 4294967296 < 4294967296:=by omega
   have hset:=val_set (x:=((C % 4294967296 : Nat) : Int)) hij
   rw [← getD_lt' (x:=0) hij,how,Int.toNat_natCast,Int.toNat_natCast] at hset
   refine ⟨(j + 1,C / 4294967296,o.set (i + j) ((C % 4294967296 : Nat) : Int)),?_,?_,?_⟩
   ·refine ⟨hjlt,hCl,hwo2.set (by omega),by simpa using hol2,?_⟩
    show val (o.set (i + j) ((C % 4294967296 : Nat) : Int)) + 4294967296 ^ (i + (j + 1)) * (C / 4294967296) = val out + 4294967296 ^ i * x * val (b.take (j + 1))
    rw [← Nat.add_assoc,Nat.pow_succ,hvb,Nat.mul_add,← mul_shift (x:=x),← Nat.pow_add,← Nat.add_assoc]
    have:=mul_step (p:=4294967296 ^ (i + j)) (x:=x) (y:=y) (o:=ow) (c:=c) (v0:=val o) (vn:=val (o.set (i + j) ((C % 4294967296 : Nat) : Int))) (w:=val out + 4294967296 ^ i * x * val (b.take j)) (vb:=0) hC.symm hset (by rw [Nat.mul_zero,Nat.add_zero]; exact hv2)
    rw [Nat.mul_zero,Nat.add_zero] at this
    exact this
   ·refine ⟨?_,.mk ?_ ⟨by simp,trivial⟩⟩
    ·all_goals exact wk
    ·repeat' first|exact rfl|exact trivial|exact wR|exact lR _|apply aI
     refine leRL_of ?_
     rw [List.map_set,show (0 + ((i : Int) + (j : Int)).toNat) = i + j by omega]
     simp [strip]
   ·show b.length + 1 - (j + 1) < b.length + 1 - j
    omega
  ·have hjl : j = b.length + 1:=by omega
   subst hjl
   rw [List.take_of_length_le (by omega : b.length ≤ b.length + 1),hv] at hv2
   have h2 : val (a.take i) * val b + 4294967296 ^ i * x * val b = val (a.take (i + 1)) * val b:=by rw [hva,Nat.add_mul]
   have h3:=take_lt wa (i + 1)
   have h4:=val_lt wb
   have hcz : c = 0:=by
    refine carry_zero (P:=4294967296 ^ (i + 1)) (Q:=4294967296 ^ b.length) (A:=val (a.take (i + 1))) (b:=val b) (o:=val o) ?_ h3 h4
    rw [← h2,← hv2,← Nat.pow_add,show i + 1 + b.length = i + (b.length + 1) by omega]
   rw [hcz,Nat.mul_zero,Nat.add_zero,h2] at hv2
   conv=>whnf
   refine zA ?_;conv=>whnf
   refine ⟨(i + 1,o),?_,?_,?_⟩
   ·refine ⟨hlt,hwo2,hol2,?_⟩
    exact hv2
   ·refine ⟨?_,.mk ?_ ⟨by simp,trivial⟩⟩
    ·all_goals exact wk
    ·all_goals exact wk
   ·show a.length - (i + 1) < a.length - i
    omega
 ·have hil : i = a.length:=by have : ¬ i < a.length:=by simpa using h
                              omega
  subst hil
  rw [List.take_length] at hv
  have ct:=c_rTrim out (by omega)
  rw [hv] at ct
  conv=>whnf
  refine .gen _ _ (FnH.frz 0 rfl rfl (by simp; omega) (FnH.ofPure ct ?_ ⟨rfl,rfl⟩)) fun _=>?_
  ·repeat' first|exact rfl|exact trivial|exact wR|exact lR _|apply aI
   refine leRL_of ?_
   simp
   rw [List.take_of_length_le (by simp; omega)]
  conv=>whnf
  refine fM ?_;(conv=>whnf);refine ⟨?_,rfl⟩;conv=>whnf
  all_goals exact wk

theorem bit_u32 {x k : Nat} (hx : x < 4294967296) (hk : k < 32) : bitsR .and .u32 (shrR .u32 (x : Int) (k : Int)) 1 = if x.testBit k then 1 else 0:=by
 rw [shr_u32 hk]
 have hd : x / 2 ^ k ≤ x:=Nat.div_le_self _ _
 have e : ∀ z : Nat,BitVec.ofInt 32 (z : Int) = BitVec.ofNat 32 z:=by
  intro z; apply BitVec.eq_of_toNat_eq; simp
 simp only [bitsR]
 have h1 : (BitVec.ofInt 32 ((x / 2 ^ k : Nat) : Int) &&& BitVec.ofInt 32 (1 : Int)).toNat = (x / 2 ^ k) &&& 1:=by
  rw [show (1 : Int) = ((1 : Nat) : Int) from rfl,e,e,BitVec.toNat_and,BitVec.toNat_ofNat,BitVec.toNat_ofNat,Nat.mod_eq_of_lt (by omega)]
 show IntKind.wrap .u32 ((BitVec.ofInt 32 ((x / 2 ^ k : Nat) : Int) &&& BitVec.ofInt 32 (1 : Int)).toNat : Int) = _
 rw [h1,Nat.and_one_is_mod,Nat.testBit_eq_decide_div_mod_eq]
 have : x / 2 ^ k % 2 < 2:=Nat.mod_lt _ (by omega)
 rw [wrap_u32 (by omega) (by omega)]
 by_cases h : x / 2 ^ k % 2 = 1
 ·simp [h]
 ·have : x / 2 ^ k % 2 = 0:=by omega
  simp [this]

theorem mod_bit {x k : Nat} : x % 2 ^ (k + 1) = x % 2 ^ k + 2 ^ k * (if x.testBit k then 1 else 0):=by
 rw [Nat.testBit_eq_decide_div_mod_eq,Nat.mod_pow_succ]
 have : x / 2 ^ k % 2 < 2:=Nat.mod_lt _ (by omega)
 by_cases h : x / 2 ^ k % 2 = 1
 ·simp [h]
 ·have : x / 2 ^ k % 2 = 0:=by omega
  simp [this]

theorem pow32 (i k : Nat) : 4294967296 ^ i * 2 ^ k = 2 ^ (32 * i + k):=by
 rw [Nat.pow_add,Nat.pow_mul]

theorem blen_add {v x i k : Nat} (hv : v < 4294967296 ^ i) (hb : x.testBit k = true) : blen (v + 4294967296 ^ i * (x % 2 ^ (k + 1))) = 32 * i + k + 1:=by
 have e:=pow32 i k
 have e2:=pow32 i (k + 1)
 have hm : x % 2 ^ (k + 1) < 2 ^ (k + 1):=Nat.mod_lt _ (Nat.two_pow_pos _)
 have hge : 2 ^ k ≤ x % 2 ^ (k + 1):=by rw [mod_bit,hb]; simp
 refine blen_pow ?_ ?_
 ·rw [← e]
  have : 4294967296 ^ i * 2 ^ k ≤ 4294967296 ^ i * (x % 2 ^ (k + 1)):=Nat.mul_le_mul_left _ hge
  omega
 ·rw [show 32 * i + k + 1 = 32 * i + (k + 1) by omega,← e2]
  have h1 : 4294967296 ^ i * (x % 2 ^ (k + 1) + 1) ≤ 4294967296 ^ i * 2 ^ (k + 1):=Nat.mul_le_mul_left _ hm
  rw [Nat.mul_add] at h1
  omega

theorem c_rBits (a : List Int) (ha : a.length ≤ 1000000) : FnH Tryz.prog 152 [wL a] [] (.int .i64 (blen (val a))) []:=by
 refine FnH.intro lay mixed Tryz.func152 (by kernel_rfl) rfl (by kernel_rfl) rfl fun hok=>?_
 have wa : Ws a:=Ws.ok hok.1.2
 conv=>whnf
 refine LoopE.of <| LoopSpec.inv (.refl _ _) (fun (i : Nat)=>i ≤ a.length) (fun (i : Nat)=>[(9,.int .i64 i),(3,.int .i64 (blen (val (a.take i))))]) (fun _=>_) (fun (i : Nat)=>a.length - i) 0 ?_ (fun _=>rfl) ?_ ?_
 ·exact Nat.zero_le _
 ·all_goals exact wk
 intro i hi _
 (try dsimp only[awp]);conv=>whnf
 refine And.intro (fun h=>?_) (fun h=>?_)
 ·have hlt : i < a.length:=by simpa using h
  have hva:=val_take_getD (l:=a) (i:=i)
  have hxa:=wa.getD (i:=i)
  have htl:=take_lt wa i
  conv=>whnf
  refine aidxN' 0 rfl hlt ?_
  generalize a.getD i 0 = x0 at *
  obtain ⟨x,rfl⟩ : ∃ x : Nat,x0 = x:=⟨x0.toNat,by omega⟩
  rw [Int.toNat_natCast] at hva
  generalize val (a.take i) = v at *
  conv=>whnf
  refine LoopE.of <| LoopSpec.inv (.refl _ _) (fun (k : Nat)=>k ≤ 32) (fun (k : Nat)=>[(14,.int .i64 k),(3,.int .i64 (blen (v + 4294967296 ^ i * (x % 2 ^ k))))]) (fun _=>_) (fun (k : Nat)=>32 - k) 0 ?_ (fun _=>rfl) ?_ ?_
  ·exact Nat.zero_le _
  ·repeat' first|exact rfl|exact trivial|exact wR|exact lR _|apply aI
   rw [show x % 2 ^ 0 = 0 from Nat.mod_one x,Nat.mul_zero,Nat.add_zero]
  intro k hk _
  (try dsimp only[awp]);conv=>whnf
  refine And.intro (fun h=>?_) (fun h=>?_)
  ·have hk2 : k < 32:=by omega
   conv=>whnf
   refine ⟨by omega,?_⟩
   conv=>whnf
   rw [bit_u32 (by omega) hk2]
   cases hb : x.testBit k with
   | true =>
     have hbl:=blen_add (x:=x) htl hb
     conv=>whnf
     refine And.intro (fun _=>?_) (fun h=>absurd rfl h)
     conv=>whnf
     refine ⟨inr64 (by omega) (by omega),?_⟩
     conv=>whnf
     refine zA ?_;conv=>whnf
     refine zA ?_;conv=>whnf
     refine zA ?_;conv=>whnf
     refine ⟨k + 1,?_,?_,?_⟩
     ·exact hk2
     ·rw [hbl]
      all_goals exact wk
     ·omega
   | false =>
     have hbl : x % 2 ^ (k + 1) = x % 2 ^ k:=by rw [mod_bit,hb]; simp
     conv=>whnf
     refine And.intro (fun h=>absurd h (by decide)) (fun _=>?_)
     conv=>whnf
     refine zA ?_;conv=>whnf
     refine ⟨k + 1,?_,?_,?_⟩
     ·exact hk2
     ·rw [hbl]
      all_goals exact wk
     ·omega
  ·have hk3 : k = 32:=by omega
   subst hk3
   have hx32 : x % 2 ^ 32 = x:=Nat.mod_eq_of_lt (by omega)
   rw [hx32,← hva]
   conv=>whnf
   refine zA ?_;conv=>whnf
   refine ⟨i + 1,?_,?_,?_⟩
   ·exact hlt
   ·all_goals exact wk
   ·omega
 ·have hil : i = a.length:=by have : ¬ i < a.length:=by simpa using h
                              omega
  subst hil
  rw [List.take_length]
  conv=>whnf
  refine fM ?_;(conv=>whnf);refine ⟨?_,rfl⟩;conv=>whnf
  all_goals exact wk

theorem shl_u32 {a n : Nat} (hn : n < 32) (h : a * 2 ^ n < 4294967296) : shlR .u32 (a : Int) (n : Int) = ((a * 2 ^ n : Nat) : Int):=by
 unfold shlR
 have h1 : min (n : Int).toNat (IntKind.bits .u32) = n:=by show min n 32 = n; omega
 rw [h1]
 have h2 : (a : Int) * 2 ^ n = ((a * 2 ^ n : Nat) : Int):=by simp
 rw [h2]
 exact wrap_u32 (by omega) (by omega)

theorem and_31 {a : Nat} (h : a < 4294967296) : bitsR .and .u32 (a : Int) 2147483648 = 0 ↔ a < 2147483648:=by
 have e : ∀ z : Nat,BitVec.ofInt 32 (z : Int) = BitVec.ofNat 32 z:=by
  intro z; apply BitVec.eq_of_toNat_eq; simp
 simp only [bitsR]
 have h1 : (BitVec.ofInt 32 (a : Int) &&& BitVec.ofInt 32 (2147483648 : Int)).toNat = a &&& 2 ^ 31:=by
  rw [show (2147483648 : Int) = ((2 ^ 31 : Nat) : Int) from rfl,e,e,BitVec.toNat_and,BitVec.toNat_ofNat,BitVec.toNat_ofNat,Nat.mod_eq_of_lt (by omega),Nat.mod_eq_of_lt (by omega)]
 show IntKind.wrap .u32 ((BitVec.ofInt 32 (a : Int) &&& BitVec.ofInt 32 (2147483648 : Int)).toNat : Int) = 0 ↔ _
 have hle : a &&& 2 ^ 31 ≤ a:=Nat.and_le_left
 rw [h1,wrap_u32 (by omega) (by omega)]
 have key : a &&& 2 ^ 31 = 0 ↔ a < 2147483648:=by
  constructor
  ·intro h0
   apply Classical.byContradiction
   intro hn
   have hbit : a.testBit 31 = true:=by rw [Nat.testBit_eq_decide_div_mod_eq]; simp; omega
   have : (a &&& 2 ^ 31).testBit 31 = true:=by rw [Nat.testBit_and,hbit,Nat.testBit_two_pow_self]; rfl
   rw [h0] at this
   simp at this
  ·intro h0
   apply Nat.eq_of_testBit_eq
   intro i
   rw [Nat.testBit_and,Nat.testBit_two_pow]
   by_cases hi : 31 = i
   ·subst hi
    rw [Nat.testBit_lt_two_pow (by omega)]; simp
   ·simp [hi]
 omega

theorem wd_len_eq {x n : Nat} (h1 : 4294967296 ^ (n - 1) ≤ x) (h2 : x < 4294967296 ^ n) (hn : 1 ≤ n) : (wd x).length = n:=by
 have hw:=wd_Ws x
 have hv:=val_wd x
 have hl:=val_lt hw
 rw [hv] at hl
 have a1 : ¬ (wd x).length ≤ n - 1:=by
  intro h
  have : 4294967296 ^ (wd x).length ≤ 4294967296 ^ (n - 1):=Nat.pow_le_pow_right (by omega) h
  omega
 have a2 : (wd x).length ≤ n:=by
  have:=wd_len_le (wdN_Ws n x)
  rw [val_wdN h2,wdN_len] at this
  exact this
 omega

structure RInv (V L : Nat) (al : List Int) (j r : Nat) (Q : List Int) : Prop where
 jle : j ≤ L
 wq : Ws Q
 lq : Q.length = L
 lt : r < V
 eq : val (al.drop j) = r + V * val (Q.drop j)
 z : ∀ k,k < j → Q.getD k 0 = 0

theorem val_cons (x : Int) (l : List Int) : val (x :: l) = x.toNat + 4294967296 * val l:=rfl

theorem RInv.step {V L j r : Nat} {al Q : List Int} (h : RInv V L al (j + 1) r Q) (hV0 : 0 < V) (hx : (al.getD j 0).toNat < 4294967296) :
  (al.getD j 0).toNat + 4294967296 * r < 4294967296 * V ∧
  RInv V L al j (((al.getD j 0).toNat + 4294967296 * r) % V) (Q.set j ((((al.getD j 0).toNat + 4294967296 * r) / V : Nat) : Int)):=by
 have hlt:=h.lt
 have h1 : (al.getD j 0).toNat + 4294967296 * r < 4294967296 * V:=by omega
 refine ⟨h1,?_⟩
 have hj : j < L:=h.jle
 have hq : ((al.getD j 0).toNat + 4294967296 * r) / V < 4294967296:=by rw [Nat.div_lt_iff_lt_mul hV0]; exact h1
 have hjq : j < Q.length:=by rw [h.lq]; exact hj
 have hvd:=val_hd al j
 have he:=h.eq
 generalize (al.getD j 0).toNat = x at *
 generalize hs : x + 4294967296 * r = s at *
 have hdm:=Nat.div_add_mod s V
 generalize hqq : s / V = q at *
 generalize s % V = m at *
 refine ⟨?_,h.wq.set (by omega),by simpa using h.lq,?_,?_,?_⟩
 ·omega
 ·have hm : s - V * q < V:=by
   rw [← hqq]
   have:=Nat.mod_lt s hV0
   have:=Nat.div_add_mod s V
   omega
  omega
 ·have e1 : (Q.set j (q : Int)).drop j = (q : Int) :: Q.drop (j + 1):=by
   rw [List.drop_eq_getElem_cons (by simpa using hjq),List.getElem_set_self,List.drop_set_of_lt (by omega)]
  rw [e1,val_cons,Int.toNat_natCast,hvd,he,Nat.mul_add,Nat.mul_add,Nat.mul_left_comm 4294967296 V]
  omega
 ·intro k hk
  have:=h.z k (by omega)
  rw [List.getD_eq_getElem?_getD] at this ⊢
  rw [List.getElem?_set_ne (by omega)]
  exact this

theorem rguess {V p s top : Nat} (hp : 0 < p) (ht : 0 < top) (hV : top * p ≤ V) (hq : s / V < 4294967296) : s / V ≤ min (s / p / top) 4294967295:=by
 have h1 : s / V ≤ s / p / top:=by
  refine guess_ge (p:=p) ht hV ?_
  have:=Nat.lt_div_mul_add (a:=s) hp
  rw [Nat.add_mul,Nat.one_mul]; exact this
 omega

theorem wd_len_lt {x n : Nat} (h2 : x < 4294967296 ^ n) : (wd x).length ≤ n:=by
 have:=wd_len_le (wdN_Ws n x)
 rw [val_wdN h2,wdN_len] at this
 exact this

theorem wd_getD (x i : Nat) : (wd x).getD i 0 = ((x / 4294967296 ^ i % 4294967296 : Nat) : Int):=by
 have h1:=val_drop (wd_Ws x) i
 have h2:=val_hd (wd x) i
 have h3:=(wd_Ws x).getD (i:=i)
 rw [val_wd] at h1
 rw [h1,h2]
 omega

theorem head_eq {S n : Nat} (hn : 1 ≤ n) (h : S < 4294967296 ^ (n + 1)) : (S / 4294967296 ^ n % 4294967296) * 4294967296 + S / 4294967296 ^ (n - 1) % 4294967296 = S / 4294967296 ^ (n - 1):=by
 obtain ⟨m,rfl⟩ : ∃ m,n = m + 1:=⟨n - 1,by omega⟩
 rw [show m + 1 - 1 = m by omega]
 have e : S / 4294967296 ^ (m + 1) = S / 4294967296 ^ m / 4294967296:=by rw [Nat.div_div_eq_div_mul,Nat.pow_succ]
 have hl : S / 4294967296 ^ m < 4294967296 * 4294967296:=by
  rw [Nat.div_lt_iff_lt_mul (Nat.pow_pos (by omega))]
  rw [Nat.pow_succ,Nat.pow_succ,Nat.mul_assoc,Nat.mul_comm] at h
  exact h
 rw [e]
 generalize S / 4294967296 ^ m = z at *
 omega

theorem rdiv_mod {V S q : Nat} (hq : S / V = q) : S - V * q = S % V:=by
 subst hq
 have:=Nat.div_add_mod S V
 omega

theorem rdiv_le {V S q g : Nat} (hV : 0 < V) (hq : S / V = q) (h1 : q ≤ g) (h2 : ¬ S < V * g) : g = q:=by
 subst hq
 have : g ≤ S / V:=by
  rw [Nat.le_div_iff_mul_le hV,Nat.mul_comm]; omega
 omega

theorem rdiv_gt {V S q g : Nat} (hq : S / V = q) (h2 : S < V * g) : q < g:=by
 subst hq
 apply Classical.byContradiction
 intro hn
 have h3 : V * g ≤ V * (S / V):=Nat.mul_le_mul_left _ (by omega)
 have h4:=Nat.mul_div_le S V
 omega

set_option maxHeartbeats 2000000 in
theorem c_rDiv (a b : List Int) (ha : a.length ≤ 300000) (hb : b.length ≤ 300000) (h0 : val b ≠ 0) : FnH Tryz.prog 154 [wL a,wL b] [] (.tup [wL (wd (val a / val b)),wL (wd (val a % val b)),.int .i64 0]) []:=by
 refine FnH.intro lay mixed Tryz.func154 (by kernel_rfl) rfl (by kernel_rfl) rfl fun hok=>?_
 have wa : Ws a:=Ws.ok hok.1.2
 have wb0 : Ws b:=Ws.ok hok.2.1.2
 (try dsimp only[argC,succC]);(try dsimp only[awp]);conv=>whnf
 refine .pure _ _ ?_ ⟨rfl,rfl⟩ (c_rTrim b (by omega)) fun _=>?_
 ·exact leL_refl _
 have hbl:=wd_len_le wb0
 have hwy:=wd_Ws (val b)
 have hvy:=val_wd (val b)
 have hpy:=wd_Pl (val b)
 have hn1 : 1 ≤ (wd (val b)).length:=by rw [wd_pos h0]; simp
 generalize hyv : val b = y at *
 generalize wd y = bl at *
 obtain ⟨n,hn⟩ : ∃ n,bl.length = n:=⟨_,rfl⟩
 rw [hn] at hn1
 have htb:=hwy.getD (i:=n - 1)
 have htn : bl.getD (n - 1) 0 ≠ 0:=by
  rcases hpy with h | h
  ·rw [h] at hn; simp at hn; omega
  ·rw [List.getLastD_eq_getLast?,List.getLast?_eq_getElem?,hn] at h
   rw [List.getD_eq_getElem?_getD]; exact h
 have e1:=val_take_drop (l:=bl) (n - 1) (by omega)
 rw [val_hd bl (n - 1),List.drop_eq_nil_of_le (by omega : bl.length ≤ n - 1 + 1),hvy] at e1
 have e2:=take_lt hwy (n - 1)
 have hge:=val_pos_of_len hpy (by intro e; rw [e] at hn; simp at hn; omega) hwy
 rw [hn,hvy] at hge
 generalize htt : bl.getD (n - 1) 0 = tb0 at *
 obtain ⟨tb,rfl⟩ : ∃ tb : Nat,tb0 = tb:=⟨tb0.toNat,by omega⟩
 have eln : (((bl.map (AV.int .u32)).length : Nat) : Int) = (n : Int):=by simp [hn]
 conv=>whnf
 rw [eln]
 refine And.intro (fun h=>by exfalso; omega) (fun _=>?_)
 conv=>whnf
 refine LoopE.of <| LoopSpec.inv (.refl _ _) (fun (s : Nat)=>s < 32 ∧ tb * 2 ^ s < 4294967296) (fun (s : Nat)=>[(8,.int .i64 s)]) (fun _=>_) (fun (s : Nat)=>32 - s) 0 ?_ (fun _=>rfl) ?_ ?_
 ·exact ⟨(by omega : 0 < 32),by omega⟩
 ·all_goals exact wk
 rintro s ⟨hs,hts⟩ _
 (try dsimp only[awp]);conv=>whnf
 refine zA ?_;conv=>whnf
 refine aidxN' 0 (i:=n - 1) (by omega) (by omega) ?_
 rw [htt]
 conv=>whnf
 refine ⟨by omega,?_⟩
 rw [shl_u32 hs hts]
 conv=>whnf
 refine And.intro (fun h=>?_) (fun h=>?_)
 ·have h:=(and_31 hts).1 h
  have hs31 : s < 31:=by
   have h1 : 1 * 2 ^ s ≤ tb * 2 ^ s:=Nat.mul_le_mul_right _ (by omega)
   have h2 : 2 ^ s < 2 ^ 31:=by omega
   exact (Nat.pow_lt_pow_iff_right (a:=2) (by omega)).1 h2
  conv=>whnf
  refine zA ?_;conv=>whnf
  refine ⟨s + 1,?_,?_,?_⟩
  ·exact ⟨(by omega : s + 1 < 32),(by rw [Nat.pow_succ,← Nat.mul_assoc]; omega : tb * 2 ^ (s + 1) < 4294967296)⟩
  ·all_goals exact wk
  ·omega
 have hp2:=Nat.two_pow_pos s
 have hV1 : 4294967296 ^ (n - 1) ≤ y * 2 ^ s:=Nat.le_trans hge (Nat.le_mul_of_pos_right _ hp2)
 have hV2 : y * 2 ^ s < 4294967296 ^ n:=by
  have e3 : y < 4294967296 ^ (n - 1) * (tb + 1):=by
   rw [Nat.mul_add]
   simp only [Int.toNat_natCast,val,Nat.mul_zero,Nat.add_zero] at e1
   omega
  have hdvd : (tb + 1) * 2 ^ s ≤ 4294967296:=by
   have e32 : (4294967296 : Nat) = 2 ^ (32 - s) * 2 ^ s:=by rw [← Nat.pow_add,show 32 - s + s = 32 by omega]
   rw [e32] at hts ⊢
   have:=Nat.lt_of_mul_lt_mul_right hts
   exact Nat.mul_le_mul_right _ this
  have e5 : y * 2 ^ s < 4294967296 ^ (n - 1) * (tb + 1) * 2 ^ s:=Nat.mul_lt_mul_of_pos_right e3 hp2
  have e6 : 4294967296 ^ (n - 1) * ((tb + 1) * 2 ^ s) ≤ 4294967296 ^ (n - 1) * 4294967296:=Nat.mul_le_mul_left _ hdvd
  rw [← Nat.pow_succ,show (n - 1).succ = n by omega,← Nat.mul_assoc] at e6
  omega
 have hVl:=wd_len_eq hV1 hV2 hn1
 have hxa:=val_lt wa
 have hres : val a * 2 ^ s / (y * 2 ^ s) = val a / y ∧ val a * 2 ^ s % (y * 2 ^ s) / 2 ^ s = val a % y:=by
  refine ⟨Nat.mul_div_mul_right _ _ hp2,?_⟩
  rw [Nat.mul_mod_mul_right,Nat.mul_div_cancel _ hp2]
 have hAl : (wd (val a * 2 ^ s)).length ≤ a.length + 1:=by
  refine wd_len_lt ?_
  have k1 : 2 ^ s ≤ 4294967296:=Nat.le_trans (Nat.pow_le_pow_right (by omega) (show s ≤ 32 by omega)) (by decide)
  have k2 : val a * 2 ^ s < 4294967296 ^ a.length * 2 ^ s:=Nat.mul_lt_mul_of_pos_right hxa hp2
  have k3 : 4294967296 ^ a.length * 2 ^ s ≤ 4294967296 ^ a.length * 4294967296:=Nat.mul_le_mul_left _ k1
  rw [Nat.pow_succ]
  omega
 have cua:=c_rUp a s hs (by omega)
 have cub:=c_rUp bl s hs (by omega)
 rw [hvy] at cub
 have hwA:=wd_Ws (val a * 2 ^ s)
 have hvA:=val_wd (val a * 2 ^ s)
 have hwV:=wd_Ws (y * 2 ^ s)
 have hvV:=val_wd (y * 2 ^ s)
 have hgV:=wd_getD (y * 2 ^ s) (n - 1)
 generalize val a * 2 ^ s = A at *
 generalize y * 2 ^ s = V at *
 have htop : V / 4294967296 ^ (n - 1) < 4294967296:=by
  rw [Nat.div_lt_iff_lt_mul (Nat.pow_pos (by omega)),Nat.mul_comm,← Nat.pow_succ,show (n - 1).succ = n by omega]; exact hV2
 have htop1 : 1 ≤ V / 4294967296 ^ (n - 1):=by
  rw [Nat.le_div_iff_mul_le (Nat.pow_pos (by omega)),Nat.one_mul]; exact hV1
 have htopV : V / 4294967296 ^ (n - 1) * 4294967296 ^ (n - 1) ≤ V:=Nat.div_mul_le_self _ _
 rw [Nat.mod_eq_of_lt htop] at hgV
 generalize V / 4294967296 ^ (n - 1) = top at *
 have hVp : 0 < V:=by have:=Nat.pow_pos (n:=n - 1) (show 0 < 4294967296 by omega); omega
 conv=>whnf
 refine .pure _ _ ?_ ⟨rfl,rfl⟩ cua fun _=>?_
 ·exact leL_refl _
 conv=>whnf
 refine .pure _ _ ?_ ⟨rfl,rfl⟩ cub fun _=>?_
 ·exact leL_refl _
 generalize wd A = al at *
 have cmul:=fun g : Nat=>fun (hg : g < 4294967296)=>c_rMul (wd V) [(g : Int)] (by omega) (by simp)
 generalize wd V = vl at *
 obtain ⟨L,hL⟩ : ∃ L,al.length = L:=⟨_,rfl⟩
 have ell : (((al.map (AV.int .u32)).length : Nat) : Int) = (L : Int):=by simp [hL]
 conv=>whnf
 refine ADraw.mk ⟨[true,true,false,true,true,true,true,true,true,true,true,true,true,true,true],by kernel_rfl,?_⟩
 conv=>whnf
 rw [ell]
 refine ⟨⟨by omega,by omega,by simp; omega,by omega⟩,.wr ?_⟩
 conv=>whnf
 rw [ell]
 refine zA ?_;conv=>whnf
 refine zA ?_;conv=>whnf
 rw [show max (0 : Int) ((L : Int) - (n : Int) + 1) = ((L + 1 - n : Nat) : Int) by omega]
 refine ⟨⟨by omega,by omega,by simp⟩,?_⟩
 have hcut : ((al.map (AV.int .u32)).drop ((L + 1 - n : Nat) : Int).toNat).take ((((al.map (AV.int .u32)).length : Nat) : Int).toNat - ((L + 1 - n : Nat) : Int).toNat) = (al.drop (L + 1 - n)).map (AV.int .u32):=by
  rw [List.take_of_length_le (by simp),Int.toNat_natCast,List.map_drop]
 rw [hcut]
 conv=>whnf
 refine .pure (by simp [maxL]; omega) (by simp; omega) ⟨rfl,?_⟩
 conv=>whnf
 refine zA ?_;conv=>whnf
 have hinit : ∃ j : Nat,(((L : Int) - (n : Int) = (j : Int) - 1) ∨ ((L : Int) - (n : Int) < 0 ∧ j = 0)) ∧ RInv V L al j (val (al.drop (L + 1 - n))) (List.replicate L 0):=by
  have hrz : val (List.replicate L (0 : Int)) = 0:=val_zeros fun x hx=>(List.mem_replicate.1 hx).2
  have hzw : Ws (List.replicate L (0 : Int)):=by
   intro x hx
   rw [(List.mem_replicate.1 hx).2]; omega
  have hz : ∀ k,(List.replicate L (0 : Int)).getD k 0 = 0:=by
   intro k
   rw [List.getD_eq_getElem?_getD,List.getElem?_replicate]
   split <;> rfl
  have hdz : ∀ k,val ((List.replicate L (0 : Int)).drop k) = 0:=fun k=>val_zeros fun x hx=>(List.mem_replicate.1 (List.mem_of_mem_drop hx)).2
  have hlt : val (al.drop (L + 1 - n)) < V:=by
   have h1:=val_lt (hwA.drop (L + 1 - n))
   have h2 : 4294967296 ^ (al.drop (L + 1 - n)).length ≤ 4294967296 ^ (n - 1):=Nat.pow_le_pow_right (by omega) (by rw [List.length_drop]; omega)
   omega
  by_cases hLn : n ≤ L
  ·refine ⟨L + 1 - n,.inl (by omega),by omega,hzw,by simp,hlt,?_,fun k _=>hz k⟩
   rw [hdz,Nat.mul_zero]; rfl
  ·refine ⟨0,?_,by omega,hzw,by simp,hlt,?_,fun k _=>hz k⟩
   ·by_cases h : (L : Int) - (n : Int) = ((0 : Nat) : Int) - 1
    ·exact .inl h
    ·exact .inr ⟨by omega,rfl⟩
   ·rw [hdz,Nat.mul_zero,Nat.add_zero,show L + 1 - n = 0 by omega]
 obtain ⟨j0,hj0,hI0⟩:=hinit
 have hrw0 : Ws (al.drop (L + 1 - n)):=hwA.drop _
 have hrl0 : (al.drop (L + 1 - n)).length ≤ 300001:=by rw [List.length_drop]; omega
 conv=>whnf
 refine LoopE.of <| LoopSpec.inv (.refl _ _) (fun x : Int × Nat × List Int × List Int=>((x.1 = (x.2.1 : Int) - 1) ∨ (x.1 < 0 ∧ x.2.1 = 0)) ∧ -1000000 ≤ x.1 ∧ Ws x.2.2.1 ∧ x.2.2.1.length ≤ 300001 ∧ RInv V L al x.2.1 (val x.2.2.1) x.2.2.2)
  (fun | (e,_,r,_)=>[(11,.int .i64 e),(10,wL r)]) (fun | (_,_,_,Q)=>[(0,.arr 1 L (Q.map (.int .u32)))])
  (fun x=>x.2.1) ((L : Int) - (n : Int),j0,al.drop (L + 1 - n),List.replicate L 0) ?_ (fun _=>rfl) ?_ ?_
 ·exact ⟨hj0,(by omega : -1000000 ≤ (L : Int) - (n : Int)),hrw0,hrl0,hI0⟩
 ·refine ⟨?_,.mk ?_ ⟨by simp,trivial⟩⟩
  ·repeat' first|exact rfl|exact trivial|exact wR|exact lR _|apply aI
   omega
  ·repeat' first|exact rfl|exact trivial|exact wR|exact lR _|apply aI
   all_goals first | (simp; done) | exact leRL_of (by simp)
 rintro ⟨e,j,rl,Q⟩ ⟨hej,hem,hwr,hrl,hI⟩ _
 simp only at hej hem hwr hrl hI
 (try dsimp only[awp]);conv=>whnf
 refine And.intro (fun h=>?_) (fun h=>?_)
 ·obtain ⟨k,rfl⟩ : ∃ k,j = k + 1:=⟨j - 1,by omega⟩
  have hek : e = (k : Int):=by omega
  subst hek
  have hjle:=hI.jle
  have hQL:=hI.lq
  have hkL : k < L:=by omega
  have hxa:=hwA.getD (i:=k)
  obtain ⟨hS,hst⟩:=hI.step hVp (by omega)
  conv=>whnf
  refine aidxN' 0 rfl (by omega) ?_
  generalize al.getD k 0 = x0 at *
  obtain ⟨x,rfl⟩ : ∃ x : Nat,x0 = x:=⟨x0.toNat,by omega⟩
  rw [Int.toNat_natCast] at hS hst
  have ct:=c_rTrim ((x : Int) :: rl) (by simp; omega)
  rw [val_cons,Int.toNat_natCast] at ct
  generalize hSS : x + 4294967296 * val rl = S at *
  have hSB : S < 4294967296 ^ (n + 1):=by
   have k1 : 4294967296 * V ≤ 4294967296 * 4294967296 ^ n:=Nat.mul_le_mul_left _ (by omega)
   rw [Nat.pow_succ,Nat.mul_comm]
   omega
  conv=>whnf
  refine .pure (by simp [maxL]; omega) (by simp; omega) ?_
  conv=>whnf
  refine .gen _ _ (FnH.ofPure ct ?_ ⟨rfl,rfl⟩) fun _=>?_
  ·all_goals exact wk
  have cw1:=c_rWord (wd S) n
  have cw0:=c_rWord (wd S) (n - 1)
  have cwt:=c_rWord vl (n - 1)
  rw [wd_getD] at cw1 cw0
  rw [hgV] at cwt
  have hhd:=head_eq hn1 hSB
  have hh1 : S / 4294967296 ^ n % 4294967296 < 4294967296:=Nat.mod_lt _ (by omega)
  have hh0 : S / 4294967296 ^ (n - 1) % 4294967296 < 4294967296:=Nat.mod_lt _ (by omega)
  have hge2:=rguess (V:=V) (s:=S) (p:=4294967296 ^ (n - 1)) (Nat.pow_pos (by omega)) htop1 htopV (by rw [Nat.div_lt_iff_lt_mul hVp]; exact hS)
  generalize S / 4294967296 ^ n % 4294967296 = z1 at *
  generalize S / 4294967296 ^ (n - 1) % 4294967296 = z0 at *
  generalize S / 4294967296 ^ (n - 1) = head at *
  obtain ⟨q,hq⟩ : ∃ q,S / V = q:=⟨_,rfl⟩
  rw [hq] at hge2 hst
  conv=>whnf
  refine .gen _ _ (FnH.ofPure cw1 (leL_refl _) ⟨rfl,rfl⟩) fun _=>?_
  conv=>whnf
  refine ⟨by decide,?_⟩
  rw [shl_word (by omega)]
  conv=>whnf
  refine zA ?_;conv=>whnf
  rw [show (n : Int) - 1 = ((n - 1 : Nat) : Int) by omega]
  refine .gen _ _ (FnH.ofPure cw0 (leL_refl _) ⟨rfl,rfl⟩) fun _=>?_
  conv=>whnf
  rw [or_word (by omega) (by omega),hhd]
  conv=>whnf
  refine zA ?_;conv=>whnf
  rw [show (n : Int) - 1 = ((n - 1 : Nat) : Int) by omega]
  refine .gen _ _ (FnH.ofPure cwt (leL_refl _) ⟨rfl,rfl⟩) fun _=>?_
  conv=>whnf
  refine ⟨by omega,?_⟩
  rw [tdiv_nat]
  conv=>whnf
  have hht : head / top ≤ head:=Nat.div_le_self _ _
  rw [wrap_u64 (n:=((head / top : Nat) : Int)) (by omega) (by omega)]
  rw [show min ((head / top : Nat) : Int) 4294967295 = ((min (head / top) 4294967295 : Nat) : Int) by omega]
  have hg1 : min (head / top) 4294967295 < 4294967296:=by omega
  generalize min (head / top) 4294967295 = g0 at *
  rw [wrap_u32 (n:=(g0 : Int)) (by omega) (by omega)]
  have cm:=cmul g0 hg1
  rw [hvV,show val [(g0 : Int)] = g0 by simp [val]] at cm
  refine .gen _ _ (FnH.ofPure cm ?_ ⟨rfl,rfl⟩) fun _=>?_
  ·all_goals exact wk
  conv=>whnf
  have hVg : ∀ g,g < 4294967296 → (wd (V * g)).length ≤ n + 1:=by
   intro g hg
   refine wd_len_lt ?_
   rw [Nat.pow_succ]
   exact Nat.mul_lt_mul_of_lt_of_le hV2 (by omega) (by omega)
  have hSl:=wd_len_lt hSB
  refine LoopE.of <| LoopSpec.inv (.refl _ _) (fun g : Nat=>q ≤ g ∧ g < 4294967296) (fun g=>[(12,.int .u64 g),(13,wL (wd (V * g)))]) (fun _=>[(0,.arr 1 L (Q.map (.int .u32)))])
   (fun g=>g) g0 ?_ (fun _=>rfl) ?_ ?_
  ·exact ⟨hge2,hg1⟩
  ·refine ⟨?_,.refl rfl⟩
   all_goals exact wk
  rintro g ⟨hqg,hgB⟩ _
  have hgl:=hVg g hgB
  have cc:=c_rCmp (wd (V * g)) (wd S) (by omega) (by omega)
  rw [val_wd,val_wd] at cc
  have hcmp : (0 < cmpN (V * g) S) ↔ S < V * g:=by
   unfold cmpN
   split
   ·omega
   ·split <;> omega
  (try dsimp only[awp]);conv=>whnf
  refine .gen _ _ (FnH.ofPure cc (leL_refl _) ⟨rfl,rfl⟩) fun _=>?_
  conv=>whnf
  refine And.intro (fun h=>?_) (fun h=>?_)
  ·have hqg2:=rdiv_gt hq (hcmp.1 h)
   have cs:=c_rSub (wd (V * g)) vl (by omega) (by omega) _ rfl
   have hsub : V * g - V = V * (g - 1):=by rw [Nat.mul_sub,Nat.mul_one]
   have hge3 : ¬ V * g < V:=by
    have : V * 1 ≤ V * g:=Nat.mul_le_mul_left _ (by omega)
    omega
   rw [val_wd,hvV,if_neg hge3,hsub] at cs
   conv=>whnf
   rw [show ((g : Int) - 1) = ((g - 1 : Nat) : Int) by omega,wrap_u64 (n:=((g - 1 : Nat) : Int)) (by omega) (by omega)]
   conv=>whnf
   refine .gen _ _ (FnH.ofPure cs (leL_refl _) ⟨rfl,rfl⟩) fun _=>?_
   conv=>whnf
   refine ⟨g - 1,?_,?_,?_⟩
   ·exact ⟨by omega,by omega⟩
   ·refine ⟨?_,.refl rfl⟩
    all_goals exact wk
   ·show g - 1 < g
    omega
  have hgq:=rdiv_le hVp hq hqg (fun hh=>h (hcmp.2 hh))
  subst hgq
  have cs:=c_rSub (wd S) (wd (V * g)) (by omega) (by omega) _ rfl
  rw [val_wd,val_wd,if_neg (fun hh=>h (hcmp.2 hh)),rdiv_mod hq] at cs
  have hrl2 : (wd (S % V)).length ≤ n:=wd_len_lt (Nat.lt_of_lt_of_le (Nat.mod_lt _ hVp) (by omega))
  conv=>whnf
  refine .gen _ _ (FnH.ofPure cs (leL_refl _) ⟨rfl,rfl⟩) fun _=>?_
  conv=>whnf
  rw [wrap_u32 (n:=(g : Int)) (by omega) (by omega)]
  refine ⟨⟨by omega,by omega⟩,?_⟩
  dsimp only [putE]
  rw [aops]
  dsimp only [guardC]
  dsimp only [aopW,aop]
  conv=>whnf
  refine ⟨by rw [List.length_map,hQL]; omega,rfl,?_⟩
  conv=>whnf
  refine zA ?_;conv=>whnf
  refine ⟨((k : Int) - 1,k,wd (S % V),Q.set k (g : Int)),?_,?_,?_⟩
  ·refine ⟨.inl rfl,(by omega : -1000000 ≤ (k : Int) - 1),wd_Ws _,(by omega : (wd (S % V)).length ≤ 300001),?_⟩
   show RInv V L al k (val (wd (S % V))) (Q.set k (g : Int))
   rw [val_wd]
   exact hst
  ·refine ⟨?_,.mk ?_ ⟨by simp,trivial⟩⟩
   ·all_goals exact wk
   ·repeat' first|exact rfl|exact trivial|exact wR|exact lR _|apply aI
    refine leRL_of ?_
    rw [List.map_set]
    simp [strip]
  ·show k < k + 1
   omega
 ·have hj : j = 0:=by omega
  subst hj
  have he:=hI.eq
  have hl:=hI.lt
  have hQL:=hI.lq
  simp only [List.drop_zero] at he
  have f1 : val Q = A / V:=by
   rw [← hvA,he,Nat.add_mul_div_left _ _ hVp,Nat.div_eq_of_lt hl,Nat.zero_add]
  have f2 : val rl = A % V:=by
   rw [← hvA,he,Nat.add_mul_mod_self_left,Nat.mod_eq_of_lt hl]
  have hcq:=c_rTrim Q (by omega)
  rw [f1,hres.1] at hcq
  have hcd:=c_rDown rl s hs (by omega)
  rw [f2,hres.2] at hcd
  conv=>whnf
  refine .gen _ _ (FnH.frz 0 rfl rfl (by simp; omega) (FnH.ofPure hcq ?_ ⟨rfl,rfl⟩)) fun _=>?_
  ·repeat' first|exact rfl|exact trivial|exact wR|exact lR _|apply aI
   refine leRL_of ?_
   simp
   rw [List.take_of_length_le (by simp; omega)]
  conv=>whnf
  refine .gen _ _ (FnH.ofPure hcd (leL_refl _) ⟨rfl,rfl⟩) fun _=>?_
  conv=>whnf
  refine fM ?_;(conv=>whnf);refine ⟨?_,rfl⟩;conv=>whnf
  all_goals exact wk


def formR (neg : Bool) (n d : Nat) : Rat:=if n = 0 then ⟨false,[],[]⟩ else ⟨neg,wd (n / Nat.gcd n d),wd (d / Nat.gcd n d)⟩

def partsR (r : Rat) : Bool × Nat × Nat:=if valid r = true ∧ r.num ≠ [] then (r.neg,val r.num,val r.den) else (false,0,1)

theorem wd_len_mul {x y k l : Nat} (hx : (wd x).length ≤ k) (hy : (wd y).length ≤ l) : (wd (x * y)).length ≤ k + l:=by
 refine wd_len_lt ?_
 have h1:=val_lt (wd_Ws x)
 have h2:=val_lt (wd_Ws y)
 rw [val_wd] at h1 h2
 have h3 : 4294967296 ^ (wd x).length ≤ 4294967296 ^ k:=Nat.pow_le_pow_right (by omega) hx
 have h4 : 4294967296 ^ (wd y).length ≤ 4294967296 ^ l:=Nat.pow_le_pow_right (by omega) hy
 rw [Nat.pow_add]
 exact Nat.mul_lt_mul_of_lt_of_le (by omega) (by omega) (by omega)

theorem blen_zero {x : Nat} : blen x = 0 ↔ x = 0:=by
 unfold blen
 split
 ·simp [*]
 ·simp [*]

theorem blen_one {x : Nat} : blen x = 1 ↔ x = 1:=by
 by_cases h : x = 0
 ·subst h; simp [blen]
 ·obtain ⟨l,h1,h2,h3⟩:=blen_spec h
  rw [h1]
  constructor
  ·intro e
   obtain rfl : l = 0:=by omega
   simp at h3; omega
  ·intro e
   subst e
   have : 2 ^ l ≤ 2 ^ 0:=by simpa using h2
   have:=(Nat.pow_le_pow_iff_right (a:=2) (by omega)).1 this
   omega

theorem plain_wd {l : List Int} (h : plainR l = true) (hw : Ws l) : wd (val l) = l ∧ val l ≠ 0:=by
 simp only [plainR,Bool.and_eq_true,decide_eq_true_eq] at h
 have e:=wd_val hw (.inr h.2)
 refine ⟨e,fun h0=>h.1 ?_⟩
 rw [h0,wd_zero] at e
 exact e.symm

structure PartsOk (r : Rat) : Prop where
 den : (partsR r).2.2 ≠ 0
 ln : (wd (partsR r).2.1).length ≤ 400000
 ld : (wd (partsR r).2.2).length ≤ 400000
 eq : (if valid r = true ∧ r.num ≠ [] then AV.tup [.bool r.neg,wL r.num,wL r.den] else .tup [.bool false,wL [],wL [1]]) = .tup [.bool (partsR r).1,wL (wd (partsR r).2.1),wL (wd (partsR r).2.2)]

theorem partsOk {r : Rat} (w1 : Ws r.num) (w2 : Ws r.den) (l1 : r.num.length ≤ 400000) (l2 : r.den.length ≤ 400000) : PartsOk r:=by
 by_cases h : valid r = true ∧ r.num ≠ []
 ·have hp : partsR r = (r.neg,val r.num,val r.den):=if_pos h
  obtain ⟨h1,h2⟩:=h
  have h1':=h1
  unfold valid at h1
  rw [if_neg (fun h=>h2 h.1)] at h1
  simp only [Bool.and_eq_true] at h1
  obtain ⟨e1,_⟩:=plain_wd h1.1.1 w1
  obtain ⟨e2,n2⟩:=plain_wd h1.1.2 w2
  refine ⟨?_,?_,?_,?_⟩
  ·rw [hp]; exact n2
  ·rw [hp,show wd (r.neg,val r.num,val r.den).2.1 = r.num from e1]; exact l1
  ·rw [hp,show wd (r.neg,val r.num,val r.den).2.2 = r.den from e2]; exact l2
  ·rw [if_pos ⟨h1',h2⟩,hp,show wd (r.neg,val r.num,val r.den).2.1 = r.num from e1,show wd (r.neg,val r.num,val r.den).2.2 = r.den from e2]
 ·have hp : partsR r = (false,0,1):=if_neg h
  have e1 : wd 1 = [1]:=wd_small (by omega) (by omega)
  refine ⟨?_,?_,?_,?_⟩
  ·rw [hp]; decide
  ·rw [hp,show wd ((false,0,1) : Bool × Nat × Nat).2.1 = [] from wd_zero]; simp
  ·rw [hp,show wd ((false,0,1) : Bool × Nat × Nat).2.2 = [1] from e1]; simp
  ·rw [if_neg h,hp,show wd ((false,0,1) : Bool × Nat × Nat).2.1 = [] from wd_zero,show wd ((false,0,1) : Bool × Nat × Nat).2.2 = [1] from e1]

theorem ratWs {r : Rat} {l : List AV} (h : OkL (r.av :: l)) : Ws r.num ∧ Ws r.den:=⟨Ws.ok h.1.2.1.2,Ws.ok h.1.2.2.1.2⟩

theorem c_clone32 (l : List Int) (hl : l.length ≤ 1000000) : FnH Tryz.prog 156 [wL l] [] (wL l) []:=by
 refine FnH.intro lay mixed Tryz.func156 (by kernel_rfl) rfl (by kernel_rfl) rfl fun hok=>?_
 conv=>whnf
 intro b hb
 conv=>whnf
 refine And.intro (fun h=>?_) (fun h=>?_)
 ·have : l = []:=by simpa using hb h
  subst this
  conv=>whnf
  refine fM ?_;(conv=>whnf);refine ⟨?_,rfl⟩;conv=>whnf
  rfl
 ·conv=>whnf
  refine .pure (by simp [maxL]; omega) (by simp; omega) ?_
  conv=>whnf
  refine fM ?_;(conv=>whnf);refine ⟨?_,rfl⟩;conv=>whnf
  all_goals exact wk


theorem c_rGcd (a b : List Int) (ha : a.length ≤ 300000) (hb : b.length ≤ 300000) : FnH Tryz.prog 153 [wL a,wL b] [] (wL (wd (Nat.gcd (val a) (val b)))) []:=by
 refine FnH.intro lay mixed Tryz.func153 (by kernel_rfl) rfl (by kernel_rfl) rfl fun hok=>?_
 have wa : Ws a:=Ws.ok hok.1.2
 have wb : Ws b:=Ws.ok hok.2.1.2
 have la:=wd_len_le wa
 have lb:=wd_len_le wb
 conv=>whnf
 refine .pure _ _ ?_ ⟨rfl,rfl⟩ (c_rTrim a (by omega)) fun _=>?_
 ·exact leL_refl _
 conv=>whnf
 refine .pure _ _ ?_ ⟨rfl,rfl⟩ (c_rTrim b (by omega)) fun _=>?_
 ·exact leL_refl _
 conv=>whnf
 refine LoopE.of <| LoopSpec.inv (.refl _ _) (fun (x : Nat × Nat)=>(wd x.1).length ≤ 300000 ∧ (wd x.2).length ≤ 300000 ∧ Nat.gcd x.1 x.2 = Nat.gcd (val a) (val b)) (fun (x : Nat × Nat)=>[(0,wL (wd x.1)),(1,wL (wd x.2))]) (fun _=>_) (fun (x : Nat × Nat)=>x.2) (val a,val b) ?_ (fun _=>rfl) ?_ ?_
 ·exact ⟨(by omega : (wd (val a)).length ≤ 300000),(by omega : (wd (val b)).length ≤ 300000),rfl⟩
 ·all_goals exact wk
 rintro ⟨x,y⟩ ⟨h1,h2,h3⟩ _
 simp only at h1 h2 h3
 (try dsimp only[awp]);conv=>whnf
 refine And.intro (fun h=>?_) (fun h=>?_)
 ·have h0 : y ≠ 0:=by
   intro e; subst e
   simp [wd_zero] at h
  have cd:=c_rDiv (wd x) (wd y) h1 h2 (by rw [val_wd]; exact h0)
  rw [val_wd,val_wd] at cd
  have hm : x % y < y:=Nat.mod_lt _ (by omega)
  have hml:=wd_len_mono (Nat.le_of_lt hm)
  conv=>whnf
  refine .pure _ _ ?_ ⟨rfl,rfl⟩ cd fun _=>?_
  ·exact leL_refl _
  conv=>whnf
  refine ⟨(y,x % y),?_,?_,?_⟩
  ·refine ⟨h2,(by omega : (wd (x % y)).length ≤ 300000),?_⟩
   show Nat.gcd y (x % y) = _
   rw [← h3,Nat.gcd_comm x y,Nat.gcd_rec y x]
   try exact Nat.gcd_comm _ _
  ·all_goals exact wk
  ·show x % y < y
   exact hm
 ·have h0 : y = 0:=by
   apply Classical.byContradiction
   intro hy
   apply h
   show (0 : Int) < ((wd y).map _).length
   rw [wd_pos hy]; simp
  subst h0
  conv=>whnf
  refine fM ?_;(conv=>whnf);refine ⟨?_,rfl⟩;conv=>whnf
  refine ⟨rfl,leRL_of ?_⟩
  rw [← h3,Nat.gcd_zero_right]

theorem getLast_getD (a : List Int) (k : Nat) (e : k = a.length - 1) : a.getD k 0 = a.getLastD 0:=by
 subst e
 rw [List.getLastD_eq_getLast?,List.getLast?_eq_getElem?,List.getD_eq_getElem?_getD]

theorem c_rValid (r : Rat) (l1 : r.num.length ≤ 300000) (l2 : r.den.length ≤ 300000) : FnH Tryz.prog 148 [r.av] [] (.bool (valid r)) []:=by
 have cg:=c_rGcd r.num r.den l1 l2
 refine FnH.intro lay mixed Tryz.func148 (by kernel_rfl) rfl (by kernel_rfl) rfl fun hok=>?_
 have w:=ratWs hok
 have hgl : (wd (Nat.gcd (val r.num) (val r.den))).length ≤ 1000000:=by
  have k1:=wd_len_le w.1
  have k2:=wd_len_le w.2
  by_cases h0 : val r.num = 0
  ·rw [h0,Nat.gcd_zero_left]; omega
  ·have:=wd_len_mono (Nat.gcd_le_left (val r.den) (by omega : 0 < val r.num))
   omega
 have cb:=c_rBits (wd (Nat.gcd (val r.num) (val r.den))) hgl
 rw [val_wd] at cb
 have h1:=blen_one (x:=Nat.gcd (val r.num) (val r.den))
 have hval : ¬ r.num = [] → (valid r = true ↔ plainR r.num = true ∧ plainR r.den = true ∧ Nat.gcd (val r.num) (val r.den) = 1):=fun n1=>by simp [valid,n1,and_assoc]
 generalize Nat.gcd (val r.num) (val r.den) = g at *
 have en : (((r.num.map (AV.int .u32)).length : Nat) : Int) = (r.num.length : Int):=by simp
 have ed : (((r.den.map (AV.int .u32)).length : Nat) : Int) = (r.den.length : Int):=by simp
 conv=>whnf
 refine ADraw.auto (by kernel_rfl) ?_;conv=>whnf
 refine And.intro (fun n1=>?_) (fun n1=>?_)
 ·have n1 : r.num = []:=List.eq_nil_of_length_eq_zero (by rw [en] at n1; omega)
  conv=>whnf
  refine And.intro (fun n2=>?_) (fun n2=>?_)
  ·conv=>whnf
   refine And.intro (fun n3=>?_) (fun n3=>?_)
   ·have n3 : r.den = []:=List.eq_nil_of_length_eq_zero (by rw [ed] at n3; omega)
    conv=>whnf
    refine fM ?_;(conv=>whnf);refine ⟨?_,rfl⟩;conv=>whnf
    simp [valid,n1,n3]
   ·have n3 : ¬ r.den = []:=fun e=>n3 (by rw [e]; rfl)
    conv=>whnf
    refine fM ?_;(conv=>whnf);refine ⟨?_,rfl⟩;conv=>whnf
    simp [valid,n1,n3,plainR]
  ·exact absurd (by rw [n1]; rfl) n2
 ·have n1 : ¬ r.num = []:=fun e=>n1 (by rw [e]; rfl)
  conv=>whnf
  refine And.intro (fun n2=>?_) (fun n2=>?_)
  ·have n2 : r.den = []:=List.eq_nil_of_length_eq_zero (by rw [ed] at n2; omega)
   conv=>whnf
   refine And.intro (fun n3=>?_) (fun n3=>?_)
   ·exact absurd (List.eq_nil_of_length_eq_zero (by rw [en] at n3; omega)) n1
   ·conv=>whnf
    refine fM ?_;(conv=>whnf);refine ⟨?_,rfl⟩;conv=>whnf
    simp [valid,n1,n2,plainR]
  ·have n2 : ¬ r.den = []:=fun e=>n2 (by rw [e]; rfl)
   have p1 : 0 < r.num.length:=List.length_pos_iff.2 n1
   have p2 : 0 < r.den.length:=List.length_pos_iff.2 n2
   (try dsimp only[awp]);conv=>whnf
   refine And.intro (inr64 (by rw [en]; omega) (by rw [en]; omega)) ?_
   (try dsimp only[awp]);conv=>whnf
   refine aidxN' 0 (i:=r.num.length - 1) (by rw [en]; omega) (by omega) ?_
   (try dsimp only[awp]);conv=>whnf
   refine And.intro (fun n3=>?_) (fun n3=>?_)
   ·(try dsimp only[awp]);conv=>whnf
    refine And.intro (inr64 (by rw [ed]; omega) (by rw [ed]; omega)) ?_
    (try dsimp only[awp]);conv=>whnf
    refine aidxN' 0 (i:=r.den.length - 1) (by rw [ed]; omega) (by omega) ?_
    (try dsimp only[awp]);conv=>whnf
    refine And.intro (fun n4=>?_) (fun n4=>?_)
    ·(try dsimp only[awp]);conv=>whnf
     refine .pure _ _ ?_ ⟨rfl,rfl⟩ cg fun _=>?_
     ·exact leL_refl _
     (try dsimp only[awp]);conv=>whnf
     refine .pure _ _ ?_ ⟨rfl,rfl⟩ cb fun _=>?_
     ·exact leL_refl _
     (try dsimp only[awp]);conv=>whnf
     refine fM ?_;(conv=>whnf);refine ⟨?_,rfl⟩;conv=>whnf
     show _ ↔ _
     have n3 : ¬ r.num.getLastD 0 = 0:=by rw [← getLast_getD r.num _ rfl]; simpa using n3
     have n4 : ¬ r.den.getLastD 0 = 0:=by rw [← getLast_getD r.den _ rfl]; simpa using n4
     rw [hval n1]
     have q1 : plainR r.num = true:=by simp [plainR,n1,n3,-List.getLastD_eq_getLast?]
     have q2 : plainR r.den = true:=by simp [plainR,n2,n4,-List.getLastD_eq_getLast?]
     rw [q1,q2]
     simp
     omega
    ·(try dsimp only[awp]);conv=>whnf
     refine fM ?_;(conv=>whnf);refine ⟨?_,rfl⟩;conv=>whnf
     have n4 : r.den.getLastD 0 = 0:=by rw [← getLast_getD r.den _ rfl]; simpa using n4
     have q : plainR r.den = false:=by simp [plainR,n4,-List.getLastD_eq_getLast?]
     simp [valid,n1,q]
   ·(try dsimp only[awp]);conv=>whnf
    refine fM ?_;(conv=>whnf);refine ⟨?_,rfl⟩;conv=>whnf
    have n3 : r.num.getLastD 0 = 0:=by rw [← getLast_getD r.num _ rfl]; simpa using n3
    have q : plainR r.num = false:=by simp [plainR,n3,-List.getLastD_eq_getLast?]
    simp [valid,n1,q]
end S
