/-
  Contracts of functions of the program, over the logic of the texts before. Nothing is assumed.
-/
import Derived.Test.YtkhinhepefmdhaaT5

open Go Go.AL Go.Proofs
namespace S
set_option maxRecDepth 100000

theorem c_awake22 : FnH Try.prog 22 [] [] (.bool true) [] := by
  obtain ⟨hB, hC⟩ := lightM_B (ex_light [99])
  obtain ⟨hB2, hC2⟩ := lightM_B (ex_light [64, 112])
  have ci := c_Input (mdE [99]) (-1) [64, 112] hC hB _ rfl
  rw [ex_input, errAV_zero] at ci
  have cu := c_Used (mdE [99]) hC hB _ rfl
  rw [if_pos ex_check, ex_used] at cu
  have cc := c_mCheck (mdE [64, 112]) hC2 hB2 _ rfl
  rw [ex_cycle, errAV_ne (by decide)] at cc
  have cis := (c_Is 14 14).weak (R' := .tt) (by show decide _ = true; decide)
  rw [errAV_ne (by decide)] at cis
  refine ⟨⟨Try.f22, Try.func22, by kernel_rfl, by kernel_rfl⟩, fun c vs hr hv => ?_⟩
  obtain rfl : vs = [] := hv
  refine calls_of_wp Try.func22 rfl ?_
  have ha0 : AOk 57 c [] { tmps := [].toArray ++ Array.replicate (57 - 0) undef, defers := [] } := ⟨fun t A h => by simp [eget] at h, rfl, by simp⟩
  refine seq_step (n := 57) lay mixed (by kernel_rfl) hr ha0 ?_
  (conv => whnf)
  refine ⟨rfl, fun c1 a1 tr1 ha1 => ?_⟩
  refine seq_step (n := 57) lay mixed (by kernel_rfl) tr1.hr ha1 ?_
  (conv => whnf)
  refine .pure _ _ ?_ ⟨rfl, rfl⟩ c_Example22 fun _ => ?_
  · exact leL_refl _
  (conv => whnf)
  refine .pure _ _ ?_ ⟨rfl, rfl⟩ ci fun _ => ?_
  · exact leL_refl _
  (conv => whnf)
  refine ⟨rfl, fun c2 a2 tr2 ha2 => ?_⟩
  refine seq_step (n := 57) lay mixed (by kernel_rfl) tr2.hr ha2 ?_
  (conv => whnf)
  refine .pure _ _ ?_ ⟨rfl, rfl⟩ c_Example22 fun _ => ?_
  · exact leL_refl _
  (conv => whnf)
  refine .pure _ _ ?_ ⟨rfl, rfl⟩ cu fun _ => ?_
  · exact leL_refl _
  (conv => whnf)
  refine ⟨rfl, fun c3 a3 tr3 ha3 => ?_⟩
  have hsz := ha3.size
  have v1 := (EV_int (ha3.env 1 _ rfl)).1
  have v2 := (EV_int (ha3.env 2 _ rfl)).1
  have v3 := (EV_int (ha3.env 3 _ rfl)).1
  have v5 := (EV_int (ha3.env 5 _ rfl)).1
  have v4 := EV_nilI (ha3.env 4 _ rfl)
  have v6 := EV_nilI (ha3.env 6 _ rfl)
  have hdf := ha3.defers
  have tr := tr1.trans (tr2.trans tr3)
  clear ha0 ha1 ha2 ha3 tr1 tr2 tr3
  obtain ⟨iM, tM, dM, zM⟩ : ∃ i, TIOk Try.prog 65 i ∧ (∃ fs, i.desc = .struct fs) ∧ i.zero = .ag [.str [], .str [], .nils, .nils, .nils, .nils, .nils, .nils] := Lay.getC_ok lay (k := fun i => (∃ fs, i.desc = .struct fs) ∧ i.zero = .ag [.str [], .str [], .nils, .nils, .nils, .nils, .nils, .nils]) (by (conv => whnf); exact ⟨⟨_, rfl⟩, rfl⟩)
  obtain ⟨iP, tP, dP, zP⟩ : ∃ i, TIOk Try.prog 81 i ∧ (∃ fs, i.desc = .struct fs) ∧ i.zero = .ag [.str [], .str [], .nils] := Lay.getC_ok lay (k := fun i => (∃ fs, i.desc = .struct fs) ∧ i.zero = .ag [.str [], .str [], .nils]) (by (conv => whnf); exact ⟨⟨_, rfl⟩, rfl⟩)
  obtain ⟨iG, tG, dG, zG⟩ : ∃ i, TIOk Try.prog 73 i ∧ (∃ fs, i.desc = .struct fs) ∧ i.zero = .ag [.str [], .int .i64 0, .int .i64 0, .nils, .ag [.ff, .nils, .nils]] := Lay.getC_ok lay (k := fun i => (∃ fs, i.desc = .struct fs) ∧ i.zero = .ag [.str [], .int .i64 0, .int .i64 0, .nils, .ag [.ff, .nils, .nils]]) (by (conv => whnf); exact ⟨⟨_, rfl⟩, rfl⟩)
  obtain ⟨iS, tS, zS⟩ : ∃ i, TIOk Try.prog 9 i ∧ i.zero = .str [] := Lay.getC_ok lay (k := fun i => i.zero = .str []) (by (conv => whnf))
  obtain ⟨iLP, tLP, zLP⟩ : ∃ i, TIOk Try.prog 61 i ∧ i.zero = .nils := Lay.getC_ok lay (k := fun i => i.zero = .nils) (by (conv => whnf))
  obtain ⟨iLG, tLG, zLG⟩ : ∃ i, TIOk Try.prog 60 i ∧ i.zero = .nils := Lay.getC_ok lay (k := fun i => i.zero = .nils) (by (conv => whnf))
  obtain ⟨iLS, tLS, zLS⟩ : ∃ i, TIOk Try.prog 71 i ∧ i.zero = .nils := Lay.getC_ok lay (k := fun i => i.zero = .nils) (by (conv => whnf))
  refine wp_seq (wp_region_list ?_)
  refine wpl_call 51 #[] rfl (by kernel_rfl) (raw_Ex c3.w _ fun wE hE => ⟨_, rfl, ?_⟩)
  refine wpl_alloc (.pointer (some ⟨wE.heap.size, 0, none⟩)) (.cells #[.string ⟨#[]⟩, .string ⟨#[]⟩, .slice none 0 0, .slice none 0 0, .slice none 0 0, .slice none 0 0, .slice none 0 0, .slice none 0 0] 65) rfl (by kernel_rfl) fun w9 x9 s9 n9 => ?_
  generalize hn : c3.w.heap.size = n at *
  have hst := run_storeVar (v := .agg (exM (n + 1) (n + 3) (n + 6))) (off := 0) tM (by rw [zM]; kernel_rfl) n9 (by show 0 + 8 ≤ 8; omega) (by
    intro u hu
    simp only [Value.cells, exM] at hu
    simp only [List.mem_cons, List.not_mem_nil, or_false] at hu
    rcases hu with rfl | rfl | rfl | rfl | rfl | rfl | rfl | rfl <;> rfl)
  refine wpl_skip _ rfl (run_store' rfl (eval_put (by rw [put_size, hsz]; omega)) (by rw [eval_put_ne (by decide), eval_put (by rw [hsz]; omega)]) hst) ?_
  have hrow : (w9.setRow wE.heap.size ((#[.string ⟨#[]⟩, .string ⟨#[]⟩, .slice none 0 0, .slice none 0 0, .slice none 0 0, .slice none 0 0, .slice none 0 0, .slice none 0 0] : Array Value).toList.take 0 ++ (Value.agg (exM (n + 1) (n + 3) (n + 6))).cells.toList ++ (#[.string ⟨#[]⟩, .string ⟨#[]⟩, .slice none 0 0, .slice none 0 0, .slice none 0 0, .slice none 0 0, .slice none 0 0, .slice none 0 0] : Array Value).toList.drop (0 + (Value.agg (exM (n + 1) (n + 3) (n + 6))).cells.size)).toArray) = w9.setRow wE.heap.size (exM (n + 1) (n + 3) (n + 6)) := rfl
  rw [hrow]
  clear hrow hst
  have hb := setRow_heap w9 wE.heap.size _ (exM (n + 1) (n + 3) (n + 6)) _ _ n9
  have ho : ∀ b, b ≠ wE.heap.size → (w9.setRow wE.heap.size (exM (n + 1) (n + 3) (n + 6))).heap[b]? = w9.heap[b]? := fun b hb => setRow_other _ _ _ _ hb
  have hx := setRow_ext (cs := exM (n + 1) (n + 3) (n + 6)) x9 (Nat.le_refl wE.heap.size)
  have hsz10 : (w9.setRow wE.heap.size (exM (n + 1) (n + 3) (n + 6))).heap.size = w9.heap.size := setRow_size _ _ _
  generalize w9.setRow wE.heap.size (exM (n + 1) (n + 3) (n + 6)) = w10 at *
  obtain ⟨xE, sE, E1, E2, E3, E4, E5, E6⟩ := hE
  rw [hn] at sE E1 E2 E3 E4 E5 E6
  have F : ∀ b ob, b < n + 7 → wE.heap[b]? = some ob → w10.heap[b]? = some ob := fun b ob h1 h2 => by rw [hx.old b (by omega)]; exact h2
  have E1 := F _ _ (by omega) E1
  have E2 := F _ _ (by omega) E2
  have E3 := F _ _ (by omega) E3
  have E4 := F _ _ (by omega) E4
  have E5 := F _ _ (by omega) E5
  have E6 := F _ _ (by omega) E6
  have X10 : Ext c3.w w10 := xE.trans hx
  rw [sE] at hb
  generalize hA : ((a3.put (some 20) (.agg (exM (n + 1) (n + 3) (n + 6)))).put (some 7) (.pointer (some ⟨wE.heap.size, 0, none⟩))).put none undef = a10
  have z10 : a10.tmps.size = 57 := by rw [← hA, put_size, put_size, put_size, hsz]
  have f10 : a10.defers = [] := by rw [← hA, put_defers, put_defers, put_defers, hdf]
  have e7 : a10.eval (.tmp 7) = .pointer (some ⟨n + 7, 0, none⟩) := by rw [← hA, ← sE]; exact eval_put (by rw [put_size, hsz]; omega)
  have ek : ∀ t : Nat, t < 7 → a10.eval (.tmp t) = a3.tmps.getD t undef := fun t ht => by
    rw [← hA]
    show ((a3.put (some 20) _).put (some 7) _).eval (.tmp t) = _
    rw [eval_put_ne (show 7 ≠ t by omega), eval_put_ne (show 20 ≠ t by omega)]; rfl
  have ek1 := (ek 1 (by decide)).trans v1
  have ek2 := (ek 2 (by decide)).trans v2
  have ek3 := (ek 3 (by decide)).trans v3
  have ek4 := (ek 4 (by decide)).trans v4
  have ek5 := (ek 5 (by decide)).trans v5
  have ek6 := (ek 6 (by decide)).trans v6
  have hsz10 : w10.heap.size = n + 8 := by omega
  clear hA ek v1 v2 v3 v4 v5 v6 F xE hx x9 n9 ho
  refine (wp_seq (wp_region_list ?_) : Code.wp _ _ _ _ _)
  refine wpl_valA 21 _ _ rfl rfl (by rw [z10]; omega) (exec_field (off' := 5) rfl rfl tM dM zM rfl rfl e7) fun b1 p1 => ?_
  have q1 := p1.size.trans z10
  refine wpl_valA 22 _ _ rfl rfl (by rw [q1]; omega) (exec_load rfl tLP (by rw [zLP]; rfl) p1.new (v := .slice (some ⟨n + 6, 0, none⟩) 1 1) (by rw [cell_of_heap hb]; rfl)) fun b2 p2 => ?_
  have q2 := p2.size.trans q1
  refine wpl_valA 23 _ _ rfl rfl (by rw [q2]; omega) (exec_index (off' := 0) (by rw [zP]; rfl) rfl (by kernel_rfl) tP p2.new (kd := .i64) (n := 0) rfl (by omega) (by decide)) fun b3 p3 => ?_
  have q3 := p3.size.trans q2
  refine wpl_valA 24 _ _ rfl rfl (by rw [q3]; omega) (exec_field (off' := 2) rfl rfl tP dP zP rfl rfl p3.new) fun b4 p4 => ?_
  have q4 := p4.size.trans q3
  refine wpl_valA 25 _ _ rfl rfl (by rw [q4]; omega) (exec_load rfl tLG (by rw [zLG]; rfl) p4.new (v := .slice (some ⟨n + 5, 0, none⟩) 1 1) (by rw [cell_of_heap E6]; rfl)) fun b5 p5 => ?_
  have q5 := p5.size.trans q4
  refine wpl_valA 26 _ _ rfl rfl (by rw [q5]; omega) (exec_index (off' := 0) (by rw [zG]; rfl) rfl (by kernel_rfl) tG p5.new (kd := .i64) (n := 0) rfl (by omega) (by decide)) fun b6 p6 => ?_
  have q6 := p6.size.trans q5
  refine wpl_valA 27 _ _ rfl rfl (by rw [q6]; omega) (exec_field (off' := 3) rfl rfl tG dG zG rfl rfl p6.new) fun b7 p7 => ?_
  have q7 := p7.size.trans q6
  refine wpl_valA 28 _ _ rfl rfl (by rw [q7]; omega) (exec_load rfl tLS (by rw [zLS]; rfl) p7.new (v := .slice (some ⟨n + 4, 0, none⟩) 2 2) (by rw [cell_of_heap E5]; rfl)) fun b8 p8 => ?_
  have q8 := p8.size.trans q7
  refine wpl_valA 29 _ _ rfl rfl (by rw [q8]; omega) (exec_index (off' := 1) (by rw [zS]; rfl) rfl (by kernel_rfl) tS p8.new (kd := .i64) (n := 1) rfl (by omega) (by decide)) fun a11 p9 => ?_
  have z11 := p9.size.trans q8
  have hst := run_storeVar (P := Try.prog) (w := w10) (v := .string ⟨#[64, 112]⟩) (off := 1) tS (by rw [zS]; rfl) E4 (by show 1 + 1 ≤ 2; omega) (by
    intro u hu
    simp only [Value.cells, List.mem_cons, List.not_mem_nil, or_false] at hu
    subst hu; rfl)
  refine wpl_skip _ rfl (run_store' rfl p9.new rfl hst) ?_
  have hrow : (w10.setRow (n + 4) (exI1.toList.take 1 ++ (Value.string ⟨#[64, 112]⟩).cells.toList ++ exI1.toList.drop (1 + (Value.string ⟨#[64, 112]⟩).cells.size)).toArray) = w10.setRow (n + 4) #[.string ⟨#[98]⟩, .string ⟨#[64, 112]⟩] := rfl
  rw [hrow]
  clear hrow hst
  have hb4 := setRow_heap w10 (n + 4) _ #[.string ⟨#[98]⟩, .string ⟨#[64, 112]⟩] _ _ E4
  have ho : ∀ b, b ≠ n + 4 → (w10.setRow (n + 4) #[.string ⟨#[98]⟩, .string ⟨#[64, 112]⟩]).heap[b]? = w10.heap[b]? := fun b hb => setRow_other _ _ _ _ hb
  have hx := setRow_ext (cs := #[.string ⟨#[98]⟩, .string ⟨#[64, 112]⟩]) X10 (show c3.w.heap.size ≤ n + 4 by omega)
  have hsz11 : (w10.setRow (n + 4) #[.string ⟨#[98]⟩, .string ⟨#[64, 112]⟩]).heap.size = w10.heap.size := setRow_size _ _ _
  generalize w10.setRow (n + 4) #[.string ⟨#[98]⟩, .string ⟨#[64, 112]⟩] = w11 at *
  have hb := (ho (n + 7) (by omega)).trans hb
  have E1 := (ho (n + 1) (by omega)).trans E1
  have E2 := (ho (n + 2) (by omega)).trans E2
  have E3 := (ho (n + 3) (by omega)).trans E3
  have E5 := (ho (n + 5) (by omega)).trans E5
  have E6 := (ho (n + 6) (by omega)).trans E6
  have f11 : a11.defers = [] := p9.defers.trans (p8.defers.trans (p7.defers.trans (p6.defers.trans (p5.defers.trans (p4.defers.trans (p3.defers.trans (p2.defers.trans (p1.defers.trans f10))))))))
  have ek : ∀ t : Nat, t < 20 → a11.eval (.tmp t) = a10.eval (.tmp t) := fun t ht => by
    rw [p9.old t (by omega), p8.old t (by omega), p7.old t (by omega), p6.old t (by omega), p5.old t (by omega), p4.old t (by omega), p3.old t (by omega), p2.old t (by omega), p1.old t (by omega)]
  have ek1 := (ek 1 (by decide)).trans ek1
  have ek2 := (ek 2 (by decide)).trans ek2
  have ek3 := (ek 3 (by decide)).trans ek3
  have ek4 := (ek 4 (by decide)).trans ek4
  have ek5 := (ek 5 (by decide)).trans ek5
  have ek6 := (ek 6 (by decide)).trans ek6
  have e7 := (ek 7 (by decide)).trans e7
  have hsz12 : w11.heap.size = n + 8 := by omega
  clear p1 p2 p3 p4 p5 p6 p7 p8 p9 q1 q2 q3 q4 q5 q6 q7 q8 ek hsz11 hsz10 hsz z10 f10 E4 ho tM dM zM tP dP zP tG dG zG tS zS tLP zLP tLG zLG tLS zLS
  have hnx : c3.nx = 0 := tr.hr.nx
  have htp3 : c3.tp = tpOf [] := tr.hr.tp
  let d : Cx := { c3 with w := w11, Im := fun b o => c3.Im b o ∨ (n < b ∧ b < n + 7), ρ := fun k => if k = 0 then n + 7 else c3.ρ k, nx := 1, tp := tpOf [(0, .box (mdE [64, 112]).av)] }
  have hRd : Rd w11 d.Im (mdE [64, 112]).av (exM (n + 1) (n + 3) (n + 6)).toList := rd_ex E1 E2 E3 hb4 E5 E6 fun b o h1 h2 => .inr ⟨h1, h2⟩
  have hcell : ∀ b o, c3.Im b o → w11.cell? ⟨b, o, none⟩ = c3.w.cell? ⟨b, o, none⟩ := fun b o h => cell_same (hx.old b (tr.hr.im b o h))
  have hle : c3.Le d := ⟨fun b o h => ⟨.inl h, hcell b o h⟩, by rw [hnx]; exact Nat.zero_le _, fun k hk => by rw [hnx] at hk; omega, fun k m hk _ => by rw [hnx] at hk; omega⟩
  have TR : Tr c3 [] d [(0, .box (mdE [64, 112]).av)] := by
    refine ⟨⟨rfl, rfl, ⟨by simp, trivial⟩, ?_, ?_, by simp⟩, hle, hx.os, hx.tape, hx.output, hx.size, fun b hb _ => hx.old b hb, ?_, ?_⟩
    · rintro b o (h | h)
      · have := tr.hr.im b o h
        show b < w11.heap.size
        omega
      · show b < w11.heap.size
        omega
    · intro x hx
      obtain rfl : x = (0, .box (mdE [64, 112]).av) := by simpa using hx
      refine ⟨(exM (n + 1) (n + 3) (n + 6)).toList, 65, ?_, VR_of_Rd (c := d) _ _ hRd, ?_⟩
      · show w11.heap[n + 7]? = _
        rw [Array.toArray_toList]
        exact hb
      · rintro o (h | h)
        · have := tr.hr.im _ o h
          have : n + 7 < c3.w.heap.size := this
          omega
        · have h2 : n + 7 < n + 7 := h.2
          omega
    · intro y hy b hb
      obtain rfl : y = (0, .box (mdE [64, 112]).av) := by simpa using hy
      have hb : n + 7 = b := by simpa [blkOf, d] using hb
      exact .inl (by omega)
    · rintro b o (h | h)
      · exact .inl h
      · exact .inr (.inl (by omega))
  have AOK : AOk 57 d [(7, .ptr 0 [] 0), (1, .int .i64 2), (2, .int .i64 0), (3, .int .i64 0), (4, .nilI), (5, .int .i64 7), (6, .nilI)] a11 := by
    refine ⟨fun t A hA => ?_, f11, z11⟩
    have hm := eget_mem hA
    simp only [List.mem_cons, List.not_mem_nil, or_false, Prod.mk.injEq] at hm
    rcases hm with ⟨rfl, rfl⟩ | ⟨rfl, rfl⟩ | ⟨rfl, rfl⟩ | ⟨rfl, rfl⟩ | ⟨rfl, rfl⟩ | ⟨rfl, rfl⟩ | ⟨rfl, rfl⟩
    · show EV d _ (a11.eval (.tmp 7))
      rw [e7]; exact EV_VV (VV_ptr_mk (c := d) (i := 0) (by show 0 < 1; omega))
    · show EV d _ (a11.eval (.tmp 1))
      rw [ek1]; exact EV_VV (VV_int_mk (inr64 (by decide) (by decide)))
    · show EV d _ (a11.eval (.tmp 2))
      rw [ek2]; exact EV_VV (VV_int_mk (inr64 (by decide) (by decide)))
    · show EV d _ (a11.eval (.tmp 3))
      rw [ek3]; exact EV_VV (VV_int_mk (inr64 (by decide) (by decide)))
    · show EV d _ (a11.eval (.tmp 4))
      rw [ek4]; exact EV_VV (VV_mk rfl rfl (by simp only [VR, Rd]))
    · show EV d _ (a11.eval (.tmp 5))
      rw [ek5]; exact EV_VV (VV_int_mk (inr64 (by decide) (by decide)))
    · show EV d _ (a11.eval (.tmp 6))
      rw [ek6]; exact EV_VV (VV_mk rfl rfl (by simp only [VR, Rd]))
  refine (wp_mono (awp_sound lay mixed (fun _ _ _ _ _ h => h) (n := 57) _ (Fin L (Try.f22).results.toList [] (.bool true) []) _ _ d _ (by kernel_rfl) TR.hr AOK ?_) ?_ : Code.wp _ _ _ _ _)
  · ((try dsimp only [awp]); (conv => whnf))
    refine And.intro (fun _ => ?_) (fun h => absurd rfl h)
    ((try dsimp only [awp]); (conv => whnf))
    refine And.intro (fun _ => ?_) (fun h => absurd rfl h)
    ((try dsimp only [awp]); (conv => whnf))
    refine And.intro (fun _ => ?_) (fun h => absurd rfl h)
    ((try dsimp only [awp]); (conv => whnf))
    refine And.intro (fun _ => ?_) (fun h => absurd rfl h)
    ((try dsimp only [awp]); (conv => whnf))
    refine .pure _ _ ?_ ⟨rfl, rfl⟩ cc fun _ => ?_
    · exact leL_refl _
    ((try dsimp only [awp]); (conv => whnf))
    refine .pure _ _ ?_ ⟨rfl, rfl⟩ cis fun _ => ?_
    · exact leL_refl _
    ((try dsimp only [awp]); (conv => whnf))
    (refine FinSpec.mono ?_; (conv => whnf); refine ⟨?_, rfl⟩; (conv => whnf))
    (repeat' (first | exact rfl | exact trivial | exact HWk.refl rfl | exact leRL_refl _ | (refine And.intro ?_ ?_)))
  · rintro ex a w ⟨x, e, H1, c1, rfl, hq, rfl, htr, ha1, _⟩
    have TR2 := (tr.trans TR).trans htr
    cases x with
    | normal => exact fin_of (fn := Try.f22) lay hr TR2 ha1 hq
    | ret => exact fin_of (fn := Try.f22) lay hr TR2 ha1 hq
    | exit i => exact hq.elim
end S

open Go Go.AL Go.Proofs
namespace S
set_option maxRecDepth 100000

theorem turnG_in {l : List Mg} {x : Mg} (h : x ∈ turnL l) : ∃ y ∈ l, x = turnG y := by
  unfold turnL at h
  obtain ⟨y, hy, rfl⟩ := List.mem_map.1 (List.mem_reverse.1 h)
  exact ⟨y, hy, rfl⟩

theorem turnG_ins (x : Mg) : (turnG x).ins.length = x.ins.length := by unfold turnG; split <;> simp
theorem turnG_dorm (x : Mg) : (turnG x).dorm = x.dorm := by unfold turnG; split <;> rfl
theorem turnG_k (x : Mg) : (turnG x).k = x.k := by unfold turnG; split <;> rfl
theorem turnL_len (l : List Mg) : (turnL l).length = l.length := by simp [turnL]

theorem turn_B {m : Md} (hB : MdB m) : MdB (turnM m) := by
  have key : ∀ l : List Mg, (l.length ≤ 100 ∧ ∀ x ∈ l, x.ins.length ≤ 40) → (turnL l).length ≤ 100 ∧ ∀ x ∈ turnL l, x.ins.length ≤ 40 := by
    intro l h
    refine ⟨by rw [turnL_len]; exact h.1, fun x hx => ?_⟩
    obtain ⟨y, hy, rfl⟩ := turnG_in hx
    rw [turnG_ins]; exact h.2 y hy
  refine ⟨hB.evs, hB.hs, key _ hB.gates, by simpa [turnM] using hB.pages, fun p hp => ?_, hB.grs, hB.mem, hB.phs, hB.vals⟩
  obtain ⟨q, hq, rfl⟩ := List.mem_map.1 hp
  exact key _ (hB.pgates q hq)

theorem turn_C {m : Md} (hC : MdC m) : MdC (turnM m) := by
  have key : ∀ l : List Mg, mgC l → mgC (turnL l) := by
    intro l h x hx
    obtain ⟨y, hy, rfl⟩ := turnG_in hx
    rw [turnG_dorm]; exact h y hy
  refine ⟨hC.evs, key _ hC.gates, fun p hp => ?_, hC.grs, hC.phs⟩
  obtain ⟨q, hq, rfl⟩ := List.mem_map.1 hp
  exact key _ (hC.pages q hq)


theorem c_ModelTurned (hT : ∀ m, MOk m → MOk (turnM m) ∧ usedR (turnM m) = usedR m ∧ dynR (turnM m) = dynR m) (m : Md) : FnH Try.prog 7 [m.av] [] (.bool true) [] := by
  have c0 := c_awake22.weak (R' := .tt) rfl
  have cl := c_LightM m _ rfl
  cases hL : lightM m with
  | false =>
    rw [hL] at cl
    have cl := cl.weak (R' := .ff) rfl
    refine FnH.intro lay mixed Try.func7 (by kernel_rfl) rfl (by kernel_rfl) rfl fun hok => ?_
    ((try dsimp only [argC, succC]); (try dsimp only [awp]); (conv => whnf))
    refine .pure _ _ ?_ ⟨rfl, rfl⟩ c0 fun _ => ?_
    · exact leL_refl _
    ((try dsimp only [awp]); (conv => whnf))
    refine .pure _ _ ?_ ⟨rfl, rfl⟩ cl fun _ => ?_
    · exact leL_refl _
    ((try dsimp only [awp]); (conv => whnf))
    refine .pure _ _ ?_ ⟨rfl, rfl⟩ c0 fun _ => ?_
    · exact leL_refl _
    ((try dsimp only [awp]); (conv => whnf))
    (refine FinSpec.mono ?_; (conv => whnf); refine ⟨?_, rfl⟩; (conv => whnf))
    (repeat' first | exact rfl | exact trivial | exact HWk.refl rfl | exact leRL_refl _ | apply And.intro)
  | true =>
  rw [hL] at cl
  have cl := cl.weak (R' := .tt) rfl
  obtain ⟨hB, hC⟩ := lightM_B hL
  have cc := c_mCheck m hC hB _ rfl
  by_cases hc : checkM m ≠ 0
  · rw [errAV_ne hc] at cc
    refine FnH.intro lay mixed Try.func7 (by kernel_rfl) rfl (by kernel_rfl) rfl fun hok => ?_
    ((try dsimp only [argC, succC]); (try dsimp only [awp]); (conv => whnf))
    refine .pure _ _ ?_ ⟨rfl, rfl⟩ c0 fun _ => ?_
    · exact leL_refl _
    ((try dsimp only [awp]); (conv => whnf))
    refine .pure _ _ ?_ ⟨rfl, rfl⟩ cl fun _ => ?_
    · exact leL_refl _
    ((try dsimp only [awp]); (conv => whnf))
    refine .pure _ _ ?_ ⟨rfl, rfl⟩ cc fun _ => ?_
    · exact leL_refl _
    ((try dsimp only [awp]); (conv => whnf))
    refine .pure _ _ ?_ ⟨rfl, rfl⟩ c0 fun _ => ?_
    · exact leL_refl _
    ((try dsimp only [awp]); (conv => whnf))
    (refine FinSpec.mono ?_; (conv => whnf); refine ⟨?_, rfl⟩; (conv => whnf))
    (repeat' first | exact rfl | exact trivial | exact HWk.refl rfl | exact leRL_refl _ | apply And.intro)
  have hc : checkM m = 0 := by simpa using hc
  have hM := checkM_ok hc
  rw [hc, errAV_zero] at cc
  obtain ⟨hM2, hu, hd⟩ := hT m hM
  have hc2 := checkM_of hM2
  have cu := c_Used m hC hB _ rfl
  have cd := c_Dynamic m hC hB _ rfl
  have cc2 := c_mCheck (turnM m) (turn_C hC) (turn_B hB) _ rfl
  have cu2 := c_Used (turnM m) (turn_C hC) (turn_B hB) _ rfl
  have cd2 := c_Dynamic (turnM m) (turn_C hC) (turn_B hB) _ rfl
  rw [if_pos hc] at cu cd
  rw [if_pos hc2, hu] at cu2
  rw [if_pos hc2, hd] at cd2
  rw [hc2, errAV_zero] at cc2
  have hpl := hB.pages
  have ct := c_turned m.gates (by have := hB.gates.1; omega) (fun g hg => by have := hB.gates.2 g hg; omega)
  generalize usedR m = u at *
  generalize dynR m = dy at *
  refine FnH.intro lay mixed Try.func7 (by kernel_rfl) rfl (by kernel_rfl) rfl fun hok => ?_
  ((try dsimp only [argC, succC]); (try dsimp only [awp]); (conv => whnf))
  refine .pure _ _ ?_ ⟨rfl, rfl⟩ c0 fun _ => ?_
  · exact leL_refl _
  ((try dsimp only [awp]); (conv => whnf))
  refine .pure _ _ ?_ ⟨rfl, rfl⟩ cl fun _ => ?_
  · exact leL_refl _
  ((try dsimp only [awp]); (conv => whnf))
  refine .pure _ _ ?_ ⟨rfl, rfl⟩ cc fun _ => ?_
  · exact leL_refl _
  ((try dsimp only [awp]); (conv => whnf))
  refine .pure _ _ ?_ ⟨rfl, rfl⟩ ct fun _ => ?_
  · exact leL_refl _
  ((try dsimp only [awp]); (conv => whnf))
  refine LoopE.of <| LoopSpec.inv (.growF 1 [5] 3 [] (.ag [.str m.name, .str m.top, .sl 11 (m.evs.map Ev.av) .no, .sl 2 (m.hs.map Hs.av) .no, gL (turnL m.gates), .nils, .sl 4 (m.grs.map Gr.av) .no, .sl 3 (m.phs.map Ph.av) .no]) .nils _ rfl rfl (.inl ⟨rfl, rfl⟩) rfl (.refl _ _)) (fun (k : Nat) => k ≤ m.pages.length)
    (fun k => [(36, .int .i64 k)]) (fun k => [(2, .tok 3 k), (1, .box (.ag [.str m.name, .str m.top, .sl 11 (m.evs.map Ev.av) .no, .sl 2 (m.hs.map Hs.av) .no, gL (turnL m.gates), .sl 3 (((m.pages.take k).map turnP).map Pg.av) (.own 2), .sl 4 (m.grs.map Gr.av) .no, .sl 3 (m.phs.map Ph.av) .no])), (0, .box m.av)]) (fun k => m.pages.length - k) 0 ?_ (fun _ => rfl) ?_ ?_
  · exact Nat.zero_le _
  · refine ⟨?_, .mk ?_ ⟨by simp, by simp, by simp, trivial⟩⟩
    · (repeat' first | exact rfl | exact trivial | exact HWk.refl rfl | exact leRL_refl _ | apply And.intro)
    · (repeat' first | exact rfl | exact trivial | exact HWk.refl rfl | exact leRL_refl _ | apply And.intro)
  intro k hk _
  ((try dsimp only [awp]); (conv => whnf))
  refine And.intro (fun h => ?_) (fun h => ?_)
  · have hkl : k < m.pages.length := by simpa using h
    have hp := hB.pgates _ (List.getElem_mem hkl)
    have ctp := c_turned (m.pages[k]).gates (by omega) (fun g hg => by have := hp.2 g hg; omega)
    have ht : (m.pages.take (k + 1)).map turnP = (m.pages.take k).map turnP ++ [turnP m.pages[k]] := by
      rw [List.take_add_one, List.getElem?_eq_getElem hkl, List.map_append]; rfl
    have hlen : ((m.pages.take k).map turnP).length = k := by simp; omega
    ((try dsimp only [awp]); (conv => whnf))
    refine aidx hkl ?_
    generalize m.pages[k] = x at *
    generalize (m.pages.take k).map turnP = L at *
    ((try dsimp only [awp]); (conv => whnf))
    (refine ADraw.auto (by kernel_rfl) ?_; (conv => whnf))
    refine ACallP.pure _ _ ?_ ⟨rfl, rfl⟩ ctp ?_
    · exact leL_refl _
    ((try dsimp only [awp]); (conv => whnf))
    refine ⟨by rw [List.length_map]; omega, .mk (by simp [maxL]; omega) (by simp; omega) ?_⟩
    ((try dsimp only [awp]); (conv => whnf))
    (refine ⟨inr64 (by omega) (by omega), ?_⟩; (conv => whnf))
    refine ⟨k + 1, ?_, ?_, ?_⟩
    · exact hkl
    · rw [ht]
      refine ⟨?_, .mk ?_ ⟨by simp, by simp, by simp, trivial⟩⟩
      · (repeat' first | exact rfl | exact trivial | exact HWk.refl rfl | exact leRL_refl _ | apply And.intro)
      · (repeat' first | exact rfl | exact trivial | exact HWk.refl rfl | exact leRL_refl _ | apply And.intro)
        all_goals first | (refine leRL_of ?_; rw [List.map_append]; rfl) | (simp; done) | (simp; omega)
    · omega
  have hkl : k = m.pages.length := by have : ¬ k < m.pages.length := by simpa using h
                                      omega
  subst hkl
  rw [List.take_length]
  clear h
  ((try dsimp only [awp]); (conv => whnf))
  refine .pure _ _ ?_ ⟨rfl, rfl⟩ cc2 fun _ => ?_
  · (repeat' first | exact rfl | exact trivial | exact HWk.refl rfl | exact leRL_refl _ | apply And.intro)
  ((try dsimp only [awp]); (conv => whnf))
  refine .pure _ _ ?_ ⟨rfl, rfl⟩ cu fun _ => ?_
  · exact leL_refl _
  ((try dsimp only [awp]); (conv => whnf))
  refine .pure _ _ ?_ ⟨rfl, rfl⟩ cu2 fun _ => ?_
  · (repeat' first | exact rfl | exact trivial | exact HWk.refl rfl | exact leRL_refl _ | apply And.intro)
  ((try dsimp only [awp]); (conv => whnf))
  refine .pure _ _ ?_ ⟨rfl, rfl⟩ cd fun _ => ?_
  · exact leL_refl _
  ((try dsimp only [awp]); (conv => whnf))
  refine .pure _ _ ?_ ⟨rfl, rfl⟩ cd2 fun _ => ?_
  · (repeat' first | exact rfl | exact trivial | exact HWk.refl rfl | exact leRL_refl _ | apply And.intro)
  ((try dsimp only [awp]); (conv => whnf))
  refine And.intro (fun _ => ?_) (fun h => absurd rfl h)
  ((try dsimp only [awp]); (conv => whnf))
  (refine FinSpec.mono ?_; (conv => whnf); refine ⟨?_, rfl⟩; (conv => whnf))
  show _ ↔ _
  simp
end S

open Go Go.AL Go.Proofs
namespace S
set_option maxRecDepth 100000

/-! ### the law of turned models: places and names -/

theorem turnG_name' (x : Mg) : (turnG x).name = x.name := by unfold turnG; split <;> rfl
theorem turnG_kind' (x : Mg) : (turnG x).kind = x.kind := by unfold turnG; split <;> rfl
theorem turnG_mem (x : Mg) (s : Str) : s ∈ (turnG x).ins ↔ s ∈ x.ins := by unfold turnG; split <;> simp
theorem turnG_spare {x : Mg} (h : x.kind = 7 ∨ x.kind = 8) : turnG x = x := if_neg (by omega)
theorem turnL_length (l : List Mg) : (turnL l).length = l.length := by simp [turnL]

theorem turnL_get {l : List Mg} {i : Nat} (h : i < l.length) : (turnL l)[i]'(by rw [turnL_length]; exact h) = turnG (l[l.length - 1 - i]'(by omega)) := by
  simp [turnL]

theorem turn_gates {m : Md} {a : Int} (ha : a = -1 ∨ (0 ≤ a ∧ a < (m.pages.length : Int))) : gatesM (turnM m) a = turnL (gatesM m a) := by
  unfold gatesM
  by_cases h : a = -1
  · rw [if_pos h, if_pos h]; rfl
  · rw [if_neg h, if_neg h]
    have hi : a.toNat < m.pages.length := by omega
    show ((m.pages.map turnP).getD a.toNat default).gates = _
    rw [List.getD_eq_getElem?_getD, List.getElem?_map, List.getD_eq_getElem?_getD, List.getElem?_eq_getElem hi]; rfl

theorem turn_top {m : Md} {a : Int} (ha : 0 ≤ a ∧ a < (m.pages.length : Int)) : pageTop (turnM m) a = pageTop m a := by
  unfold pageTop
  have hi : a.toNat < m.pages.length := by omega
  show ((m.pages.map turnP).getD a.toNat default).top = _
  rw [List.getD_eq_getElem?_getD, List.getElem?_map, List.getD_eq_getElem?_getD, List.getElem?_eq_getElem hi]; rfl

theorem turn_pages (m : Md) : (turnM m).pages.length = m.pages.length := by simp [turnM]

theorem idxP_mapp {α β : Type} {f : α → β} {p : β → Bool} : ∀ l : List α, idxP p (l.map f) = idxP (fun x => p (f x)) l
  | [] => rfl
  | x :: l => by simp only [List.map_cons, idxP]; rw [idxP_mapp l]

theorem turn_page (m : Md) (s : Str) : i_page (turnM m).pages s = i_page m.pages s := by
  unfold i_page
  show idxP _ (m.pages.map turnP) = _
  rw [idxP_mapp]; rfl

/-- A gate is there in the turned list if it was there. -/
theorem turn_has {l : List Mg} {s : Str} : 0 ≤ i_gate (turnL l) s ↔ 0 ≤ i_gate l s := by
  unfold i_gate
  rw [idxP_nonneg, idxP_nonneg, List.any_eq_true, List.any_eq_true]
  constructor
  · rintro ⟨x, hx, h⟩
    unfold turnL at hx
    obtain ⟨y, hy, rfl⟩ := List.mem_map.1 (List.mem_reverse.1 hx)
    exact ⟨y, hy, by rw [turnG_name'] at h; exact h⟩
  · rintro ⟨x, hx, h⟩
    exact ⟨turnG x, List.mem_reverse.2 (List.mem_map.2 ⟨x, hx, rfl⟩), by rw [turnG_name']; exact h⟩

theorem turn_in {m : Md} {a : Int} (ha : a = -1 ∨ (0 ≤ a ∧ a < (m.pages.length : Int))) (s : Str) : isInR (turnM m) a s = isInR m a s := by
  unfold isInR
  rw [turn_page, turn_gates ha]
  have : decide (0 ≤ i_gate (turnL (gatesM m a)) s) = decide (0 ≤ i_gate (gatesM m a) s) := by
    rw [decide_eq_decide]; exact turn_has
  rw [this]; rfl

/-- Where a gate is in the turned list, if names differ. -/
theorem turn_idx {l : List Mg} (hu : ∀ (k : Nat) (h : k < l.length), i_gate l l[k].name = k) {s : Str} (h : 0 ≤ i_gate l s) : i_gate (turnL l) s = (l.length : Int) - 1 - i_gate l s := by
  obtain ⟨i, hi, e, hn⟩ := idx_name (f := Mg.name) (l := l) (s := s) h
  have e : i_gate l s = i := e
  rw [e]
  have hi2 : l.length - 1 - i < (turnL l).length := by rw [turnL_length]; omega
  have hg : ∀ (j : Nat) (hj : j < l.length), (turnL l)[l.length - 1 - j]'(by rw [turnL_length]; omega) = turnG l[j] := by
    intro j hj
    rw [turnL_get (by omega)]
    congr 2
    omega
  have := idxP_some (p := fun (x : Mg) => decide (x.name = s)) (l := turnL l) hi2 (by rw [hg i hi, turnG_name']; simpa using hn) fun j hj => by
    rw [turnL_get (by omega), turnG_name']
    refine decide_eq_false fun he => ?_
    have h1 := hu (l.length - 1 - j) (by omega)
    rw [he, e] at h1
    omega
  unfold i_gate
  rw [this]
  omega

/-- A node, in the turned model. -/
def turnN (m : Md) (x : Node) : Node := if x.1 = 2 then (2, x.2.1, ((gatesM m x.2.1).length : Int) - 1 - x.2.2) else x

theorem turnN_fst (m : Md) (x : Node) : (turnN m x).1 = x.1 := by unfold turnN; split <;> simp_all

theorem turn_gateAt {m : Md} {x : Node} (h : x ∈ allNodes m) : gateAt (turnM m) (turnN m x) = turnG (gateAt m x) := by
  obtain ⟨h1, h2, h3, h4⟩ := mem_all.1 h
  obtain ⟨p, a, i⟩ := x
  dsimp only at h1 h2 h3 h4
  subst h1
  have e : turnN m (2, a, i) = (2, a, ((gatesM m a).length : Int) - 1 - i) := if_pos rfl
  rw [e]
  unfold gateAt
  dsimp only
  rw [turn_gates h2, getD_lt' (by rw [turnL_length]; omega), getD_lt' (show i.toNat < (gatesM m a).length by omega), turnL_get (by omega)]
  congr 2
  omega

theorem turn_resOn {m : Md} {a : Int} (ha : a = -1 ∨ (0 ≤ a ∧ a < (m.pages.length : Int))) (hu : ∀ (k : Nat) (h : k < (gatesM m a).length), i_gate (gatesM m a) (gatesM m a)[k].name = k) {s : Str} (ho : okN m (resOn m a s)) : resOn (turnM m) a s = turnN m (resOn m a s) := by
  unfold resOn at ho ⊢
  by_cases h1 : 0 ≤ i_event m.evs s
  · rw [if_pos h1]
    exact (if_pos (show 0 ≤ i_event (turnM m).evs s from h1))
  rw [if_neg h1] at ho ⊢
  rw [if_neg (show ¬ 0 ≤ i_event (turnM m).evs s from h1)]
  by_cases h2 : 0 ≤ i_house m.hs s
  · rw [if_pos h2]
    exact (if_pos (show 0 ≤ i_house (turnM m).hs s from h2))
  rw [if_neg h2] at ho ⊢
  rw [if_neg (show ¬ 0 ≤ i_house (turnM m).hs s from h2)]
  have h3 : 0 ≤ i_gate (gatesM m a) s := by
    rcases ho with h | h | h
    · exact absurd (show (2 : Int) = 0 from h.1) (by decide)
    · exact absurd (show (2 : Int) = 1 from h.1) (by decide)
    · exact (mem_all.1 h).2.2.1
  rw [turn_gates ha, turn_idx hu h3]
  rfl

theorem turn_res {m : Md} (hM : MOk m) {a : Int} (ha : a = -1 ∨ (0 ≤ a ∧ a < (m.pages.length : Int))) {s : Str} (hs : isInR m a s = true) : resR (turnM m) a s = turnN m (resR m a s) := by
  have hin := hM.inOk ha hs
  have ho := hin.ok
  by_cases e : atS s = true
  · have hp := hin.pg e
    have hpl : i_page m.pages (s.drop 1) < (m.pages.length : Int) := idxP_lt _ _
    have h1 : resR m a s = resOn m (i_page m.pages (s.drop 1)) (pageTop m (i_page m.pages (s.drop 1))) := if_pos e
    have h2 : resR (turnM m) a s = resOn (turnM m) (i_page (turnM m).pages (s.drop 1)) (pageTop (turnM m) (i_page (turnM m).pages (s.drop 1))) := if_pos e
    rw [h2, turn_page, turn_top ⟨hp, hpl⟩]
    rw [h1] at ho ⊢
    exact turn_resOn (.inr ⟨hp, hpl⟩) (fun k h => hM.gate_idx (.inr ⟨hp, hpl⟩) h) ho
  · have h1 : resR m a s = resOn m a s := if_neg e
    have h2 : resR (turnM m) a s = resOn (turnM m) a s := if_neg e
    rw [h2]
    rw [h1] at ho ⊢
    exact turn_resOn ha (fun k h => hM.gate_idx ha h) ho

theorem turn_kids {m : Md} (hM : MOk m) {x : Node} (hx : x ∈ allNodes m) (z : Node) : z ∈ kidsM (turnM m) (turnN m x) ↔ ∃ y ∈ kidsM m x, z = turnN m y := by
  obtain ⟨h1, h2, _, _⟩ := mem_all.1 hx
  have ha : (turnN m x).2.1 = x.2.1 := by unfold turnN; rw [if_pos h1]
  unfold kidsM
  rw [turn_gateAt hx, ha]
  simp only [List.mem_map]
  have hin : ∀ s ∈ (gateAt m x).ins, isInR m x.2.1 s = true := fun s hs => by
    obtain ⟨_, _, h3, h4⟩ := mem_all.1 hx
    exact hM.ins_in h2 (x := gateAt m x) (getD_mem (by omega)) hs
  constructor
  · rintro ⟨s, hs, rfl⟩
    have hs := (turnG_mem _ s).1 hs
    exact ⟨_, ⟨s, hs, rfl⟩, turn_res hM h2 (hin s hs)⟩
  · rintro ⟨y, ⟨s, hs, rfl⟩, rfl⟩
    exact ⟨s, (turnG_mem _ s).2 hs, turn_res hM h2 (hin s hs)⟩
end S

open Go Go.AL Go.Proofs
namespace S
set_option maxRecDepth 100000

theorem cyc_of_rank {m : Md} (hc : ClosedM m) {rank : Node → Nat} (hr : RankM m rank) : cycR m = false := by
  unfold cycR
  have key : ∀ (l : List Node) (s : WS Unit), (∀ y ∈ l, okN m y) → (∀ z, look s.es z ≠ 1) → (kidsF (walk0 m) l s).1 = false := by
    intro l
    induction l with
    | nil => intro s _ _; rfl
    | cons y l ih =>
      intro s hl hs
      obtain ⟨w1, w2⟩ := walk_false (step := fun (_ : Unit) _ => ()) (okN m) (fun x hx h2 => (okN_kids hc hx h2).2) rank hr (fuelM m) y s (hl y (by simp)) (fun _ z hz => absurd hz (hs z))
      simp only [kidsF]
      rw [if_neg (by show ¬ (walkF (kidsM m) (fun _ _ => ()) (fuelM m) y s).1 = true; rw [w1]; simp)]
      exact ih _ (fun z hz => hl z (by simp [hz])) fun z hz => hs z (w2 z hz)
  exact key _ _ (fun y hy => .inr (.inr hy)) fun z => by simp [look]

/-- What can be reached. -/
inductive Reach (m : Md) (r : Node) : Node → Prop
  | root : Reach m r r
  | step {x y : Node} (h : Reach m r x) (h2 : x.1 = 2) (hy : y ∈ kidsM m x) : Reach m r y

theorem Reach.leaf {m : Md} {r x : Node} (h : Reach m r x) (hr : r.1 ≠ 2) : x = r := by
  induction h with
  | root => rfl
  | step h h2 hy ih => rw [ih] at h2; exact absurd h2 hr

theorem Reach.ok {m : Md} {r x : Node} (hc : ClosedM m) (hr : okN m r) (h : Reach m r x) : okN m x := by
  induction h with
  | root => exact hr
  | step h h2 hy ih => exact (okN_kids hc ih h2).2 _ hy

theorem visited_reach {m : Md} (hM : MOk m) (x : Node) : x ∈ visitedM m ↔ Reach m (resR m (-1) m.top) x := by
  have hin := hM.inOk (.inl rfl) hM.top
  constructor
  · have := walk_ok (kids := kidsM m) (step := fun (st : List Node) x => st ++ [x]) (fun x => Reach m (resR m (-1) m.top) x) (fun st => ∀ y ∈ st, Reach m (resR m (-1) m.top) y) (fun x hx h2 y hy => .step hx h2 hy) (fun st x hx h y hy => by
      rcases List.mem_append.1 hy with hy | hy
      · exact h y hy
      · obtain rfl : y = x := by simpa using hy
        exact hx) (fuelM m) (resR m (-1) m.top) ⟨[], []⟩ .root (by simp)
    exact this x
  · intro h
    have haf := met_all hM.closed hM.cyc hin.ok
    have key : (x.1 = 2 → look (walkF (kidsM m) (fun st x => st ++ [x]) (fuelM m) (resR m (-1) m.top) ⟨[], []⟩).2.es x = 2) ∧ x ∈ (walkF (kidsM m) (fun st x => st ++ [x]) (fuelM m) (resR m (-1) m.top) ⟨[], []⟩).2.st := by
      induction h with
      | root =>
        refine ⟨haf.done, ?_⟩
        by_cases e : (resR m (-1) m.top).1 = 2
        · exact (haf.inv.met _ (haf.done e)).1
        · exact haf.leaf e
      | step h h2 hy ih =>
        obtain ⟨rank, hr⟩ := haf.inv.rank
        have hd := ih.1 h2
        refine ⟨fun e => (hr _ hd _ hy e).1, ?_⟩
        rename_i a b
        by_cases e : b.1 = 2
        · exact (haf.inv.met _ (hr _ hd _ hy e).1).1
        · exact (haf.inv.met _ hd).2 _ hy e
    exact key.2

theorem turnN_inv {m : Md} (x : Node) : turnN m (turnN m x) = x := by
  unfold turnN
  by_cases h : x.1 = 2
  · rw [if_pos h]
    dsimp only
    rw [if_pos rfl]
    obtain ⟨p, a, i⟩ := x
    dsimp only at h ⊢
    subst h
    congr 2
    omega
  · rw [if_neg h, if_neg h]

theorem turnN_back {m : Md} {z : Node} (h : z ∈ allNodes (turnM m)) : turnN m z ∈ allNodes m := by
  obtain ⟨h1, h2, h3, h4⟩ := mem_all.1 h
  rw [turn_pages] at h2
  rw [turn_gates h2, turnL_length] at h4
  unfold turnN
  rw [if_pos h1]
  refine mem_all.2 ⟨rfl, h2, ?_, ?_⟩
  · show 0 ≤ ((gatesM m z.2.1).length : Int) - 1 - z.2.2
    omega
  · show ((gatesM m z.2.1).length : Int) - 1 - z.2.2 < ((gatesM m z.2.1).length : Int)
    omega

theorem ok_gate {m : Md} {x : Node} (h : okN m x) (h2 : x.1 = 2) : x ∈ allNodes m := by
  rcases h with h | h | h
  · omega
  · omega
  · exact h

theorem turn_rank {m : Md} (hM : MOk m) {rank : Node → Nat} (hr : RankM m rank) : RankM (turnM m) fun z => rank (turnN m z) := by
  intro z hz h2 w hw hw2
  have hx := turnN_back (ok_gate hz h2)
  have e : turnN m (turnN m z) = z := turnN_inv z
  rw [← e] at hw
  obtain ⟨y, hy, rfl⟩ := (turn_kids hM hx w).1 hw
  dsimp only
  rw [turnN_inv]
  rw [turnN_fst] at hw2
  exact hr _ (.inr (.inr hx)) (mem_all.1 hx).1 y hy hw2

theorem turn_reach {m : Md} (hM : MOk m) {r : Node} (hr : okN m r) (z : Node) : Reach (turnM m) (turnN m r) z ↔ ∃ x, z = turnN m x ∧ Reach m r x := by
  constructor
  · intro h
    induction h with
    | root => exact ⟨r, rfl, .root⟩
    | step h h2 hy ih =>
      obtain ⟨x, rfl, hx⟩ := ih
      rw [turnN_fst] at h2
      obtain ⟨y, hy', rfl⟩ := (turn_kids hM (ok_gate (hx.ok hM.closed hr) h2) _).1 hy
      exact ⟨y, rfl, .step hx h2 hy'⟩
  · rintro ⟨x, rfl, h⟩
    induction h with
    | root => exact .root
    | step h h2 hy ih =>
      rename_i a b
      exact .step ih (by rw [turnN_fst]; exact h2) ((turn_kids hM (ok_gate (h.ok hM.closed hr) h2) _).2 ⟨b, hy, rfl⟩)

theorem turn_used {m : Md} (hM : MOk m) (hM2 : MOk (turnM m)) : usedR (turnM m) = usedR m ∧ dynR (turnM m) = dynR m := by
  have hin := hM.inOk (.inl rfl) hM.top
  have e : resR (turnM m) (-1) (turnM m).top = turnN m (resR m (-1) m.top) := turn_res hM (.inl rfl) hM.top
  have hv : ∀ z, z ∈ visitedM (turnM m) ↔ ∃ x, z = turnN m x ∧ x ∈ visitedM m := by
    intro z
    rw [visited_reach hM2, e, turn_reach hM hin.ok]
    simp only [visited_reach hM]
  constructor
  · refine Nat.eq_of_testBit_eq fun i => Bool.eq_iff_iff.2 ?_
    unfold usedR
    rw [bitsV_bit, bitsV_bit]
    constructor
    · rintro ⟨z, hz, h0, h1, h2⟩
      obtain ⟨x, rfl, hx⟩ := (hv z).1 hz
      rw [turnN_fst] at h0
      rw [show turnN m x = x from if_neg (by omega)] at h1 h2
      exact ⟨x, hx, h0, h1, h2⟩
    · rintro ⟨x, hx, h0, h1, h2⟩
      refine ⟨turnN m x, (hv _).2 ⟨x, rfl, hx⟩, ?_⟩
      rw [show turnN m x = x from if_neg (by omega)]
      exact ⟨h0, h1, h2⟩
  · refine Bool.eq_iff_iff.2 ?_
    unfold dynR dynV
    rw [List.any_eq_true, List.any_eq_true]
    simp only [Bool.and_eq_true, decide_eq_true_eq]
    constructor
    · rintro ⟨z, hz, h0, h1⟩
      obtain ⟨x, rfl, hx⟩ := (hv z).1 hz
      rw [turnN_fst] at h0
      rw [turn_gateAt (ok_gate (visited_ok hM x hx) h0), turnG_kind'] at h1
      exact ⟨x, hx, h0, h1⟩
    · rintro ⟨x, hx, h0, h1⟩
      refine ⟨turnN m x, (hv _).2 ⟨x, rfl, hx⟩, by rw [turnN_fst]; exact h0, ?_⟩
      rw [turn_gateAt (ok_gate (visited_ok hM x hx) h0), turnG_kind']
      exact h1
end S

open Go Go.AL Go.Proofs
namespace S
set_option maxRecDepth 100000

/-- The inputs of spare gates. -/
def spG (g : Mg) : List Str := if g.kind = 7 then g.ins else []
def insP (m : Md) (a : Int) (g : Mg) (k : Nat) (l : List Str) : Prop := ∀ (j : Nat) (h : j < l.length), isInR m a l[j] = true ∧ (mustEv g (k + j : Nat) = true → 0 ≤ i_event m.evs l[j])
def gateP (m : Md) (a : Int) (g : Mg) : Prop := insP m a g 0 g.ins
def topP (m : Md) (a : Int) : Prop := a ≠ -1 → 0 ≤ i_gate (gatesM m a) (pageTop m a) ∨ 0 ≤ i_event m.evs (pageTop m a)

theorem insP_cons {m : Md} {a : Int} {g : Mg} {k : Nat} {s : Str} {l : List Str} : insP m a g k (s :: l) ↔ (isInR m a s = true ∧ (mustEv g k = true → 0 ≤ i_event m.evs s)) ∧ insP m a g (k + 1) l := by
  constructor
  · intro h
    refine ⟨h 0 (by simp), fun j hj => ?_⟩
    have := h (j + 1) (by simpa using hj)
    rw [show k + 1 + j = k + (j + 1) by omega]
    exact this
  · rintro ⟨h1, h2⟩ j hj
    cases j with
    | zero => exact h1
    | succ j =>
      have := h2 j (by simpa using hj)
      rw [show k + (j + 1) = k + 1 + j by omega]
      exact this

theorem insErr_iff {m : Md} {a : Int} {g : Mg} : ∀ (l : List Str) (k : Nat) (sp : List Str), sp.Nodup →
    ((insErr m a g k l sp).1 = 0 ↔ (insP m a g k l ∧ (sp ++ (if g.kind = 7 then l else [])).Nodup)) ∧ ((insErr m a g k l sp).1 = 0 → (insErr m a g k l sp).2 = sp ++ (if g.kind = 7 then l else []))
  | [], k, sp, hs => by
    have h0 : (sp ++ (if g.kind = 7 then ([] : List Str) else [])) = sp := by split <;> simp
    simp only [insErr]
    rw [h0]
    refine ⟨⟨fun _ => ⟨fun j h => absurd h (by simp), hs⟩, fun _ => ?_⟩, fun _ => ?_⟩ <;> first | rfl | trivial
  | s :: l, k, sp, hs => by
    simp only [insErr]
    rw [insP_cons]
    by_cases h1 : isInR m a s = false
    · rw [if_pos h1]
      refine ⟨⟨fun h => (by cases h), fun h => ?_⟩, fun h => (by cases h)⟩
      have := h.1.1.1; rw [h1] at this; cases this
    rw [if_neg h1]
    have h1' : isInR m a s = true := by simpa using h1
    by_cases h2 : mustEv g k = true ∧ i_event m.evs s < 0
    · rw [if_pos h2]
      refine ⟨⟨fun h => (by cases h), fun h => ?_⟩, fun h => (by cases h)⟩
      have := h.1.1.2 h2.1; omega
    rw [if_neg h2]
    have h2' : mustEv g k = true → 0 ≤ i_event m.evs s := fun h => by
      rcases Int.lt_or_le (i_event m.evs s) 0 with h3 | h3
      · exact absurd ⟨h, h3⟩ h2
      · exact h3
    by_cases h7 : g.kind = 7
    · rw [if_pos h7, if_pos h7]
      by_cases h3 : (sp.any fun y => decide (s = y)) = true
      · rw [if_pos h3]
        refine ⟨⟨fun h => (by cases h), fun h => ?_⟩, fun h => (by cases h)⟩
        obtain ⟨y, hy, e⟩ := List.any_eq_true.1 h3
        have e : s = y := of_decide_eq_true e
        exact absurd e.symm ((List.nodup_append.1 h.2).2.2 y hy s (by simp))
      rw [if_neg h3]
      have hns : ∀ y ∈ sp, y ≠ s := fun y hy e => h3 (List.any_eq_true.2 ⟨y, hy, decide_eq_true e.symm⟩)
      have hs2 : (sp ++ [s]).Nodup := by
        rw [List.nodup_append]
        refine ⟨hs, by simp, fun y hy z hz => ?_⟩
        obtain rfl : z = s := by simpa using hz
        exact hns y hy
      obtain ⟨i1, i2⟩ := insErr_iff (m := m) (a := a) (g := g) l (k + 1) (sp ++ [s]) hs2
      rw [if_pos h7] at i1 i2
      rw [List.append_assoc, List.singleton_append] at i1 i2
      exact ⟨i1.trans ⟨fun h => ⟨⟨⟨h1', h2'⟩, h.1⟩, h.2⟩, fun h => ⟨h.1.2, h.2⟩⟩, i2⟩
    · rw [if_neg h7, if_neg h7]
      obtain ⟨i1, i2⟩ := insErr_iff (m := m) (a := a) (g := g) l (k + 1) sp hs
      rw [if_neg h7] at i1 i2
      exact ⟨i1.trans ⟨fun h => ⟨⟨⟨h1', h2'⟩, h.1⟩, h.2⟩, fun h => ⟨h.1.2, h.2⟩⟩, i2⟩

theorem gatesIns_iff {m : Md} {a : Int} : ∀ (l : List Mg) (sp : List Str), sp.Nodup →
    ((gatesIns m a l sp).1 = 0 ↔ ((∀ g ∈ l, gateP m a g) ∧ (sp ++ l.flatMap spG).Nodup)) ∧ ((gatesIns m a l sp).1 = 0 → (gatesIns m a l sp).2 = sp ++ l.flatMap spG)
  | [], sp, hs => by simp [gatesIns, hs]
  | g :: l, sp, hs => by
    obtain ⟨i1, i2⟩ := insErr_iff (m := m) (a := a) (g := g) g.ins 0 sp hs
    have hsp : (if g.kind = 7 then g.ins else []) = spG g := rfl
    rw [hsp] at i1 i2
    simp only [gatesIns, List.flatMap_cons]
    by_cases h : (insErr m a g 0 g.ins sp).1 = 0
    · rw [if_neg (by simpa using h)]
      obtain ⟨p1, p2⟩ := i1.1 h
      rw [i2 h]
      obtain ⟨j1, j2⟩ := gatesIns_iff (m := m) (a := a) l (sp ++ spG g) p2
      rw [List.append_assoc] at j1 j2
      refine ⟨j1.trans ⟨fun q => ⟨fun x hx => ?_, q.2⟩, fun q => ⟨fun x hx => q.1 x (by simp [hx]), q.2⟩⟩, j2⟩
      rcases List.mem_cons.1 hx with rfl | hx
      · exact p1
      · exact q.1 x hx
    · rw [if_pos h]
      refine ⟨⟨fun e => absurd e h, fun q => absurd (i1.2 ⟨q.1 g (by simp), ?_⟩) h⟩, fun e => absurd e h⟩
      have := q.2
      rw [← List.append_assoc] at this
      exact (List.nodup_append.1 this).1

theorem pageIns_iff {m : Md} {a : Int} (sp : List Str) (hs : sp.Nodup) :
    ((pageIns m a sp).1 = 0 ↔ ((∀ g ∈ gatesM m a, gateP m a g) ∧ topP m a ∧ (sp ++ (gatesM m a).flatMap spG).Nodup)) ∧ ((pageIns m a sp).1 = 0 → (pageIns m a sp).2 = sp ++ (gatesM m a).flatMap spG) := by
  obtain ⟨i1, i2⟩ := gatesIns_iff (m := m) (a := a) (gatesM m a) sp hs
  unfold pageIns
  by_cases h : (gatesIns m a (gatesM m a) sp).1 = 0
  · rw [if_neg (by simpa using h)]
    obtain ⟨p1, p2⟩ := i1.1 h
    by_cases h2 : a ≠ -1 ∧ i_gate (gatesM m a) (pageTop m a) < 0 ∧ i_event m.evs (pageTop m a) < 0
    · rw [if_pos h2]
      refine ⟨⟨fun e => (by cases e), fun q => ?_⟩, fun e => (by cases e)⟩
      have := q.2.1 h2.1
      omega
    · rw [if_neg h2]
      refine ⟨⟨fun _ => ⟨p1, fun ha => ?_, p2⟩, fun _ => h⟩, fun _ => i2 h⟩
      rcases Int.lt_or_le (i_gate (gatesM m a) (pageTop m a)) 0 with h3 | h3
      · rcases Int.lt_or_le (i_event m.evs (pageTop m a)) 0 with h4 | h4
        · exact absurd ⟨ha, h3, h4⟩ h2
        · exact .inr h4
      · exact .inl h3
  · rw [if_pos h]
    exact ⟨⟨fun e => absurd e h, fun q => absurd (i1.2 ⟨q.1, q.2.2⟩) h⟩, fun e => absurd e h⟩

theorem insAll_iff {m : Md} : ∀ (L : List Int) (sp : List Str), sp.Nodup →
    (insAll m L sp = 0 ↔ ((∀ a ∈ L, (∀ g ∈ gatesM m a, gateP m a g) ∧ topP m a) ∧ (sp ++ L.flatMap fun a => (gatesM m a).flatMap spG).Nodup))
  | [], sp, hs => by simp [insAll, hs]
  | a :: L, sp, hs => by
    obtain ⟨i1, i2⟩ := pageIns_iff (m := m) (a := a) sp hs
    simp only [insAll, List.flatMap_cons]
    by_cases h : (pageIns m a sp).1 = 0
    · rw [if_neg (by simpa using h)]
      obtain ⟨p1, p2, p3⟩ := i1.1 h
      rw [i2 h, insAll_iff L _ p3, List.append_assoc]
      refine ⟨fun q => ⟨fun b hb => ?_, q.2⟩, fun q => ⟨fun b hb => q.1 b (by simp [hb]), q.2⟩⟩
      rcases List.mem_cons.1 hb with rfl | hb
      · exact ⟨p1, p2⟩
      · exact q.1 b hb
    · rw [if_pos h]
      refine ⟨fun e => absurd e h, fun q => absurd (i1.2 ⟨(q.1 a (by simp)).1, (q.1 a (by simp)).2, ?_⟩) h⟩
      have := q.2
      rw [← List.append_assoc] at this
      exact (List.nodup_append.1 this).1
end S

open Go Go.AL Go.Proofs
namespace S
set_option maxRecDepth 100000

theorem spG_turn (g : Mg) : spG (turnG g) = spG g := by
  unfold spG
  rw [turnG_kind']
  by_cases h : g.kind = 7
  · rw [if_pos h, if_pos h, turnG_spare (.inl h)]
  · rw [if_neg h, if_neg h]

theorem sp_perm (l : List Mg) : ((turnL l).flatMap spG).Perm (l.flatMap spG) := by
  have h1 : (turnL l).Perm (l.map turnG) := List.reverse_perm _
  have h2 : (l.map turnG).flatMap spG = l.flatMap spG := by
    rw [List.flatMap_map]
    congr 1
    funext g
    exact spG_turn g
  rw [← h2]
  exact h1.flatMap_right spG

theorem perm_flat {α : Type} {f g : Int → List α} : ∀ (L : List Int), (∀ a ∈ L, (f a).Perm (g a)) → (L.flatMap f).Perm (L.flatMap g)
  | [], _ => .refl _
  | a :: L, h => by
    simp only [List.flatMap_cons]
    exact (h a (by simp)).append (perm_flat L fun b hb => h b (by simp [hb]))

theorem must_plain {g : Mg} (h : g.kind = 0 ∨ g.kind = 1) (k : Int) : mustEv g k = false := by
  unfold mustEv
  rw [decide_eq_false (by omega), decide_eq_false (show ¬ g.kind = 8 by omega)]; rfl

theorem gateP_turn {m : Md} {a : Int} (ha : a = -1 ∨ (0 ≤ a ∧ a < (m.pages.length : Int))) {g : Mg} (h : gateP m a g) : gateP (turnM m) a (turnG g) := by
  by_cases hk : g.kind = 0 ∨ g.kind = 1
  · intro j hj
    have hm : (turnG g).ins[j] ∈ g.ins := (turnG_mem g _).1 (List.getElem_mem hj)
    obtain ⟨i, hi, e⟩ := List.getElem_of_mem hm
    refine ⟨?_, fun hmu => ?_⟩
    · rw [turn_in ha, ← e]; exact (h i hi).1
    · rw [must_plain (by rw [turnG_kind']; exact hk)] at hmu; cases hmu
  · rw [show turnG g = g from if_neg hk]
    intro j hj
    refine ⟨?_, (h j hj).2⟩
    rw [turn_in ha]; exact (h j hj).1

theorem turn_ins {m : Md} (h : insAll m (atsM m) [] = 0) : insAll (turnM m) (atsM (turnM m)) [] = 0 := by
  have e : atsM (turnM m) = atsM m := by unfold atsM; rw [turn_pages]
  rw [e]
  obtain ⟨h1, h2⟩ := (insAll_iff (atsM m) [] List.nodup_nil).1 h
  refine (insAll_iff (atsM m) [] List.nodup_nil).2 ⟨fun a ha => ?_, ?_⟩
  · have ha2 := ats_mem.1 ha
    obtain ⟨q1, q2⟩ := h1 a ha
    refine ⟨fun g hg => ?_, fun hne => ?_⟩
    · rw [turn_gates ha2] at hg
      obtain ⟨y, hy, rfl⟩ := turnG_in hg
      exact gateP_turn ha2 (q1 y hy)
    · have := q2 hne
      rw [turn_gates ha2, turn_top (by omega)]
      rcases this with h3 | h3
      · exact .inl (turn_has.2 h3)
      · exact .inr h3
  · rw [List.nil_append] at h2 ⊢
    refine ((perm_flat (atsM m) fun a ha => ?_).nodup_iff).2 h2
    rw [turn_gates (ats_mem.1 ha)]
    exact sp_perm _

theorem turn_total (m : Md) : totalM (turnM m) = totalM m := by
  have key : ∀ (l : List Pg) (n : Nat), (l.map turnP).foldl (fun n x => n + x.gates.length) n = l.foldl (fun n x => n + x.gates.length) n := by
    intro l
    induction l with
    | nil => intro n; rfl
    | cons p l ih =>
      intro n
      simp only [List.map_cons, List.foldl_cons]
      rw [show (turnP p).gates.length = p.gates.length from turnL_length _]
      exact ih _
  unfold totalM
  show (m.pages.map turnP).foldl _ (turnL m.gates).length = _
  rw [turnL_length, key]

theorem turn_pgs {m : Md} (h : pagesErr m = 0) : pagesErr (turnM m) = 0 := by
  unfold pagesErr at h ⊢
  rw [turn_pages, turn_total]
  split at h
  · cases h
  split at h
  · cases h
  rename_i h1 h2
  rw [if_neg h1, if_neg h2]
  refine errL_zero.2 fun k hk => ?_
  have hk' : k < m.pages.length := by rw [turn_pages] at hk; exact hk
  have := errL_zero.1 h k hk'
  have e : (turnM m).pages[k] = turnP m.pages[k] := by simp [turnM]
  rw [e]
  unfold pgErr at this ⊢
  rw [turn_page]
  exact this

theorem turn_gts {m : Md} (hM : MOk m) : gatesErrAll (turnM m) = 0 := by
  have e : atsM (turnM m) = atsM m := by unfold atsM; rw [turn_pages]
  unfold gatesErrAll
  rw [e]
  refine errL_zero.2 fun j hj => errL_zero.2 fun k hk => ?_
  have ha := ats_mem.1 (List.getElem_mem hj)
  generalize (atsM m)[j] = a at *
  have hg := turn_gates ha
  have hkl : k < (gatesM m a).length := by rw [hg, turnL_length] at hk; exact hk
  have hx : (gatesM (turnM m) a)[k] = turnG ((gatesM m a)[(gatesM m a).length - 1 - k]'(by omega)) := by
    have := turnL_get hkl
    simp only [hg]
    exact this
  rw [hx, Nat.zero_add]
  have ho := hM.gate ha (k := (gatesM m a).length - 1 - k) (by omega)
  have hi := hM.gate_idx ha (k := (gatesM m a).length - 1 - k) (by omega)
  generalize (gatesM m a)[(gatesM m a).length - 1 - k]'(by omega) = x at *
  have hti := turn_idx (l := gatesM m a) (fun k h => hM.gate_idx ha h) (s := x.name) (by omega)
  have hm : mgErr (turnG x) = 0 := by
    have := ho.own
    unfold mgErr at this ⊢
    rw [turnG_kind', turnG_ins, turnG_k, turnG_dorm]
    exact this
  have n1 := ho.noEv
  have n2 := ho.noHs
  unfold gateErrM
  rw [turnG_name', hg, hm, if_neg (by rw [ho.name]; simp), if_neg (show ¬ 0 ≤ i_event (turnM m).evs x.name from by show ¬ 0 ≤ i_event m.evs x.name; omega), if_neg (show ¬ 0 ≤ i_house (turnM m).hs x.name from by show ¬ 0 ≤ i_house m.hs x.name; omega), if_neg (by rw [hti, hi]; omega)]

theorem turn_phs {m : Md} (h : phasesErr m = 0) : phasesErr (turnM m) = 0 := by
  have e : phErr (turnM m) = phErr m := by
    funext i x
    unfold phErr
    rw [turn_in (.inl rfl)]
    rfl
  unfold phasesErr at h ⊢
  rw [e]
  exact h

theorem turn_mem {m : Md} : ∀ (l sp : List Str), memErr (turnM m) l sp = memErr m l sp
  | [], _ => rfl
  | s :: l, sp => by
    simp only [memErr]
    rw [turn_mem l]
    rfl

theorem turn_gr {m : Md} (i : Nat) (x : Gr) (sp : List Str) : grErr (turnM m) i x sp = grErr m i x sp := by
  unfold grErr
  rw [turn_mem]
  rfl

theorem turn_grsL {m : Md} : ∀ (l : List Gr) (i : Nat) (sp : List Str), grsErr (turnM m) i l sp = grsErr m i l sp
  | [], _, _ => rfl
  | x :: l, i, sp => by
    simp only [grsErr]
    rw [turn_gr, turn_grsL l]

theorem turn_grs {m : Md} (h : groupsErr m = 0) : groupsErr (turnM m) = 0 := by
  unfold groupsErr at h ⊢
  rw [turn_grsL]
  exact h

theorem turn_law (m : Md) (hM : MOk m) : MOk (turnM m) ∧ usedR (turnM m) = usedR m ∧ dynR (turnM m) = dynR m := by
  have g1 : eventsErr (turnM m) = 0 := hM.evs
  have g2 := turn_gts hM
  have g3 := turn_ins hM.ins
  obtain ⟨rank, hr⟩ := cyc_rank hM.closed hM.cyc
  have hM2 : MOk (turnM m) := ⟨hM.name, g1, turn_pgs hM.pages, g2, g3, by rw [turn_in (.inl rfl)]; exact hM.top, turn_grs hM.grs, turn_phs hM.phs, cyc_of_rank (closed_of g1 g2 g3) (turn_rank hM hr)⟩
  exact ⟨hM2, turn_used hM hM2⟩
end S

open Go Go.AL Go.Proofs
namespace S

/-! ### arguments, by their shapes -/

theorem list_of {α : Type} {f : α → AV} : ∀ {l : List AV}, (∀ x ∈ l, ∃ y, x = f y) → ∃ m : List α, l = m.map f
  | [], _ => ⟨[], rfl⟩
  | x :: l, h => by
    obtain ⟨y, rfl⟩ := h x (by simp)
    obtain ⟨m, rfl⟩ := list_of (l := l) fun z hz => h z (by simp [hz])
    exact ⟨y :: m, rfl⟩

theorem ints_of {sz : Nat} {k : IntKind} {A : AV} (h : (Sh.sl sz (.int k)).In A) : ∃ l : List Int, A = .sl sz (l.map (.int k)) .no := by
  simp only [Sh.In] at h
  obtain ⟨l, rfl, hl⟩ := h
  obtain ⟨m, rfl⟩ := list_of hl
  exact ⟨m, rfl⟩

abbrev shRat : Sh := .st [.bool, .sl 1 (.int .u32), .sl 1 (.int .u32)]
abbrev shGate : Sh := .st [.int .i64, .int .i64, .sl 1 (.int .i64), shRat]
abbrev shDyn : Sh := .st [.int .i64, .sl 6 shGate, .int .i64, .sl 3 shRat, .sl 3 shRat]
abbrev shSt : Sh := .st [.int .i64, .sl 1 (.int .i64)]

theorem Rat.of {A : AV} (h : shRat.In A) : ∃ r : Rat, A = r.av := by
  simp only [Sh.In, InL] at h
  obtain ⟨_, rfl, _, _, rfl, ⟨b, rfl⟩, _, _, rfl, h1, _, _, rfl, h2, rfl⟩ := h
  obtain ⟨n, rfl⟩ := ints_of (sz := 1) (k := .u32) (by simp only [Sh.In]; exact h1)
  obtain ⟨d, rfl⟩ := ints_of (sz := 1) (k := .u32) (by simp only [Sh.In]; exact h2)
  exact ⟨⟨b, n, d⟩, rfl⟩

theorem rats_of {A : AV} (h : (Sh.sl 3 shRat).In A) : ∃ l : List Rat, A = .sl 3 (l.map Rat.av) .no := by
  unfold Sh.In at h
  obtain ⟨l, rfl, hl⟩ := h
  obtain ⟨m, rfl⟩ := list_of fun x hx => Rat.of (hl x hx)
  exact ⟨m, rfl⟩

theorem Gate.of {A : AV} (h : shGate.In A) : ∃ g : Gate, A = g.av := by
  unfold Sh.In at h
  simp only [InL] at h
  obtain ⟨_, rfl, _, _, rfl, h0, _, _, rfl, h1, _, _, rfl, h2, _, _, rfl, h3, rfl⟩ := h
  obtain ⟨a, rfl⟩ := h0
  obtain ⟨b, rfl⟩ := h1
  obtain ⟨c, rfl⟩ := ints_of h2
  obtain ⟨r, rfl⟩ := Rat.of h3
  exact ⟨⟨a, b, c, r⟩, rfl⟩

theorem Dyn.of {A : AV} (h : shDyn.In A) : ∃ d : Dyn, A = d.av := by
  unfold Sh.In at h
  simp only [InL] at h
  obtain ⟨_, rfl, _, _, rfl, h0, _, _, rfl, h1, _, _, rfl, h2, _, _, rfl, h3, _, _, rfl, h4, rfl⟩ := h
  obtain ⟨a, rfl⟩ := h0
  obtain ⟨c, rfl⟩ := h2
  obtain ⟨f, rfl⟩ := rats_of h3
  obtain ⟨g, rfl⟩ := rats_of h4
  unfold Sh.In at h1
  obtain ⟨l, rfl, hl⟩ := h1
  obtain ⟨m, rfl⟩ := list_of fun x hx => Gate.of (hl x hx)
  exact ⟨⟨a, m, c, f, g⟩, rfl⟩

theorem St.of {A : AV} (h : shSt.In A) : ∃ s : St, A = s.av := by
  unfold Sh.In at h
  simp only [InL] at h
  obtain ⟨_, rfl, _, _, rfl, h0, _, _, rfl, h1, rfl⟩ := h
  obtain ⟨a, rfl⟩ := h0
  obtain ⟨c, rfl⟩ := ints_of h1
  exact ⟨⟨a, c⟩, rfl⟩

theorem int_of {k : IntKind} {A : AV} (h : (Sh.int k).In A) : ∃ n : Int, A = .int k n := by
  simpa only [Sh.In] using h

theorem str_of {A : AV} (h : Sh.str.In A) : ∃ s : List UInt8, A = .str s := by
  simpa only [Sh.In] using h
end S

open Go Go.AL Go.Proofs
namespace S
set_option maxRecDepth 100000

/-! ### models, by their shapes -/

theorem sl_of {α : Type} {f : α → AV} {sh : Sh} {sz : Nat} {A : AV} (hf : ∀ x, sh.In x → ∃ y, x = f y) (h : (Sh.sl sz sh).In A) : ∃ l : List α, A = .sl sz (l.map f) .no := by
  unfold Sh.In at h
  obtain ⟨l, rfl, hl⟩ := h
  obtain ⟨m, rfl⟩ := list_of fun x hx => hf x (hl x hx)
  exact ⟨m, rfl⟩

abbrev shEv : Sh := .st [.str, shRat, shRat, shRat, .int .i64]
abbrev shHs : Sh := .st [.str, .bool]
abbrev shMg : Sh := .st [.str, .int .i64, .int .i64, .sl 1 .str, shRat]
abbrev shPg : Sh := .st [.str, .str, .sl 7 shMg]
abbrev shGr : Sh := .st [.str, .int .i64, .sl 1 .str, .sl 3 shRat]
abbrev shPv : Sh := .st [.str, shRat]
abbrev shPh : Sh := .st [.str, .str, .sl 4 shPv]
abbrev shMd : Sh := .st [.str, .str, .sl 11 shEv, .sl 2 shHs, .sl 7 shMg, .sl 3 shPg, .sl 4 shGr, .sl 3 shPh]

theorem strs_of {A : AV} (h : (Sh.sl 1 .str).In A) : ∃ l : List Str, A = sL l := sl_of (f := AV.str) (fun _ hx => str_of hx) h

theorem Ev.of {A : AV} (h : shEv.In A) : ∃ x : Ev, A = x.av := by
  unfold Sh.In at h
  simp only [InL] at h
  obtain ⟨_, rfl, _, _, rfl, h0, _, _, rfl, h1, _, _, rfl, h2, _, _, rfl, h3, _, _, rfl, h4, rfl⟩ := h
  obtain ⟨a, rfl⟩ := str_of h0
  obtain ⟨b, rfl⟩ := Rat.of h1
  obtain ⟨c, rfl⟩ := Rat.of h2
  obtain ⟨d, rfl⟩ := Rat.of h3
  obtain ⟨e, rfl⟩ := int_of h4
  exact ⟨⟨a, b, c, d, e⟩, rfl⟩

theorem Hs.of {A : AV} (h : shHs.In A) : ∃ x : Hs, A = x.av := by
  unfold Sh.In at h
  simp only [InL] at h
  obtain ⟨_, rfl, _, _, rfl, h0, _, _, rfl, h1, rfl⟩ := h
  obtain ⟨a, rfl⟩ := str_of h0
  simp only [Sh.In] at h1
  obtain ⟨b, rfl⟩ := h1
  exact ⟨⟨a, b⟩, rfl⟩

theorem Mg.of {A : AV} (h : shMg.In A) : ∃ x : Mg, A = x.av := by
  unfold Sh.In at h
  simp only [InL] at h
  obtain ⟨_, rfl, _, _, rfl, h0, _, _, rfl, h1, _, _, rfl, h2, _, _, rfl, h3, _, _, rfl, h4, rfl⟩ := h
  obtain ⟨a, rfl⟩ := str_of h0
  obtain ⟨b, rfl⟩ := int_of h1
  obtain ⟨c, rfl⟩ := int_of h2
  obtain ⟨d, rfl⟩ := strs_of h3
  obtain ⟨e, rfl⟩ := Rat.of h4
  exact ⟨⟨a, b, c, d, e⟩, rfl⟩

theorem Pg.of {A : AV} (h : shPg.In A) : ∃ x : Pg, A = x.av := by
  unfold Sh.In at h
  simp only [InL] at h
  obtain ⟨_, rfl, _, _, rfl, h0, _, _, rfl, h1, _, _, rfl, h2, rfl⟩ := h
  obtain ⟨a, rfl⟩ := str_of h0
  obtain ⟨b, rfl⟩ := str_of h1
  obtain ⟨c, rfl⟩ := sl_of (f := Mg.av) (fun _ hx => Mg.of hx) h2
  exact ⟨⟨a, b, c⟩, rfl⟩

theorem Gr.of {A : AV} (h : shGr.In A) : ∃ x : Gr, A = x.av := by
  unfold Sh.In at h
  simp only [InL] at h
  obtain ⟨_, rfl, _, _, rfl, h0, _, _, rfl, h1, _, _, rfl, h2, _, _, rfl, h3, rfl⟩ := h
  obtain ⟨a, rfl⟩ := str_of h0
  obtain ⟨b, rfl⟩ := int_of h1
  obtain ⟨c, rfl⟩ := strs_of h2
  obtain ⟨d, rfl⟩ := rats_of h3
  exact ⟨⟨a, b, c, d⟩, rfl⟩

theorem Pv.of {A : AV} (h : shPv.In A) : ∃ x : Pv, A = x.av := by
  unfold Sh.In at h
  simp only [InL] at h
  obtain ⟨_, rfl, _, _, rfl, h0, _, _, rfl, h1, rfl⟩ := h
  obtain ⟨a, rfl⟩ := str_of h0
  obtain ⟨b, rfl⟩ := Rat.of h1
  exact ⟨⟨a, b⟩, rfl⟩

theorem Ph.of {A : AV} (h : shPh.In A) : ∃ x : Ph, A = x.av := by
  unfold Sh.In at h
  simp only [InL] at h
  obtain ⟨_, rfl, _, _, rfl, h0, _, _, rfl, h1, _, _, rfl, h2, rfl⟩ := h
  obtain ⟨a, rfl⟩ := str_of h0
  obtain ⟨b, rfl⟩ := str_of h1
  obtain ⟨c, rfl⟩ := sl_of (f := Pv.av) (fun _ hx => Pv.of hx) h2
  exact ⟨⟨a, b, c⟩, rfl⟩

theorem Md.of {A : AV} (h : shMd.In A) : ∃ x : Md, A = x.av := by
  unfold Sh.In at h
  simp only [InL] at h
  obtain ⟨_, rfl, _, _, rfl, h0, _, _, rfl, h1, _, _, rfl, h2, _, _, rfl, h3, _, _, rfl, h4, _, _, rfl, h5, _, _, rfl, h6, _, _, rfl, h7, rfl⟩ := h
  obtain ⟨a, rfl⟩ := str_of h0
  obtain ⟨b, rfl⟩ := str_of h1
  obtain ⟨c, rfl⟩ := sl_of (f := Ev.av) (fun _ hx => Ev.of hx) h2
  obtain ⟨d, rfl⟩ := sl_of (f := Hs.av) (fun _ hx => Hs.of hx) h3
  obtain ⟨e, rfl⟩ := sl_of (f := Mg.av) (fun _ hx => Mg.of hx) h4
  obtain ⟨f, rfl⟩ := sl_of (f := Pg.av) (fun _ hx => Pg.of hx) h5
  obtain ⟨g, rfl⟩ := sl_of (f := Gr.av) (fun _ hx => Gr.of hx) h6
  obtain ⟨i, rfl⟩ := sl_of (f := Ph.av) (fun _ hx => Ph.of hx) h7
  exact ⟨⟨a, b, c, d, e, f, g, i⟩, rfl⟩
end S
