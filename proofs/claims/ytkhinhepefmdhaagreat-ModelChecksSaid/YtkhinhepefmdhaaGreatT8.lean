/-
  Contracts of functions of the program, over the logic of the texts before. Nothing is assumed.
-/
import Derived.Test.YtkhinhepefmdhaaGreatT7

open Go Go.AL Go.Proofs
namespace S
set_option maxRecDepth 100000
section
variable {w : World} {Im : Nat → Nat → Prop}

theorem rd_str (s : Str) (h : s.length ≤ maxL) : Rd w Im (.str s) [.string ⟨s.toArray⟩] := by simp only [Rd]; exact ⟨trivial, h⟩
theorem rd_int {n : Int} (h : InR .i64 n) : Rd w Im (.int .i64 n) [.int .i64 n] := by simp only [Rd]; exact ⟨trivial, h⟩
theorem rd_nil (sz : Nat) : Rd w Im (.sl sz [] .no) [.slice none 0 0] := by simp only [Rd]; refine ⟨by simp [maxL], .inl ⟨?_, ?_⟩⟩ <;> first | rfl | trivial
theorem rdL_nil : RdL w Im [] [] := by simp only [RdL]
theorem rdL_cons {x : AV} {l : List AV} {c d : List Value} (h : Rd w Im x c) (g : RdL w Im l d) : RdL w Im (x :: l) (c ++ d) := by simp only [RdL]; exact ⟨c, d, rfl, h, g⟩
theorem rd_ag {l : List AV} {c : List Value} (h : RdL w Im l c) : Rd w Im (.ag l) c := by simp only [Rd]; exact h
theorem rdF_nil (sz : Nat) : RdF w Im sz [] [] := rfl
theorem rdF_cons {sz : Nat} {x : AV} {l : List AV} {c d : List Value} (h : Rd w Im x c) (hl : c.length = sz) (g : RdF w Im sz l d) : RdF w Im sz (x :: l) (c ++ d) := ⟨c, d, rfl, hl, h, g⟩

theorem rd_zq : Rd w Im zq.av [.bool false, .slice none 0 0, .slice none 0 0] :=
  rd_ag (rdL_cons (c := [_]) (by simp only [Rd]) (rdL_cons (c := [_]) (rd_nil 1) (rdL_cons (c := [_]) (rd_nil 1) rdL_nil)))

theorem rd_exA (c : UInt8) : Rd w Im (exA c).av [.string ⟨#[c]⟩, .bool false, .slice none 0 0, .slice none 0 0, .bool false, .slice none 0 0, .slice none 0 0, .bool false, .slice none 0 0, .slice none 0 0, .int .i64 0] :=
  rd_ag (rdL_cons (c := [_]) (rd_str [c] (by simp [maxL])) (rdL_cons (c := [_, _, _]) rd_zq (rdL_cons (c := [_, _, _]) rd_zq (rdL_cons (c := [_, _, _]) rd_zq (rdL_cons (c := [_]) (rd_int (n := 0) (inr64 (by decide) (by decide))) rdL_nil)))))

theorem rd_gate {name : Str} {kind : Int} {ins : List Str} {v : Value} (hn : name.length ≤ maxL) (hk : InR .i64 kind) (h : Rd w Im (sL ins) [v]) : Rd w Im (Mg.av ⟨name, kind, 0, ins, zq⟩) [.string ⟨name.toArray⟩, .int .i64 kind, .int .i64 0, v, .bool false, .slice none 0 0, .slice none 0 0] :=
  rd_ag (rdL_cons (c := [_]) (rd_str name hn) (rdL_cons (c := [_]) (rd_int hk) (rdL_cons (c := [_]) (rd_int (n := 0) (inr64 (by decide) (by decide))) (rdL_cons (c := [_]) h (rdL_cons (c := [_, _, _]) rd_zq rdL_nil)))))

theorem rd_ex {n te ts tg tp : Nat} (E1 : w.heap[n + 1]? = some (.cells exEv te)) (E2 : w.heap[n + 2]? = some (.cells exI0 ts)) (E3 : w.heap[n + 3]? = some (.cells (exG0 (n + 2)) tg))
    (E4 : w.heap[n + 4]? = some (.cells #[.string ⟨#[98]⟩, .string ⟨#[64, 112]⟩] ts)) (E5 : w.heap[n + 5]? = some (.cells (exG1 (n + 4)) tg)) (E6 : w.heap[n + 6]? = some (.cells (exP (n + 5)) tp))
    (hIm : ∀ b o, n < b → b < n + 7 → Im b o) : Rd w Im (mdE [64, 112]).av (exM (n + 1) (n + 3) (n + 6)).toList := by
  have m2 : ∀ (l : List AV), l.length ≤ 3 → l.length ≤ maxL := fun l h => by simp [maxL]; omega
  have hi0 : Rd w Im (sL [[97], [64, 112]]) [.slice (some ⟨n + 2, 0, none⟩) 2 2] := sl_rd E2 (rdF_cons (c := [_]) (rd_str [97] (by simp [maxL])) rfl (rdF_cons (c := [_]) (rd_str [64, 112] (by simp [maxL])) rfl (rdF_nil 1))) (fun o => hIm _ o (by omega) (by omega)) (m2 _ (by simp))
  have hi1 : Rd w Im (sL [[98], [64, 112]]) [.slice (some ⟨n + 4, 0, none⟩) 2 2] := sl_rd E4 (rdF_cons (c := [_]) (rd_str [98] (by simp [maxL])) rfl (rdF_cons (c := [_]) (rd_str [64, 112] (by simp [maxL])) rfl (rdF_nil 1))) (fun o => hIm _ o (by omega) (by omega)) (m2 _ (by simp))
  have hg0 : Rd w Im (gL [⟨[103], 0, 0, [[97], [64, 112]], zq⟩]) [.slice (some ⟨n + 3, 0, none⟩) 1 1] := sl_rd E3 (rdF_cons (c := [_, _, _, _, _, _, _]) (rd_gate (kind := 0) (by simp [maxL]) (inr64 (by decide) (by decide)) hi0) rfl (rdF_nil 7)) (fun o => hIm _ o (by omega) (by omega)) (m2 _ (by simp))
  have hg1 : Rd w Im (gL [⟨[104], 1, 0, [[98], [64, 112]], zq⟩]) [.slice (some ⟨n + 5, 0, none⟩) 1 1] := sl_rd E5 (rdF_cons (c := [_, _, _, _, _, _, _]) (rd_gate (kind := 1) (by simp [maxL]) (inr64 (by decide) (by decide)) hi1) rfl (rdF_nil 7)) (fun o => hIm _ o (by omega) (by omega)) (m2 _ (by simp))
  have hp : Rd w Im (.sl 3 [Pg.av ⟨[112], [104], [⟨[104], 1, 0, [[98], [64, 112]], zq⟩]⟩] .no) [.slice (some ⟨n + 6, 0, none⟩) 1 1] :=
    sl_rd E6 (rdF_cons (c := [_, _, _]) (rd_ag (rdL_cons (c := [_]) (rd_str [112] (by simp [maxL])) (rdL_cons (c := [_]) (rd_str [104] (by simp [maxL])) (rdL_cons (c := [_]) hg1 rdL_nil)))) rfl (rdF_nil 3)) (fun o => hIm _ o (by omega) (by omega)) (m2 _ (by simp))
  have he : Rd w Im (.sl 11 [(exA 97).av, (exA 98).av, (exA 99).av] .no) [.slice (some ⟨n + 1, 0, none⟩) 3 3] :=
    sl_rd E1 (rdF_cons (c := [_, _, _, _, _, _, _, _, _, _, _]) (rd_exA 97) rfl (rdF_cons (c := [_, _, _, _, _, _, _, _, _, _, _]) (rd_exA 98) rfl (rdF_cons (c := [_, _, _, _, _, _, _, _, _, _, _]) (rd_exA 99) rfl (rdF_nil 11)))) (fun o => hIm _ o (by omega) (by omega)) (m2 _ (by simp))
  exact rd_ag (rdL_cons (c := [_]) (rd_str [109] (by simp [maxL])) (rdL_cons (c := [_]) (rd_str [103] (by simp [maxL])) (rdL_cons (c := [_]) he (rdL_cons (c := [_]) (rd_nil 2) (rdL_cons (c := [_]) hg0 (rdL_cons (c := [_]) hp (rdL_cons (c := [_]) (rd_nil 4) (rdL_cons (c := [_]) (rd_nil 3) rdL_nil))))))))
end
end S

open Go Go.AL Go.Proofs
namespace S
set_option maxRecDepth 100000

theorem c_awake22 : FnH Tryz.prog 30 [] [] (.bool true) [] := by
  obtain ⟨hB, hC⟩ := lightM_B (ex_light [99])
  obtain ⟨hB2, hC2⟩ := lightM_B (ex_light [64, 112])
  have ci := c_Input (mdE [99]) (-1) [64, 112] hC hB _ rfl
  rw [ex_input, errAV_zero] at ci
  have cu := c_Used (mdE [99]) hC hB _ rfl
  rw [if_pos ex_check, ex_used] at cu
  have cc := c_mCheck (mdE [64, 112]) hC2 hB2 _ rfl
  rw [ex_cycle, errAV_ne (by decide)] at cc
  have cis := (c_Is 14 14).weak (R' := .tt) (by show decide _ = true; decide)
  rw [errAV_ne (by decide)] at cis
  refine ⟨⟨Tryz.f30, Tryz.func30, by kernel_rfl, by kernel_rfl⟩, fun c vs hr hv => ?_⟩
  obtain rfl : vs = [] := hv
  refine calls_of_wp Tryz.func30 rfl ?_
  have ha0 : AOk 57 c [] { tmps := [].toArray ++ Array.replicate (57 - 0) undef, defers := [] } := ⟨fun t A h => by simp [eget] at h, rfl, by simp⟩
  refine seq_step (n := 57) lay mixed (by kernel_rfl) hr ha0 ?_
  (conv => whnf)
  refine ⟨rfl, fun c1 a1 tr1 ha1 => ?_⟩
  refine seq_step (n := 57) lay mixed (by kernel_rfl) tr1.hr ha1 ?_
  (conv => whnf)
  refine .pure _ _ ?_ ⟨rfl, rfl⟩ c_Example22 fun _ => ?_
  · exact leL_refl _
  (conv => whnf)
  refine .pure _ _ ?_ ⟨rfl, rfl⟩ ci fun _ => ?_
  · exact leL_refl _
  (conv => whnf)
  refine ⟨rfl, fun c2 a2 tr2 ha2 => ?_⟩
  refine seq_step (n := 57) lay mixed (by kernel_rfl) tr2.hr ha2 ?_
  (conv => whnf)
  refine .pure _ _ ?_ ⟨rfl, rfl⟩ c_Example22 fun _ => ?_
  · exact leL_refl _
  (conv => whnf)
  refine .pure _ _ ?_ ⟨rfl, rfl⟩ cu fun _ => ?_
  · exact leL_refl _
  (conv => whnf)
  refine ⟨rfl, fun c3 a3 tr3 ha3 => ?_⟩
  have hsz := ha3.size
  have v1 := (EV_int (ha3.env 1 _ rfl)).1
  have v2 := (EV_int (ha3.env 2 _ rfl)).1
  have v3 := (EV_int (ha3.env 3 _ rfl)).1
  have v5 := (EV_int (ha3.env 5 _ rfl)).1
  have v4 := EV_nilI (ha3.env 4 _ rfl)
  have v6 := EV_nilI (ha3.env 6 _ rfl)
  have hdf := ha3.defers
  have tr := tr1.trans (tr2.trans tr3)
  clear ha0 ha1 ha2 ha3 tr1 tr2 tr3
  obtain ⟨iM, tM, dM, zM⟩ : ∃ i, TIOk Tryz.prog 69 i ∧ (∃ fs, i.desc = .struct fs) ∧ i.zero = .ag [.str [], .str [], .nils, .nils, .nils, .nils, .nils, .nils] := Lay.getC_ok lay (k := fun i => (∃ fs, i.desc = .struct fs) ∧ i.zero = .ag [.str [], .str [], .nils, .nils, .nils, .nils, .nils, .nils]) (by (conv => whnf); exact ⟨⟨_, rfl⟩, rfl⟩)
  obtain ⟨iP, tP, dP, zP⟩ : ∃ i, TIOk Tryz.prog 126 i ∧ (∃ fs, i.desc = .struct fs) ∧ i.zero = .ag [.str [], .str [], .nils] := Lay.getC_ok lay (k := fun i => (∃ fs, i.desc = .struct fs) ∧ i.zero = .ag [.str [], .str [], .nils]) (by (conv => whnf); exact ⟨⟨_, rfl⟩, rfl⟩)
  obtain ⟨iG, tG, dG, zG⟩ : ∃ i, TIOk Tryz.prog 124 i ∧ (∃ fs, i.desc = .struct fs) ∧ i.zero = .ag [.str [], .int .i64 0, .int .i64 0, .nils, .ag [.ff, .nils, .nils]] := Lay.getC_ok lay (k := fun i => (∃ fs, i.desc = .struct fs) ∧ i.zero = .ag [.str [], .int .i64 0, .int .i64 0, .nils, .ag [.ff, .nils, .nils]]) (by (conv => whnf); exact ⟨⟨_, rfl⟩, rfl⟩)
  obtain ⟨iS, tS, zS⟩ : ∃ i, TIOk Tryz.prog 9 i ∧ i.zero = .str [] := Lay.getC_ok lay (k := fun i => i.zero = .str []) (by (conv => whnf))
  obtain ⟨iLP, tLP, zLP⟩ : ∃ i, TIOk Tryz.prog 65 i ∧ i.zero = .nils := Lay.getC_ok lay (k := fun i => i.zero = .nils) (by (conv => whnf))
  obtain ⟨iLG, tLG, zLG⟩ : ∃ i, TIOk Tryz.prog 64 i ∧ i.zero = .nils := Lay.getC_ok lay (k := fun i => i.zero = .nils) (by (conv => whnf))
  obtain ⟨iLS, tLS, zLS⟩ : ∃ i, TIOk Tryz.prog 122 i ∧ i.zero = .nils := Lay.getC_ok lay (k := fun i => i.zero = .nils) (by (conv => whnf))
  refine wp_seq (wp_region_list ?_)
  refine wpl_call 68 #[] rfl (by kernel_rfl) (raw_Ex c3.w _ fun wE hE => ⟨_, rfl, ?_⟩)
  refine wpl_alloc (.pointer (some ⟨wE.heap.size, 0, none⟩)) (.cells #[.string ⟨#[]⟩, .string ⟨#[]⟩, .slice none 0 0, .slice none 0 0, .slice none 0 0, .slice none 0 0, .slice none 0 0, .slice none 0 0] 69) rfl (by kernel_rfl) fun w9 x9 s9 n9 => ?_
  generalize hn : c3.w.heap.size = n at *
  have hst := run_storeVar (v := .agg (exM (n + 1) (n + 3) (n + 6))) (off := 0) tM (by rw [zM]; kernel_rfl) n9 (by show 0 + 8 ≤ 8; omega) (by
    intro u hu
    simp only [Value.cells, exM] at hu
    simp only [List.mem_cons, List.not_mem_nil, or_false] at hu
    rcases hu with rfl | rfl | rfl | rfl | rfl | rfl | rfl | rfl <;> rfl)
  refine wpl_skip _ rfl (run_store' rfl (eval_put (by rw [put_size, hsz]; omega)) (by rw [eval_put_ne (by decide), eval_put (by rw [hsz]; omega)]) hst) ?_
  have hrow : (w9.setRow wE.heap.size ((#[.string ⟨#[]⟩, .string ⟨#[]⟩, .slice none 0 0, .slice none 0 0, .slice none 0 0, .slice none 0 0, .slice none 0 0, .slice none 0 0] : Array Value).toList.take 0 ++ (Value.agg (exM (n + 1) (n + 3) (n + 6))).cells.toList ++ (#[.string ⟨#[]⟩, .string ⟨#[]⟩, .slice none 0 0, .slice none 0 0, .slice none 0 0, .slice none 0 0, .slice none 0 0, .slice none 0 0] : Array Value).toList.drop (0 + (Value.agg (exM (n + 1) (n + 3) (n + 6))).cells.size)).toArray) = w9.setRow wE.heap.size (exM (n + 1) (n + 3) (n + 6)) := rfl
  rw [hrow]
  clear hrow hst
  have hb := setRow_heap w9 wE.heap.size _ (exM (n + 1) (n + 3) (n + 6)) _ _ n9
  have ho : ∀ b, b ≠ wE.heap.size → (w9.setRow wE.heap.size (exM (n + 1) (n + 3) (n + 6))).heap[b]? = w9.heap[b]? := fun b hb => setRow_other _ _ _ _ hb
  have hx := setRow_ext (cs := exM (n + 1) (n + 3) (n + 6)) x9 (Nat.le_refl wE.heap.size)
  have hsz10 : (w9.setRow wE.heap.size (exM (n + 1) (n + 3) (n + 6))).heap.size = w9.heap.size := setRow_size _ _ _
  generalize w9.setRow wE.heap.size (exM (n + 1) (n + 3) (n + 6)) = w10 at *
  obtain ⟨xE, sE, E1, E2, E3, E4, E5, E6⟩ := hE
  rw [hn] at sE E1 E2 E3 E4 E5 E6
  have F : ∀ b ob, b < n + 7 → wE.heap[b]? = some ob → w10.heap[b]? = some ob := fun b ob h1 h2 => by rw [hx.old b (by omega)]; exact h2
  have E1 := F _ _ (by omega) E1
  have E2 := F _ _ (by omega) E2
  have E3 := F _ _ (by omega) E3
  have E4 := F _ _ (by omega) E4
  have E5 := F _ _ (by omega) E5
  have E6 := F _ _ (by omega) E6
  have X10 : Ext c3.w w10 := xE.trans hx
  rw [sE] at hb
  generalize hA : ((a3.put (some 20) (.agg (exM (n + 1) (n + 3) (n + 6)))).put (some 7) (.pointer (some ⟨wE.heap.size, 0, none⟩))).put none undef = a10
  have z10 : a10.tmps.size = 57 := by rw [← hA, put_size, put_size, put_size, hsz]
  have f10 : a10.defers = [] := by rw [← hA, put_defers, put_defers, put_defers, hdf]
  have e7 : a10.eval (.tmp 7) = .pointer (some ⟨n + 7, 0, none⟩) := by rw [← hA, ← sE]; exact eval_put (by rw [put_size, hsz]; omega)
  have ek : ∀ t : Nat, t < 7 → a10.eval (.tmp t) = a3.tmps.getD t undef := fun t ht => by
    rw [← hA]
    show ((a3.put (some 20) _).put (some 7) _).eval (.tmp t) = _
    rw [eval_put_ne (show 7 ≠ t by omega), eval_put_ne (show 20 ≠ t by omega)]; rfl
  have ek1 := (ek 1 (by decide)).trans v1
  have ek2 := (ek 2 (by decide)).trans v2
  have ek3 := (ek 3 (by decide)).trans v3
  have ek4 := (ek 4 (by decide)).trans v4
  have ek5 := (ek 5 (by decide)).trans v5
  have ek6 := (ek 6 (by decide)).trans v6
  have hsz10 : w10.heap.size = n + 8 := by omega
  clear hA ek v1 v2 v3 v4 v5 v6 F xE hx x9 n9 ho
  refine (wp_seq (wp_region_list ?_) : Code.wp _ _ _ _ _)
  refine wpl_valA 21 _ _ rfl rfl (by rw [z10]; omega) (exec_field (off' := 5) rfl rfl tM dM zM rfl rfl e7) fun b1 p1 => ?_
  have q1 := p1.size.trans z10
  refine wpl_valA 22 _ _ rfl rfl (by rw [q1]; omega) (exec_load rfl tLP (by rw [zLP]; rfl) p1.new (v := .slice (some ⟨n + 6, 0, none⟩) 1 1) (by rw [cell_of_heap hb]; rfl)) fun b2 p2 => ?_
  have q2 := p2.size.trans q1
  refine wpl_valA 23 _ _ rfl rfl (by rw [q2]; omega) (exec_index (off' := 0) (by rw [zP]; rfl) rfl (by kernel_rfl) tP p2.new (kd := .i64) (n := 0) rfl (by omega) (by decide)) fun b3 p3 => ?_
  have q3 := p3.size.trans q2
  refine wpl_valA 24 _ _ rfl rfl (by rw [q3]; omega) (exec_field (off' := 2) rfl rfl tP dP zP rfl rfl p3.new) fun b4 p4 => ?_
  have q4 := p4.size.trans q3
  refine wpl_valA 25 _ _ rfl rfl (by rw [q4]; omega) (exec_load rfl tLG (by rw [zLG]; rfl) p4.new (v := .slice (some ⟨n + 5, 0, none⟩) 1 1) (by rw [cell_of_heap E6]; rfl)) fun b5 p5 => ?_
  have q5 := p5.size.trans q4
  refine wpl_valA 26 _ _ rfl rfl (by rw [q5]; omega) (exec_index (off' := 0) (by rw [zG]; rfl) rfl (by kernel_rfl) tG p5.new (kd := .i64) (n := 0) rfl (by omega) (by decide)) fun b6 p6 => ?_
  have q6 := p6.size.trans q5
  refine wpl_valA 27 _ _ rfl rfl (by rw [q6]; omega) (exec_field (off' := 3) rfl rfl tG dG zG rfl rfl p6.new) fun b7 p7 => ?_
  have q7 := p7.size.trans q6
  refine wpl_valA 28 _ _ rfl rfl (by rw [q7]; omega) (exec_load rfl tLS (by rw [zLS]; rfl) p7.new (v := .slice (some ⟨n + 4, 0, none⟩) 2 2) (by rw [cell_of_heap E5]; rfl)) fun b8 p8 => ?_
  have q8 := p8.size.trans q7
  refine wpl_valA 29 _ _ rfl rfl (by rw [q8]; omega) (exec_index (off' := 1) (by rw [zS]; rfl) rfl (by kernel_rfl) tS p8.new (kd := .i64) (n := 1) rfl (by omega) (by decide)) fun a11 p9 => ?_
  have z11 := p9.size.trans q8
  have hst := run_storeVar (P := Tryz.prog) (w := w10) (v := .string ⟨#[64, 112]⟩) (off := 1) tS (by rw [zS]; rfl) E4 (by show 1 + 1 ≤ 2; omega) (by
    intro u hu
    simp only [Value.cells, List.mem_cons, List.not_mem_nil, or_false] at hu
    subst hu; rfl)
  refine wpl_skip _ rfl (run_store' rfl p9.new rfl hst) ?_
  have hrow : (w10.setRow (n + 4) (exI1.toList.take 1 ++ (Value.string ⟨#[64, 112]⟩).cells.toList ++ exI1.toList.drop (1 + (Value.string ⟨#[64, 112]⟩).cells.size)).toArray) = w10.setRow (n + 4) #[.string ⟨#[98]⟩, .string ⟨#[64, 112]⟩] := rfl
  rw [hrow]
  clear hrow hst
  have hb4 := setRow_heap w10 (n + 4) _ #[.string ⟨#[98]⟩, .string ⟨#[64, 112]⟩] _ _ E4
  have ho : ∀ b, b ≠ n + 4 → (w10.setRow (n + 4) #[.string ⟨#[98]⟩, .string ⟨#[64, 112]⟩]).heap[b]? = w10.heap[b]? := fun b hb => setRow_other _ _ _ _ hb
  have hx := setRow_ext (cs := #[.string ⟨#[98]⟩, .string ⟨#[64, 112]⟩]) X10 (show c3.w.heap.size ≤ n + 4 by omega)
  have hsz11 : (w10.setRow (n + 4) #[.string ⟨#[98]⟩, .string ⟨#[64, 112]⟩]).heap.size = w10.heap.size := setRow_size _ _ _
  generalize w10.setRow (n + 4) #[.string ⟨#[98]⟩, .string ⟨#[64, 112]⟩] = w11 at *
  have hb := (ho (n + 7) (by omega)).trans hb
  have E1 := (ho (n + 1) (by omega)).trans E1
  have E2 := (ho (n + 2) (by omega)).trans E2
  have E3 := (ho (n + 3) (by omega)).trans E3
  have E5 := (ho (n + 5) (by omega)).trans E5
  have E6 := (ho (n + 6) (by omega)).trans E6
  have f11 : a11.defers = [] := p9.defers.trans (p8.defers.trans (p7.defers.trans (p6.defers.trans (p5.defers.trans (p4.defers.trans (p3.defers.trans (p2.defers.trans (p1.defers.trans f10))))))))
  have ek : ∀ t : Nat, t < 20 → a11.eval (.tmp t) = a10.eval (.tmp t) := fun t ht => by
    rw [p9.old t (by omega), p8.old t (by omega), p7.old t (by omega), p6.old t (by omega), p5.old t (by omega), p4.old t (by omega), p3.old t (by omega), p2.old t (by omega), p1.old t (by omega)]
  have ek1 := (ek 1 (by decide)).trans ek1
  have ek2 := (ek 2 (by decide)).trans ek2
  have ek3 := (ek 3 (by decide)).trans ek3
  have ek4 := (ek 4 (by decide)).trans ek4
  have ek5 := (ek 5 (by decide)).trans ek5
  have ek6 := (ek 6 (by decide)).trans ek6
  have e7 := (ek 7 (by decide)).trans e7
  have hsz12 : w11.heap.size = n + 8 := by omega
  clear p1 p2 p3 p4 p5 p6 p7 p8 p9 q1 q2 q3 q4 q5 q6 q7 q8 ek hsz11 hsz10 hsz z10 f10 E4 ho tM dM zM tP dP zP tG dG zG tS zS tLP zLP tLG zLG tLS zLS
  have hnx : c3.nx = 0 := tr.hr.nx
  have htp3 : c3.tp = tpOf [] := tr.hr.tp
  let d : Cx := { c3 with w := w11, Im := fun b o => c3.Im b o ∨ (n < b ∧ b < n + 7), ρ := fun k => if k = 0 then n + 7 else c3.ρ k, nx := 1, tp := tpOf [(0, .box (mdE [64, 112]).av)] }
  have hRd : Rd w11 d.Im (mdE [64, 112]).av (exM (n + 1) (n + 3) (n + 6)).toList := rd_ex E1 E2 E3 hb4 E5 E6 fun b o h1 h2 => .inr ⟨h1, h2⟩
  have hcell : ∀ b o, c3.Im b o → w11.cell? ⟨b, o, none⟩ = c3.w.cell? ⟨b, o, none⟩ := fun b o h => cell_same (hx.old b (tr.hr.im b o h))
  have hle : c3.Le d := ⟨fun b o h => ⟨.inl h, hcell b o h⟩, by rw [hnx]; exact Nat.zero_le _, fun k hk => by rw [hnx] at hk; omega, fun k m hk _ => by rw [hnx] at hk; omega⟩
  have TR : Tr c3 [] d [(0, .box (mdE [64, 112]).av)] := by
    refine ⟨⟨rfl, rfl, ⟨by simp, trivial⟩, ?_, ?_, by simp⟩, hle, hx.os, hx.tape, hx.output, hx.size, fun b hb _ => hx.old b hb, ?_, ?_⟩
    · rintro b o (h | h)
      · have := tr.hr.im b o h
        show b < w11.heap.size
        omega
      · show b < w11.heap.size
        omega
    · intro x hx
      obtain rfl : x = (0, .box (mdE [64, 112]).av) := by simpa using hx
      refine ⟨(exM (n + 1) (n + 3) (n + 6)).toList, 69, ?_, VR_of_Rd (c := d) _ _ hRd, ?_⟩
      · show w11.heap[n + 7]? = _
        rw [Array.toArray_toList]
        exact hb
      · rintro o (h | h)
        · have := tr.hr.im _ o h
          have : n + 7 < c3.w.heap.size := this
          omega
        · have h2 : n + 7 < n + 7 := h.2
          omega
    · intro y hy b hb
      obtain rfl : y = (0, .box (mdE [64, 112]).av) := by simpa using hy
      have hb : n + 7 = b := by simpa [blkOf, d] using hb
      exact .inl (by omega)
    · rintro b o (h | h)
      · exact .inl h
      · exact .inr (.inl (by omega))
  have AOK : AOk 57 d [(7, .ptr 0 [] 0), (1, .int .i64 2), (2, .int .i64 0), (3, .int .i64 0), (4, .nilI), (5, .int .i64 7), (6, .nilI)] a11 := by
    refine ⟨fun t A hA => ?_, f11, z11⟩
    have hm := eget_mem hA
    simp only [List.mem_cons, List.not_mem_nil, or_false, Prod.mk.injEq] at hm
    rcases hm with ⟨rfl, rfl⟩ | ⟨rfl, rfl⟩ | ⟨rfl, rfl⟩ | ⟨rfl, rfl⟩ | ⟨rfl, rfl⟩ | ⟨rfl, rfl⟩ | ⟨rfl, rfl⟩
    · show EV d _ (a11.eval (.tmp 7))
      rw [e7]; exact EV_VV (VV_ptr_mk (c := d) (i := 0) (by show 0 < 1; omega))
    · show EV d _ (a11.eval (.tmp 1))
      rw [ek1]; exact EV_VV (VV_int_mk (inr64 (by decide) (by decide)))
    · show EV d _ (a11.eval (.tmp 2))
      rw [ek2]; exact EV_VV (VV_int_mk (inr64 (by decide) (by decide)))
    · show EV d _ (a11.eval (.tmp 3))
      rw [ek3]; exact EV_VV (VV_int_mk (inr64 (by decide) (by decide)))
    · show EV d _ (a11.eval (.tmp 4))
      rw [ek4]; exact EV_VV (VV_mk rfl rfl (by simp only [VR, Rd]))
    · show EV d _ (a11.eval (.tmp 5))
      rw [ek5]; exact EV_VV (VV_int_mk (inr64 (by decide) (by decide)))
    · show EV d _ (a11.eval (.tmp 6))
      rw [ek6]; exact EV_VV (VV_mk rfl rfl (by simp only [VR, Rd]))
  refine (wp_mono (awp_sound lay mixed (fun _ _ _ _ _ h => h) (n := 57) _ (Fin L (Tryz.f30).results.toList [] (.bool true) []) _ _ d _ (by kernel_rfl) TR.hr AOK ?_) ?_ : Code.wp _ _ _ _ _)
  · ((try dsimp only [awp]); (conv => whnf))
    refine And.intro (fun _ => ?_) (fun h => absurd rfl h)
    ((try dsimp only [awp]); (conv => whnf))
    refine And.intro (fun _ => ?_) (fun h => absurd rfl h)
    ((try dsimp only [awp]); (conv => whnf))
    refine And.intro (fun _ => ?_) (fun h => absurd rfl h)
    ((try dsimp only [awp]); (conv => whnf))
    refine And.intro (fun _ => ?_) (fun h => absurd rfl h)
    ((try dsimp only [awp]); (conv => whnf))
    refine .pure _ _ ?_ ⟨rfl, rfl⟩ cc fun _ => ?_
    · exact leL_refl _
    ((try dsimp only [awp]); (conv => whnf))
    refine .pure _ _ ?_ ⟨rfl, rfl⟩ cis fun _ => ?_
    · exact leL_refl _
    ((try dsimp only [awp]); (conv => whnf))
    (refine FinSpec.mono ?_; (conv => whnf); refine ⟨?_, rfl⟩; (conv => whnf))
    (repeat' first | exact rfl | exact trivial | exact HWk.refl rfl | exact leRL_refl _ | apply And.intro)
  · rintro ex a w ⟨x, e, H1, c1, rfl, hq, rfl, htr, ha1, _⟩
    have TR2 := (tr.trans TR).trans htr
    cases x with
    | normal => exact fin_of (fn := Tryz.f30) lay hr TR2 ha1 hq
    | ret => exact fin_of (fn := Tryz.f30) lay hr TR2 ha1 hq
    | exit i => exact hq.elim
end S

open Go Go.AL Go.Proofs
namespace S

/-! ### arguments, by their shapes -/

theorem list_of {α : Type} {f : α → AV} : ∀ {l : List AV}, (∀ x ∈ l, ∃ y, x = f y) → ∃ m : List α, l = m.map f
  | [], _ => ⟨[], rfl⟩
  | x :: l, h => by
    obtain ⟨y, rfl⟩ := h x (by simp)
    obtain ⟨m, rfl⟩ := list_of (l := l) fun z hz => h z (by simp [hz])
    exact ⟨y :: m, rfl⟩

theorem ints_of {sz : Nat} {k : IntKind} {A : AV} (h : (Sh.sl sz (.int k)).In A) : ∃ l : List Int, A = .sl sz (l.map (.int k)) .no := by
  simp only [Sh.In] at h
  obtain ⟨l, rfl, hl⟩ := h
  obtain ⟨m, rfl⟩ := list_of hl
  exact ⟨m, rfl⟩

abbrev shRat : Sh := .st [.bool, .sl 1 (.int .u32), .sl 1 (.int .u32)]
theorem Rat.of {A : AV} (h : shRat.In A) : ∃ r : Rat, A = r.av := by
  simp only [Sh.In, InL] at h
  obtain ⟨_, rfl, _, _, rfl, ⟨b, rfl⟩, _, _, rfl, h1, _, _, rfl, h2, rfl⟩ := h
  obtain ⟨n, rfl⟩ := ints_of (sz := 1) (k := .u32) (by simp only [Sh.In]; exact h1)
  obtain ⟨d, rfl⟩ := ints_of (sz := 1) (k := .u32) (by simp only [Sh.In]; exact h2)
  exact ⟨⟨b, n, d⟩, rfl⟩

theorem rats_of {A : AV} (h : (Sh.sl 3 shRat).In A) : ∃ l : List Rat, A = .sl 3 (l.map Rat.av) .no := by
  unfold Sh.In at h
  obtain ⟨l, rfl, hl⟩ := h
  obtain ⟨m, rfl⟩ := list_of fun x hx => Rat.of (hl x hx)
  exact ⟨m, rfl⟩

theorem int_of {k : IntKind} {A : AV} (h : (Sh.int k).In A) : ∃ n : Int, A = .int k n := by
  simpa only [Sh.In] using h

theorem str_of {A : AV} (h : Sh.str.In A) : ∃ s : List UInt8, A = .str s := by
  simpa only [Sh.In] using h
end S

open Go Go.AL Go.Proofs
namespace S
set_option maxRecDepth 100000

/-! ### models, by their shapes -/

theorem sl_of {α : Type} {f : α → AV} {sh : Sh} {sz : Nat} {A : AV} (hf : ∀ x, sh.In x → ∃ y, x = f y) (h : (Sh.sl sz sh).In A) : ∃ l : List α, A = .sl sz (l.map f) .no := by
  unfold Sh.In at h
  obtain ⟨l, rfl, hl⟩ := h
  obtain ⟨m, rfl⟩ := list_of fun x hx => hf x (hl x hx)
  exact ⟨m, rfl⟩

abbrev shEv : Sh := .st [.str, shRat, shRat, shRat, .int .i64]
abbrev shHs : Sh := .st [.str, .bool]
abbrev shMg : Sh := .st [.str, .int .i64, .int .i64, .sl 1 .str, shRat]
abbrev shPg : Sh := .st [.str, .str, .sl 7 shMg]
abbrev shGr : Sh := .st [.str, .int .i64, .sl 1 .str, .sl 3 shRat]
abbrev shPv : Sh := .st [.str, shRat]
abbrev shPh : Sh := .st [.str, .str, .sl 4 shPv]
abbrev shMd : Sh := .st [.str, .str, .sl 11 shEv, .sl 2 shHs, .sl 7 shMg, .sl 3 shPg, .sl 4 shGr, .sl 3 shPh]

theorem strs_of {A : AV} (h : (Sh.sl 1 .str).In A) : ∃ l : List Str, A = sL l := sl_of (f := AV.str) (fun _ hx => str_of hx) h

theorem Ev.of {A : AV} (h : shEv.In A) : ∃ x : Ev, A = x.av := by
  unfold Sh.In at h
  simp only [InL] at h
  obtain ⟨_, rfl, _, _, rfl, h0, _, _, rfl, h1, _, _, rfl, h2, _, _, rfl, h3, _, _, rfl, h4, rfl⟩ := h
  obtain ⟨a, rfl⟩ := str_of h0
  obtain ⟨b, rfl⟩ := Rat.of h1
  obtain ⟨c, rfl⟩ := Rat.of h2
  obtain ⟨d, rfl⟩ := Rat.of h3
  obtain ⟨e, rfl⟩ := int_of h4
  exact ⟨⟨a, b, c, d, e⟩, rfl⟩

theorem Hs.of {A : AV} (h : shHs.In A) : ∃ x : Hs, A = x.av := by
  unfold Sh.In at h
  simp only [InL] at h
  obtain ⟨_, rfl, _, _, rfl, h0, _, _, rfl, h1, rfl⟩ := h
  obtain ⟨a, rfl⟩ := str_of h0
  simp only [Sh.In] at h1
  obtain ⟨b, rfl⟩ := h1
  exact ⟨⟨a, b⟩, rfl⟩

theorem Mg.of {A : AV} (h : shMg.In A) : ∃ x : Mg, A = x.av := by
  unfold Sh.In at h
  simp only [InL] at h
  obtain ⟨_, rfl, _, _, rfl, h0, _, _, rfl, h1, _, _, rfl, h2, _, _, rfl, h3, _, _, rfl, h4, rfl⟩ := h
  obtain ⟨a, rfl⟩ := str_of h0
  obtain ⟨b, rfl⟩ := int_of h1
  obtain ⟨c, rfl⟩ := int_of h2
  obtain ⟨d, rfl⟩ := strs_of h3
  obtain ⟨e, rfl⟩ := Rat.of h4
  exact ⟨⟨a, b, c, d, e⟩, rfl⟩

theorem Pg.of {A : AV} (h : shPg.In A) : ∃ x : Pg, A = x.av := by
  unfold Sh.In at h
  simp only [InL] at h
  obtain ⟨_, rfl, _, _, rfl, h0, _, _, rfl, h1, _, _, rfl, h2, rfl⟩ := h
  obtain ⟨a, rfl⟩ := str_of h0
  obtain ⟨b, rfl⟩ := str_of h1
  obtain ⟨c, rfl⟩ := sl_of (f := Mg.av) (fun _ hx => Mg.of hx) h2
  exact ⟨⟨a, b, c⟩, rfl⟩

theorem Gr.of {A : AV} (h : shGr.In A) : ∃ x : Gr, A = x.av := by
  unfold Sh.In at h
  simp only [InL] at h
  obtain ⟨_, rfl, _, _, rfl, h0, _, _, rfl, h1, _, _, rfl, h2, _, _, rfl, h3, rfl⟩ := h
  obtain ⟨a, rfl⟩ := str_of h0
  obtain ⟨b, rfl⟩ := int_of h1
  obtain ⟨c, rfl⟩ := strs_of h2
  obtain ⟨d, rfl⟩ := rats_of h3
  exact ⟨⟨a, b, c, d⟩, rfl⟩

theorem Pv.of {A : AV} (h : shPv.In A) : ∃ x : Pv, A = x.av := by
  unfold Sh.In at h
  simp only [InL] at h
  obtain ⟨_, rfl, _, _, rfl, h0, _, _, rfl, h1, rfl⟩ := h
  obtain ⟨a, rfl⟩ := str_of h0
  obtain ⟨b, rfl⟩ := Rat.of h1
  exact ⟨⟨a, b⟩, rfl⟩

theorem Ph.of {A : AV} (h : shPh.In A) : ∃ x : Ph, A = x.av := by
  unfold Sh.In at h
  simp only [InL] at h
  obtain ⟨_, rfl, _, _, rfl, h0, _, _, rfl, h1, _, _, rfl, h2, rfl⟩ := h
  obtain ⟨a, rfl⟩ := str_of h0
  obtain ⟨b, rfl⟩ := str_of h1
  obtain ⟨c, rfl⟩ := sl_of (f := Pv.av) (fun _ hx => Pv.of hx) h2
  exact ⟨⟨a, b, c⟩, rfl⟩

theorem Md.of {A : AV} (h : shMd.In A) : ∃ x : Md, A = x.av := by
  unfold Sh.In at h
  simp only [InL] at h
  obtain ⟨_, rfl, _, _, rfl, h0, _, _, rfl, h1, _, _, rfl, h2, _, _, rfl, h3, _, _, rfl, h4, _, _, rfl, h5, _, _, rfl, h6, _, _, rfl, h7, rfl⟩ := h
  obtain ⟨a, rfl⟩ := str_of h0
  obtain ⟨b, rfl⟩ := str_of h1
  obtain ⟨c, rfl⟩ := sl_of (f := Ev.av) (fun _ hx => Ev.of hx) h2
  obtain ⟨d, rfl⟩ := sl_of (f := Hs.av) (fun _ hx => Hs.of hx) h3
  obtain ⟨e, rfl⟩ := sl_of (f := Mg.av) (fun _ hx => Mg.of hx) h4
  obtain ⟨f, rfl⟩ := sl_of (f := Pg.av) (fun _ hx => Pg.of hx) h5
  obtain ⟨g, rfl⟩ := sl_of (f := Gr.av) (fun _ hx => Gr.of hx) h6
  obtain ⟨i, rfl⟩ := sl_of (f := Ph.av) (fun _ hx => Ph.of hx) h7
  exact ⟨⟨a, b, c, d, e, f, g, i⟩, rfl⟩
end S

open Go Go.AL Go.Proofs
namespace S
set_option maxRecDepth 100000

structure Ak where
  page : Int
  inp : Str
  old : Str
  new : Str

abbrev Ak.av (x : Ak) : AV := .ag [.int .i64 x.page, .str x.inp, .str x.old, .str x.new]
abbrev shAk : Sh := .st [.int .i64, .str, .str, .str]

theorem Ak.of {A : AV} (h : shAk.In A) : ∃ x : Ak, A = x.av := by
  unfold Sh.In at h
  simp only [InL] at h
  obtain ⟨_, rfl, _, _, rfl, h0, _, _, rfl, h1, _, _, rfl, h2, _, _, rfl, h3, rfl⟩ := h
  obtain ⟨a, rfl⟩ := int_of h0
  obtain ⟨b, rfl⟩ := str_of h1
  obtain ⟨c, rfl⟩ := str_of h2
  obtain ⟨d, rfl⟩ := str_of h3
  exact ⟨⟨a, b, c, d⟩, rfl⟩

end S

open Go Go.AL Go.Proofs
namespace S
set_option maxRecDepth 100000

abbrev zMd : AV := .ag [.str [], .str [], .nils, .nils, .nils, .nils, .nils, .nils]




theorem c_sameGates0 : FnH Tryz.prog 98 [.nils, .nils] [] .tt [] := by
  refine FnH.intro lay mixed Tryz.func98 (by kernel_rfl) rfl (by kernel_rfl) rfl fun hok => ?_
  ((try dsimp only [argC, succC]); (try dsimp only [awp]); (conv => whnf))
  refine And.intro (fun h => absurd rfl h) (fun _ => ?_)
  ((try dsimp only [awp]); (conv => whnf))
  refine LoopE.step 1 ?_
  ((try dsimp only [awp]); (conv => whnf))
  refine And.intro (fun h => absurd h (by decide)) (fun _ => ?_)
  ((try dsimp only [awp]); (conv => whnf))
  (refine FinSpec.mono ?_; (conv => whnf); refine ⟨?_, rfl⟩; (conv => whnf))
  (repeat' first | exact rfl | exact trivial | exact HWk.refl rfl | exact leRL_refl _ | apply And.intro)

theorem c_sameParts0 : FnH Tryz.prog 97 [zMd, zMd] [] .tt [] := by
  refine FnH.intro lay mixed Tryz.func97 (by kernel_rfl) rfl (by kernel_rfl) rfl fun hok => ?_
  ((try dsimp only [argC, succC]); (try dsimp only [awp]); (conv => whnf))
  refine And.intro (fun h => absurd rfl h) (fun _ => ?_)
  ((try dsimp only [awp]); (conv => whnf))
  refine And.intro (fun h => absurd rfl h) (fun _ => ?_)
  ((try dsimp only [awp]); (conv => whnf))
  refine And.intro (fun h => absurd rfl h) (fun _ => ?_)
  ((try dsimp only [awp]); (conv => whnf))
  refine LoopE.step 1 ?_
  ((try dsimp only [awp]); (conv => whnf))
  refine And.intro (fun h => absurd h (by decide)) (fun _ => ?_)
  ((try dsimp only [awp]); (conv => whnf))
  refine LoopE.step 1 ?_
  ((try dsimp only [awp]); (conv => whnf))
  refine And.intro (fun h => absurd h (by decide)) (fun _ => ?_)
  ((try dsimp only [awp]); (conv => whnf))
  refine LoopE.step 1 ?_
  ((try dsimp only [awp]); (conv => whnf))
  refine And.intro (fun h => absurd h (by decide)) (fun _ => ?_)
  ((try dsimp only [awp]); (conv => whnf))
  (refine FinSpec.mono ?_; (conv => whnf); refine ⟨?_, rfl⟩; (conv => whnf))
  (repeat' first | exact rfl | exact trivial | exact HWk.refl rfl | exact leRL_refl _ | apply And.intro)

theorem c_Same0 : FnH Tryz.prog 40 [zMd, zMd] [] .tt [] := by
  refine FnH.intro lay mixed Tryz.func40 (by kernel_rfl) rfl (by kernel_rfl) rfl fun hok => ?_
  ((try dsimp only [argC, succC]); (try dsimp only [awp]); (conv => whnf))
  refine And.intro (fun h => absurd rfl h) (fun _ => ?_)
  ((try dsimp only [awp]); (conv => whnf))
  refine And.intro (fun h => absurd rfl h) (fun _ => ?_)
  ((try dsimp only [awp]); (conv => whnf))
  refine .pure _ _ ?_ ⟨rfl, rfl⟩ c_sameParts0 fun _ => ?_
  · exact leL_refl _
  ((try dsimp only [awp]); (conv => whnf))
  refine .pure _ _ ?_ ⟨rfl, rfl⟩ c_sameGates0 fun _ => ?_
  · exact leL_refl _
  ((try dsimp only [awp]); (conv => whnf))
  refine And.intro (fun h => absurd rfl h) (fun _ => ?_)
  ((try dsimp only [awp]); (conv => whnf))
  refine And.intro (fun h => absurd rfl h) (fun _ => ?_)
  ((try dsimp only [awp]); (conv => whnf))
  refine LoopE.step 1 ?_
  ((try dsimp only [awp]); (conv => whnf))
  refine And.intro (fun h => absurd h (by decide)) (fun _ => ?_)
  ((try dsimp only [awp]); (conv => whnf))
  refine LoopE.step 1 ?_
  ((try dsimp only [awp]); (conv => whnf))
  refine And.intro (fun h => absurd h (by decide)) (fun _ => ?_)
  ((try dsimp only [awp]); (conv => whnf))
  (refine FinSpec.mono ?_; (conv => whnf); refine ⟨?_, rfl⟩; (conv => whnf))
  (repeat' first | exact rfl | exact trivial | exact HWk.refl rfl | exact leRL_refl _ | apply And.intro)

theorem c_Rename0 (m : Md) (hC : MdC m) (hB : MdB m) (s t : Str) (h : checkM m ≠ 0) : FnH Tryz.prog 38 [m.av, .str s, .str t] [] (.tup [zMd, .ifc 104 (.int .i64 (checkM m))]) [] := by
  have cc := c_mCheck m hC hB _ rfl
  rw [errAV_ne h] at cc
  refine FnH.intro lay mixed Tryz.func38 (by kernel_rfl) rfl (by kernel_rfl) rfl fun hok => ?_
  ((try dsimp only [argC, succC]); (try dsimp only [awp]); (conv => whnf))
  refine .pure _ _ ?_ ⟨rfl, rfl⟩ cc fun _ => ?_
  · exact leL_refl _
  ((try dsimp only [awp]); (conv => whnf))
  (refine FinSpec.mono ?_; (conv => whnf); refine ⟨?_, rfl⟩; (conv => whnf))
  (repeat' first | exact rfl | exact trivial | exact HWk.refl rfl | exact leRL_refl _ | apply And.intro)


theorem c_ModelChecks (h1c : OneC) (m : Md) (q : Ak) : FnH Tryz.prog 7 [m.av, q.av] [] (.bool true) [] := by
  obtain ⟨a, s, s2, s3⟩ := q
  have c0 := c_awake22.weak (R' := .tt) rfl
  have cl := c_LightM m _ rfl
  cases hL : lightM m with
  | false =>
    rw [hL] at cl
    have cl := cl.weak (R' := .ff) rfl
    refine FnH.intro lay mixed Tryz.func7 (by kernel_rfl) rfl (by kernel_rfl) rfl fun hok => ?_
    ((try dsimp only [argC, succC]); (try dsimp only [awp]); (conv => whnf))
    refine .pure _ _ ?_ ⟨rfl, rfl⟩ c0 fun _ => ?_
    · exact leL_refl _
    ((try dsimp only [awp]); (conv => whnf))
    refine .pure _ _ ?_ ⟨rfl, rfl⟩ cl fun _ => ?_
    · exact leL_refl _
    ((try dsimp only [awp]); (conv => whnf))
    refine .pure _ _ ?_ ⟨rfl, rfl⟩ c0 fun _ => ?_
    · exact leL_refl _
    ((try dsimp only [awp]); (conv => whnf))
    (refine FinSpec.mono ?_; (conv => whnf); refine ⟨?_, rfl⟩; (conv => whnf))
    (repeat' first | exact rfl | exact trivial | exact HWk.refl rfl | exact leRL_refl _ | apply And.intro)
  | true =>
  rw [hL] at cl
  have cl := cl.weak (R' := .tt) rfl
  obtain ⟨hB, hC⟩ := lightM_B hL
  have hX := lightM_X hL
  have cr := c_refCheck h1c m hX hB _ rfl
  have cc := c_mCheck m hC hB _ rfl
  have cN := c_Num (checkM m)
  by_cases hc : checkM m = 0
  · rw [hc] at cr cc cN
    rw [errAV_zero] at cc cN
    refine FnH.intro lay mixed Tryz.func7 (by kernel_rfl) rfl (by kernel_rfl) rfl fun hok => ?_
    ((try dsimp only [argC, succC]); (try dsimp only [awp]); (conv => whnf))
    refine .pure _ _ ?_ ⟨rfl, rfl⟩ c0 fun _ => ?_
    · exact leL_refl _
    ((try dsimp only [awp]); (conv => whnf))
    refine .pure _ _ ?_ ⟨rfl, rfl⟩ cl fun _ => ?_
    · exact leL_refl _
    ((try dsimp only [awp]); (conv => whnf))
    refine .pure _ _ ?_ ⟨rfl, rfl⟩ cr fun _ => ?_
    · exact leL_refl _
    ((try dsimp only [awp]); (conv => whnf))
    refine .pure _ _ ?_ ⟨rfl, rfl⟩ cc fun _ => ?_
    · exact leL_refl _
    ((try dsimp only [awp]); (conv => whnf))
    refine .pure _ _ ?_ ⟨rfl, rfl⟩ cN fun _ => ?_
    · exact leL_refl _
    ((try dsimp only [awp]); (conv => whnf))
    refine And.intro (fun h => absurd rfl h) (fun _ => ?_)
    ((try dsimp only [awp]); (conv => whnf))
    refine And.intro (fun _ => ?_) (fun h => absurd rfl h)
    ((try dsimp only [awp]); (conv => whnf))
    (refine FinSpec.mono ?_; (conv => whnf); refine ⟨?_, rfl⟩; (conv => whnf))
    (repeat' first | exact rfl | exact trivial | exact HWk.refl rfl | exact leRL_refl _ | apply And.intro)
  have hc : checkM m ≠ 0 := hc
  have ci := c_Input m a s hC hB _ rfl
  have cd := c_Dynamic m hC hB _ rfl
  have cu := c_Used m hC hB _ rfl
  have cR := c_Rename0 m hC hB s2 s3 hc
  rw [show inputR m a s = ((0, 0, 0), checkM m) from if_pos hc] at ci
  rw [if_neg hc] at cd cu
  dsimp only at ci
  rw [errAV_ne hc] at ci cc cN
  generalize checkM m = e at *
  refine FnH.intro lay mixed Tryz.func7 (by kernel_rfl) rfl (by kernel_rfl) rfl fun hok => ?_
  ((try dsimp only [argC, succC]); (try dsimp only [awp]); (conv => whnf))
  refine .pure _ _ ?_ ⟨rfl, rfl⟩ c0 fun _ => ?_
  · exact leL_refl _
  ((try dsimp only [awp]); (conv => whnf))
  refine .pure _ _ ?_ ⟨rfl, rfl⟩ cl fun _ => ?_
  · exact leL_refl _
  ((try dsimp only [awp]); (conv => whnf))
  refine .pure _ _ ?_ ⟨rfl, rfl⟩ cr fun _ => ?_
  · exact leL_refl _
  ((try dsimp only [awp]); (conv => whnf))
  refine .pure _ _ ?_ ⟨rfl, rfl⟩ cc fun _ => ?_
  · exact leL_refl _
  ((try dsimp only [awp]); (conv => whnf))
  refine .pure _ _ ?_ ⟨rfl, rfl⟩ cN fun _ => ?_
  · exact leL_refl _
  ((try dsimp only [awp]); (conv => whnf))
  refine And.intro (fun h => absurd rfl h) (fun _ => ?_)
  ((try dsimp only [awp]); (conv => whnf))
  refine And.intro (fun h => absurd h hc) (fun _ => ?_)
  ((try dsimp only [awp]); (conv => whnf))
  refine .pure _ _ ?_ ⟨rfl, rfl⟩ ci fun _ => ?_
  · exact leL_refl _
  ((try dsimp only [awp]); (conv => whnf))
  refine .pure _ _ ?_ ⟨rfl, rfl⟩ cd fun _ => ?_
  · exact leL_refl _
  ((try dsimp only [awp]); (conv => whnf))
  refine .pure _ _ ?_ ⟨rfl, rfl⟩ cu fun _ => ?_
  · exact leL_refl _
  ((try dsimp only [awp]); (conv => whnf))
  refine .pure _ _ ?_ ⟨rfl, rfl⟩ cR fun _ => ?_
  · exact leL_refl _
  ((try dsimp only [awp]); (conv => whnf))
  refine And.intro (fun _ => ?_) (fun h => absurd rfl h)
  ((try dsimp only [awp]); (conv => whnf))
  refine And.intro (fun _ => ?_) (fun h => absurd rfl h)
  ((try dsimp only [awp]); (conv => whnf))
  refine And.intro (fun _ => ?_) (fun h => absurd rfl h)
  ((try dsimp only [awp]); (conv => whnf))
  refine And.intro (fun _ => ?_) (fun h => absurd h (by decide))
  ((try dsimp only [awp]); (conv => whnf))
  refine And.intro (fun _ => ?_) (fun h => absurd rfl h)
  ((try dsimp only [awp]); (conv => whnf))
  refine .pure _ _ ?_ ⟨rfl, rfl⟩ c_Same0 fun _ => ?_
  · exact leL_refl _
  ((try dsimp only [awp]); (conv => whnf))
  refine .pure _ _ ?_ ⟨rfl, rfl⟩ cN fun _ => ?_
  · exact leL_refl _
  ((try dsimp only [awp]); (conv => whnf))
  refine And.intro (fun _ => ?_) (fun h => absurd rfl h)
  ((try dsimp only [awp]); (conv => whnf))
  refine .pure _ _ ?_ ⟨rfl, rfl⟩ cN fun _ => ?_
  · exact leL_refl _
  ((try dsimp only [awp]); (conv => whnf))
  refine And.intro (fun _ => ?_) (fun h => absurd rfl h)
  ((try dsimp only [awp]); (conv => whnf))
  refine .pure _ _ ?_ ⟨rfl, rfl⟩ cN fun _ => ?_
  · exact leL_refl _
  ((try dsimp only [awp]); (conv => whnf))
  refine And.intro (fun _ => ?_) (fun h => absurd rfl h)
  ((try dsimp only [awp]); (conv => whnf))
  refine .pure _ _ ?_ ⟨rfl, rfl⟩ cN fun _ => ?_
  · exact leL_refl _
  ((try dsimp only [awp]); (conv => whnf))
  (refine FinSpec.mono ?_; (conv => whnf); refine ⟨?_, rfl⟩; (conv => whnf))
  show _ ↔ _
  simp
end S

open Go Go.AL Go.Proofs
namespace S
theorem one : OneC := r_of
end S
