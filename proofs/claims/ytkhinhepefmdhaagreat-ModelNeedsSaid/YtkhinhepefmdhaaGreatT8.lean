/-
  Contracts of functions of the program, over the logic of the texts before. Nothing is assumed.
-/
import Derived.Test.YtkhinhepefmdhaaGreatT7

open Go Go.AL Go.Proofs
namespace S
set_option maxRecDepth 100000
section
variable {w : World} {Im : Nat → Nat → Prop}

theorem rd_str (s : Str) (h : s.length ≤ maxL) : Rd w Im (.str s) [.string ⟨s.toArray⟩] := by simp only [Rd]; exact ⟨trivial, h⟩
theorem rd_int {n : Int} (h : InR .i64 n) : Rd w Im (.int .i64 n) [.int .i64 n] := by simp only [Rd]; exact ⟨trivial, h⟩
theorem rd_nil (sz : Nat) : Rd w Im (.sl sz [] .no) [.slice none 0 0] := by simp only [Rd]; refine ⟨by simp [maxL], .inl ⟨?_, ?_⟩⟩ <;> first | rfl | trivial
theorem rdL_nil : RdL w Im [] [] := by simp only [RdL]
theorem rdL_cons {x : AV} {l : List AV} {c d : List Value} (h : Rd w Im x c) (g : RdL w Im l d) : RdL w Im (x :: l) (c ++ d) := by simp only [RdL]; exact ⟨c, d, rfl, h, g⟩
theorem rd_ag {l : List AV} {c : List Value} (h : RdL w Im l c) : Rd w Im (.ag l) c := by simp only [Rd]; exact h
theorem rdF_nil (sz : Nat) : RdF w Im sz [] [] := rfl
theorem rdF_cons {sz : Nat} {x : AV} {l : List AV} {c d : List Value} (h : Rd w Im x c) (hl : c.length = sz) (g : RdF w Im sz l d) : RdF w Im sz (x :: l) (c ++ d) := ⟨c, d, rfl, hl, h, g⟩

theorem rd_zq : Rd w Im zq.av [.bool false, .slice none 0 0, .slice none 0 0] :=
  rd_ag (rdL_cons (c := [_]) (by simp only [Rd]) (rdL_cons (c := [_]) (rd_nil 1) (rdL_cons (c := [_]) (rd_nil 1) rdL_nil)))

theorem rd_exA (c : UInt8) : Rd w Im (exA c).av [.string ⟨#[c]⟩, .bool false, .slice none 0 0, .slice none 0 0, .bool false, .slice none 0 0, .slice none 0 0, .bool false, .slice none 0 0, .slice none 0 0, .int .i64 0] :=
  rd_ag (rdL_cons (c := [_]) (rd_str [c] (by simp [maxL])) (rdL_cons (c := [_, _, _]) rd_zq (rdL_cons (c := [_, _, _]) rd_zq (rdL_cons (c := [_, _, _]) rd_zq (rdL_cons (c := [_]) (rd_int (n := 0) (inr64 (by decide) (by decide))) rdL_nil)))))

theorem rd_gate {name : Str} {kind : Int} {ins : List Str} {v : Value} (hn : name.length ≤ maxL) (hk : InR .i64 kind) (h : Rd w Im (sL ins) [v]) : Rd w Im (Mg.av ⟨name, kind, 0, ins, zq⟩) [.string ⟨name.toArray⟩, .int .i64 kind, .int .i64 0, v, .bool false, .slice none 0 0, .slice none 0 0] :=
  rd_ag (rdL_cons (c := [_]) (rd_str name hn) (rdL_cons (c := [_]) (rd_int hk) (rdL_cons (c := [_]) (rd_int (n := 0) (inr64 (by decide) (by decide))) (rdL_cons (c := [_]) h (rdL_cons (c := [_, _, _]) rd_zq rdL_nil)))))

theorem rd_ex {n te ts tg tp : Nat} (E1 : w.heap[n + 1]? = some (.cells exEv te)) (E2 : w.heap[n + 2]? = some (.cells exI0 ts)) (E3 : w.heap[n + 3]? = some (.cells (exG0 (n + 2)) tg))
    (E4 : w.heap[n + 4]? = some (.cells #[.string ⟨#[98]⟩, .string ⟨#[64, 112]⟩] ts)) (E5 : w.heap[n + 5]? = some (.cells (exG1 (n + 4)) tg)) (E6 : w.heap[n + 6]? = some (.cells (exP (n + 5)) tp))
    (hIm : ∀ b o, n < b → b < n + 7 → Im b o) : Rd w Im (mdE [64, 112]).av (exM (n + 1) (n + 3) (n + 6)).toList := by
  have m2 : ∀ (l : List AV), l.length ≤ 3 → l.length ≤ maxL := fun l h => by simp [maxL]; omega
  have hi0 : Rd w Im (sL [[97], [64, 112]]) [.slice (some ⟨n + 2, 0, none⟩) 2 2] := sl_rd E2 (rdF_cons (c := [_]) (rd_str [97] (by simp [maxL])) rfl (rdF_cons (c := [_]) (rd_str [64, 112] (by simp [maxL])) rfl (rdF_nil 1))) (fun o => hIm _ o (by omega) (by omega)) (m2 _ (by simp))
  have hi1 : Rd w Im (sL [[98], [64, 112]]) [.slice (some ⟨n + 4, 0, none⟩) 2 2] := sl_rd E4 (rdF_cons (c := [_]) (rd_str [98] (by simp [maxL])) rfl (rdF_cons (c := [_]) (rd_str [64, 112] (by simp [maxL])) rfl (rdF_nil 1))) (fun o => hIm _ o (by omega) (by omega)) (m2 _ (by simp))
  have hg0 : Rd w Im (gL [⟨[103], 0, 0, [[97], [64, 112]], zq⟩]) [.slice (some ⟨n + 3, 0, none⟩) 1 1] := sl_rd E3 (rdF_cons (c := [_, _, _, _, _, _, _]) (rd_gate (kind := 0) (by simp [maxL]) (inr64 (by decide) (by decide)) hi0) rfl (rdF_nil 7)) (fun o => hIm _ o (by omega) (by omega)) (m2 _ (by simp))
  have hg1 : Rd w Im (gL [⟨[104], 1, 0, [[98], [64, 112]], zq⟩]) [.slice (some ⟨n + 5, 0, none⟩) 1 1] := sl_rd E5 (rdF_cons (c := [_, _, _, _, _, _, _]) (rd_gate (kind := 1) (by simp [maxL]) (inr64 (by decide) (by decide)) hi1) rfl (rdF_nil 7)) (fun o => hIm _ o (by omega) (by omega)) (m2 _ (by simp))
  have hp : Rd w Im (.sl 3 [Pg.av ⟨[112], [104], [⟨[104], 1, 0, [[98], [64, 112]], zq⟩]⟩] .no) [.slice (some ⟨n + 6, 0, none⟩) 1 1] :=
    sl_rd E6 (rdF_cons (c := [_, _, _]) (rd_ag (rdL_cons (c := [_]) (rd_str [112] (by simp [maxL])) (rdL_cons (c := [_]) (rd_str [104] (by simp [maxL])) (rdL_cons (c := [_]) hg1 rdL_nil)))) rfl (rdF_nil 3)) (fun o => hIm _ o (by omega) (by omega)) (m2 _ (by simp))
  have he : Rd w Im (.sl 11 [(exA 97).av, (exA 98).av, (exA 99).av] .no) [.slice (some ⟨n + 1, 0, none⟩) 3 3] :=
    sl_rd E1 (rdF_cons (c := [_, _, _, _, _, _, _, _, _, _, _]) (rd_exA 97) rfl (rdF_cons (c := [_, _, _, _, _, _, _, _, _, _, _]) (rd_exA 98) rfl (rdF_cons (c := [_, _, _, _, _, _, _, _, _, _, _]) (rd_exA 99) rfl (rdF_nil 11)))) (fun o => hIm _ o (by omega) (by omega)) (m2 _ (by simp))
  exact rd_ag (rdL_cons (c := [_]) (rd_str [109] (by simp [maxL])) (rdL_cons (c := [_]) (rd_str [103] (by simp [maxL])) (rdL_cons (c := [_]) he (rdL_cons (c := [_]) (rd_nil 2) (rdL_cons (c := [_]) hg0 (rdL_cons (c := [_]) hp (rdL_cons (c := [_]) (rd_nil 4) (rdL_cons (c := [_]) (rd_nil 3) rdL_nil))))))))
end
end S

open Go Go.AL Go.Proofs
namespace S
set_option maxRecDepth 100000

theorem c_awake22 : FnH Tryz.prog 30 [] [] (.bool true) [] := by
  obtain ⟨hB, hC⟩ := lightM_B (ex_light [99])
  obtain ⟨hB2, hC2⟩ := lightM_B (ex_light [64, 112])
  have ci := c_Input (mdE [99]) (-1) [64, 112] hC hB _ rfl
  rw [ex_input, errAV_zero] at ci
  have cu := c_Used (mdE [99]) hC hB _ rfl
  rw [if_pos ex_check, ex_used] at cu
  have cc := c_mCheck (mdE [64, 112]) hC2 hB2 _ rfl
  rw [ex_cycle, errAV_ne (by decide)] at cc
  have cis := (c_Is 14 14).weak (R' := .tt) (by show decide _ = true; decide)
  rw [errAV_ne (by decide)] at cis
  refine ⟨⟨Tryz.f30, Tryz.func30, by kernel_rfl, by kernel_rfl⟩, fun c vs hr hv => ?_⟩
  obtain rfl : vs = [] := hv
  refine calls_of_wp Tryz.func30 rfl ?_
  have ha0 : AOk 57 c [] { tmps := [].toArray ++ Array.replicate (57 - 0) undef, defers := [] } := ⟨fun t A h => by simp [eget] at h, rfl, by simp⟩
  refine seq_step (n := 57) lay mixed (by kernel_rfl) hr ha0 ?_
  (conv => whnf)
  refine ⟨rfl, fun c1 a1 tr1 ha1 => ?_⟩
  refine seq_step (n := 57) lay mixed (by kernel_rfl) tr1.hr ha1 ?_
  (conv => whnf)
  refine .pure _ _ ?_ ⟨rfl, rfl⟩ c_Example22 fun _ => ?_
  · exact leL_refl _
  (conv => whnf)
  refine .pure _ _ ?_ ⟨rfl, rfl⟩ ci fun _ => ?_
  · exact leL_refl _
  (conv => whnf)
  refine ⟨rfl, fun c2 a2 tr2 ha2 => ?_⟩
  refine seq_step (n := 57) lay mixed (by kernel_rfl) tr2.hr ha2 ?_
  (conv => whnf)
  refine .pure _ _ ?_ ⟨rfl, rfl⟩ c_Example22 fun _ => ?_
  · exact leL_refl _
  (conv => whnf)
  refine .pure _ _ ?_ ⟨rfl, rfl⟩ cu fun _ => ?_
  · exact leL_refl _
  (conv => whnf)
  refine ⟨rfl, fun c3 a3 tr3 ha3 => ?_⟩
  have hsz := ha3.size
  have v1 := (EV_int (ha3.env 1 _ rfl)).1
  have v2 := (EV_int (ha3.env 2 _ rfl)).1
  have v3 := (EV_int (ha3.env 3 _ rfl)).1
  have v5 := (EV_int (ha3.env 5 _ rfl)).1
  have v4 := EV_nilI (ha3.env 4 _ rfl)
  have v6 := EV_nilI (ha3.env 6 _ rfl)
  have hdf := ha3.defers
  have tr := tr1.trans (tr2.trans tr3)
  clear ha0 ha1 ha2 ha3 tr1 tr2 tr3
  obtain ⟨iM, tM, dM, zM⟩ : ∃ i, TIOk Tryz.prog 69 i ∧ (∃ fs, i.desc = .struct fs) ∧ i.zero = .ag [.str [], .str [], .nils, .nils, .nils, .nils, .nils, .nils] := Lay.getC_ok lay (k := fun i => (∃ fs, i.desc = .struct fs) ∧ i.zero = .ag [.str [], .str [], .nils, .nils, .nils, .nils, .nils, .nils]) (by (conv => whnf); exact ⟨⟨_, rfl⟩, rfl⟩)
  obtain ⟨iP, tP, dP, zP⟩ : ∃ i, TIOk Tryz.prog 126 i ∧ (∃ fs, i.desc = .struct fs) ∧ i.zero = .ag [.str [], .str [], .nils] := Lay.getC_ok lay (k := fun i => (∃ fs, i.desc = .struct fs) ∧ i.zero = .ag [.str [], .str [], .nils]) (by (conv => whnf); exact ⟨⟨_, rfl⟩, rfl⟩)
  obtain ⟨iG, tG, dG, zG⟩ : ∃ i, TIOk Tryz.prog 124 i ∧ (∃ fs, i.desc = .struct fs) ∧ i.zero = .ag [.str [], .int .i64 0, .int .i64 0, .nils, .ag [.ff, .nils, .nils]] := Lay.getC_ok lay (k := fun i => (∃ fs, i.desc = .struct fs) ∧ i.zero = .ag [.str [], .int .i64 0, .int .i64 0, .nils, .ag [.ff, .nils, .nils]]) (by (conv => whnf); exact ⟨⟨_, rfl⟩, rfl⟩)
  obtain ⟨iS, tS, zS⟩ : ∃ i, TIOk Tryz.prog 9 i ∧ i.zero = .str [] := Lay.getC_ok lay (k := fun i => i.zero = .str []) (by (conv => whnf))
  obtain ⟨iLP, tLP, zLP⟩ : ∃ i, TIOk Tryz.prog 65 i ∧ i.zero = .nils := Lay.getC_ok lay (k := fun i => i.zero = .nils) (by (conv => whnf))
  obtain ⟨iLG, tLG, zLG⟩ : ∃ i, TIOk Tryz.prog 64 i ∧ i.zero = .nils := Lay.getC_ok lay (k := fun i => i.zero = .nils) (by (conv => whnf))
  obtain ⟨iLS, tLS, zLS⟩ : ∃ i, TIOk Tryz.prog 122 i ∧ i.zero = .nils := Lay.getC_ok lay (k := fun i => i.zero = .nils) (by (conv => whnf))
  refine wp_seq (wp_region_list ?_)
  refine wpl_call 68 #[] rfl (by kernel_rfl) (raw_Ex c3.w _ fun wE hE => ⟨_, rfl, ?_⟩)
  refine wpl_alloc (.pointer (some ⟨wE.heap.size, 0, none⟩)) (.cells #[.string ⟨#[]⟩, .string ⟨#[]⟩, .slice none 0 0, .slice none 0 0, .slice none 0 0, .slice none 0 0, .slice none 0 0, .slice none 0 0] 69) rfl (by kernel_rfl) fun w9 x9 s9 n9 => ?_
  generalize hn : c3.w.heap.size = n at *
  have hst := run_storeVar (v := .agg (exM (n + 1) (n + 3) (n + 6))) (off := 0) tM (by rw [zM]; kernel_rfl) n9 (by show 0 + 8 ≤ 8; omega) (by
    intro u hu
    simp only [Value.cells, exM] at hu
    simp only [List.mem_cons, List.not_mem_nil, or_false] at hu
    rcases hu with rfl | rfl | rfl | rfl | rfl | rfl | rfl | rfl <;> rfl)
  refine wpl_skip _ rfl (run_store' rfl (eval_put (by rw [put_size, hsz]; omega)) (by rw [eval_put_ne (by decide), eval_put (by rw [hsz]; omega)]) hst) ?_
  have hrow : (w9.setRow wE.heap.size ((#[.string ⟨#[]⟩, .string ⟨#[]⟩, .slice none 0 0, .slice none 0 0, .slice none 0 0, .slice none 0 0, .slice none 0 0, .slice none 0 0] : Array Value).toList.take 0 ++ (Value.agg (exM (n + 1) (n + 3) (n + 6))).cells.toList ++ (#[.string ⟨#[]⟩, .string ⟨#[]⟩, .slice none 0 0, .slice none 0 0, .slice none 0 0, .slice none 0 0, .slice none 0 0, .slice none 0 0] : Array Value).toList.drop (0 + (Value.agg (exM (n + 1) (n + 3) (n + 6))).cells.size)).toArray) = w9.setRow wE.heap.size (exM (n + 1) (n + 3) (n + 6)) := rfl
  rw [hrow]
  clear hrow hst
  have hb := setRow_heap w9 wE.heap.size _ (exM (n + 1) (n + 3) (n + 6)) _ _ n9
  have ho : ∀ b, b ≠ wE.heap.size → (w9.setRow wE.heap.size (exM (n + 1) (n + 3) (n + 6))).heap[b]? = w9.heap[b]? := fun b hb => setRow_other _ _ _ _ hb
  have hx := setRow_ext (cs := exM (n + 1) (n + 3) (n + 6)) x9 (Nat.le_refl wE.heap.size)
  have hsz10 : (w9.setRow wE.heap.size (exM (n + 1) (n + 3) (n + 6))).heap.size = w9.heap.size := setRow_size _ _ _
  generalize w9.setRow wE.heap.size (exM (n + 1) (n + 3) (n + 6)) = w10 at *
  obtain ⟨xE, sE, E1, E2, E3, E4, E5, E6⟩ := hE
  rw [hn] at sE E1 E2 E3 E4 E5 E6
  have F : ∀ b ob, b < n + 7 → wE.heap[b]? = some ob → w10.heap[b]? = some ob := fun b ob h1 h2 => by rw [hx.old b (by omega)]; exact h2
  have E1 := F _ _ (by omega) E1
  have E2 := F _ _ (by omega) E2
  have E3 := F _ _ (by omega) E3
  have E4 := F _ _ (by omega) E4
  have E5 := F _ _ (by omega) E5
  have E6 := F _ _ (by omega) E6
  have X10 : Ext c3.w w10 := xE.trans hx
  rw [sE] at hb
  generalize hA : ((a3.put (some 20) (.agg (exM (n + 1) (n + 3) (n + 6)))).put (some 7) (.pointer (some ⟨wE.heap.size, 0, none⟩))).put none undef = a10
  have z10 : a10.tmps.size = 57 := by rw [← hA, put_size, put_size, put_size, hsz]
  have f10 : a10.defers = [] := by rw [← hA, put_defers, put_defers, put_defers, hdf]
  have e7 : a10.eval (.tmp 7) = .pointer (some ⟨n + 7, 0, none⟩) := by rw [← hA, ← sE]; exact eval_put (by rw [put_size, hsz]; omega)
  have ek : ∀ t : Nat, t < 7 → a10.eval (.tmp t) = a3.tmps.getD t undef := fun t ht => by
    rw [← hA]
    show ((a3.put (some 20) _).put (some 7) _).eval (.tmp t) = _
    rw [eval_put_ne (show 7 ≠ t by omega), eval_put_ne (show 20 ≠ t by omega)]; rfl
  have ek1 := (ek 1 (by decide)).trans v1
  have ek2 := (ek 2 (by decide)).trans v2
  have ek3 := (ek 3 (by decide)).trans v3
  have ek4 := (ek 4 (by decide)).trans v4
  have ek5 := (ek 5 (by decide)).trans v5
  have ek6 := (ek 6 (by decide)).trans v6
  have hsz10 : w10.heap.size = n + 8 := by omega
  clear hA ek v1 v2 v3 v4 v5 v6 F xE hx x9 n9 ho
  refine (wp_seq (wp_region_list ?_) : Code.wp _ _ _ _ _)
  refine wpl_valA 21 _ _ rfl rfl (by rw [z10]; omega) (exec_field (off' := 5) rfl rfl tM dM zM rfl rfl e7) fun b1 p1 => ?_
  have q1 := p1.size.trans z10
  refine wpl_valA 22 _ _ rfl rfl (by rw [q1]; omega) (exec_load rfl tLP (by rw [zLP]; rfl) p1.new (v := .slice (some ⟨n + 6, 0, none⟩) 1 1) (by rw [cell_of_heap hb]; rfl)) fun b2 p2 => ?_
  have q2 := p2.size.trans q1
  refine wpl_valA 23 _ _ rfl rfl (by rw [q2]; omega) (exec_index (off' := 0) (by rw [zP]; rfl) rfl (by kernel_rfl) tP p2.new (kd := .i64) (n := 0) rfl (by omega) (by decide)) fun b3 p3 => ?_
  have q3 := p3.size.trans q2
  refine wpl_valA 24 _ _ rfl rfl (by rw [q3]; omega) (exec_field (off' := 2) rfl rfl tP dP zP rfl rfl p3.new) fun b4 p4 => ?_
  have q4 := p4.size.trans q3
  refine wpl_valA 25 _ _ rfl rfl (by rw [q4]; omega) (exec_load rfl tLG (by rw [zLG]; rfl) p4.new (v := .slice (some ⟨n + 5, 0, none⟩) 1 1) (by rw [cell_of_heap E6]; rfl)) fun b5 p5 => ?_
  have q5 := p5.size.trans q4
  refine wpl_valA 26 _ _ rfl rfl (by rw [q5]; omega) (exec_index (off' := 0) (by rw [zG]; rfl) rfl (by kernel_rfl) tG p5.new (kd := .i64) (n := 0) rfl (by omega) (by decide)) fun b6 p6 => ?_
  have q6 := p6.size.trans q5
  refine wpl_valA 27 _ _ rfl rfl (by rw [q6]; omega) (exec_field (off' := 3) rfl rfl tG dG zG rfl rfl p6.new) fun b7 p7 => ?_
  have q7 := p7.size.trans q6
  refine wpl_valA 28 _ _ rfl rfl (by rw [q7]; omega) (exec_load rfl tLS (by rw [zLS]; rfl) p7.new (v := .slice (some ⟨n + 4, 0, none⟩) 2 2) (by rw [cell_of_heap E5]; rfl)) fun b8 p8 => ?_
  have q8 := p8.size.trans q7
  refine wpl_valA 29 _ _ rfl rfl (by rw [q8]; omega) (exec_index (off' := 1) (by rw [zS]; rfl) rfl (by kernel_rfl) tS p8.new (kd := .i64) (n := 1) rfl (by omega) (by decide)) fun a11 p9 => ?_
  have z11 := p9.size.trans q8
  have hst := run_storeVar (P := Tryz.prog) (w := w10) (v := .string ⟨#[64, 112]⟩) (off := 1) tS (by rw [zS]; rfl) E4 (by show 1 + 1 ≤ 2; omega) (by
    intro u hu
    simp only [Value.cells, List.mem_cons, List.not_mem_nil, or_false] at hu
    subst hu; rfl)
  refine wpl_skip _ rfl (run_store' rfl p9.new rfl hst) ?_
  have hrow : (w10.setRow (n + 4) (exI1.toList.take 1 ++ (Value.string ⟨#[64, 112]⟩).cells.toList ++ exI1.toList.drop (1 + (Value.string ⟨#[64, 112]⟩).cells.size)).toArray) = w10.setRow (n + 4) #[.string ⟨#[98]⟩, .string ⟨#[64, 112]⟩] := rfl
  rw [hrow]
  clear hrow hst
  have hb4 := setRow_heap w10 (n + 4) _ #[.string ⟨#[98]⟩, .string ⟨#[64, 112]⟩] _ _ E4
  have ho : ∀ b, b ≠ n + 4 → (w10.setRow (n + 4) #[.string ⟨#[98]⟩, .string ⟨#[64, 112]⟩]).heap[b]? = w10.heap[b]? := fun b hb => setRow_other _ _ _ _ hb
  have hx := setRow_ext (cs := #[.string ⟨#[98]⟩, .string ⟨#[64, 112]⟩]) X10 (show c3.w.heap.size ≤ n + 4 by omega)
  have hsz11 : (w10.setRow (n + 4) #[.string ⟨#[98]⟩, .string ⟨#[64, 112]⟩]).heap.size = w10.heap.size := setRow_size _ _ _
  generalize w10.setRow (n + 4) #[.string ⟨#[98]⟩, .string ⟨#[64, 112]⟩] = w11 at *
  have hb := (ho (n + 7) (by omega)).trans hb
  have E1 := (ho (n + 1) (by omega)).trans E1
  have E2 := (ho (n + 2) (by omega)).trans E2
  have E3 := (ho (n + 3) (by omega)).trans E3
  have E5 := (ho (n + 5) (by omega)).trans E5
  have E6 := (ho (n + 6) (by omega)).trans E6
  have f11 : a11.defers = [] := p9.defers.trans (p8.defers.trans (p7.defers.trans (p6.defers.trans (p5.defers.trans (p4.defers.trans (p3.defers.trans (p2.defers.trans (p1.defers.trans f10))))))))
  have ek : ∀ t : Nat, t < 20 → a11.eval (.tmp t) = a10.eval (.tmp t) := fun t ht => by
    rw [p9.old t (by omega), p8.old t (by omega), p7.old t (by omega), p6.old t (by omega), p5.old t (by omega), p4.old t (by omega), p3.old t (by omega), p2.old t (by omega), p1.old t (by omega)]
  have ek1 := (ek 1 (by decide)).trans ek1
  have ek2 := (ek 2 (by decide)).trans ek2
  have ek3 := (ek 3 (by decide)).trans ek3
  have ek4 := (ek 4 (by decide)).trans ek4
  have ek5 := (ek 5 (by decide)).trans ek5
  have ek6 := (ek 6 (by decide)).trans ek6
  have e7 := (ek 7 (by decide)).trans e7
  have hsz12 : w11.heap.size = n + 8 := by omega
  clear p1 p2 p3 p4 p5 p6 p7 p8 p9 q1 q2 q3 q4 q5 q6 q7 q8 ek hsz11 hsz10 hsz z10 f10 E4 ho tM dM zM tP dP zP tG dG zG tS zS tLP zLP tLG zLG tLS zLS
  have hnx : c3.nx = 0 := tr.hr.nx
  have htp3 : c3.tp = tpOf [] := tr.hr.tp
  let d : Cx := { c3 with w := w11, Im := fun b o => c3.Im b o ∨ (n < b ∧ b < n + 7), ρ := fun k => if k = 0 then n + 7 else c3.ρ k, nx := 1, tp := tpOf [(0, .box (mdE [64, 112]).av)] }
  have hRd : Rd w11 d.Im (mdE [64, 112]).av (exM (n + 1) (n + 3) (n + 6)).toList := rd_ex E1 E2 E3 hb4 E5 E6 fun b o h1 h2 => .inr ⟨h1, h2⟩
  have hcell : ∀ b o, c3.Im b o → w11.cell? ⟨b, o, none⟩ = c3.w.cell? ⟨b, o, none⟩ := fun b o h => cell_same (hx.old b (tr.hr.im b o h))
  have hle : c3.Le d := ⟨fun b o h => ⟨.inl h, hcell b o h⟩, by rw [hnx]; exact Nat.zero_le _, fun k hk => by rw [hnx] at hk; omega, fun k m hk _ => by rw [hnx] at hk; omega⟩
  have TR : Tr c3 [] d [(0, .box (mdE [64, 112]).av)] := by
    refine ⟨⟨rfl, rfl, ⟨by simp, trivial⟩, ?_, ?_, by simp⟩, hle, hx.os, hx.tape, hx.output, hx.size, fun b hb _ => hx.old b hb, ?_, ?_⟩
    · rintro b o (h | h)
      · have := tr.hr.im b o h
        show b < w11.heap.size
        omega
      · show b < w11.heap.size
        omega
    · intro x hx
      obtain rfl : x = (0, .box (mdE [64, 112]).av) := by simpa using hx
      refine ⟨(exM (n + 1) (n + 3) (n + 6)).toList, 69, ?_, VR_of_Rd (c := d) _ _ hRd, ?_⟩
      · show w11.heap[n + 7]? = _
        rw [Array.toArray_toList]
        exact hb
      · rintro o (h | h)
        · have := tr.hr.im _ o h
          have : n + 7 < c3.w.heap.size := this
          omega
        · have h2 : n + 7 < n + 7 := h.2
          omega
    · intro y hy b hb
      obtain rfl : y = (0, .box (mdE [64, 112]).av) := by simpa using hy
      have hb : n + 7 = b := by simpa [blkOf, d] using hb
      exact .inl (by omega)
    · rintro b o (h | h)
      · exact .inl h
      · exact .inr (.inl (by omega))
  have AOK : AOk 57 d [(7, .ptr 0 [] 0), (1, .int .i64 2), (2, .int .i64 0), (3, .int .i64 0), (4, .nilI), (5, .int .i64 7), (6, .nilI)] a11 := by
    refine ⟨fun t A hA => ?_, f11, z11⟩
    have hm := eget_mem hA
    simp only [List.mem_cons, List.not_mem_nil, or_false, Prod.mk.injEq] at hm
    rcases hm with ⟨rfl, rfl⟩ | ⟨rfl, rfl⟩ | ⟨rfl, rfl⟩ | ⟨rfl, rfl⟩ | ⟨rfl, rfl⟩ | ⟨rfl, rfl⟩ | ⟨rfl, rfl⟩
    · show EV d _ (a11.eval (.tmp 7))
      rw [e7]; exact EV_VV (VV_ptr_mk (c := d) (i := 0) (by show 0 < 1; omega))
    · show EV d _ (a11.eval (.tmp 1))
      rw [ek1]; exact EV_VV (VV_int_mk (inr64 (by decide) (by decide)))
    · show EV d _ (a11.eval (.tmp 2))
      rw [ek2]; exact EV_VV (VV_int_mk (inr64 (by decide) (by decide)))
    · show EV d _ (a11.eval (.tmp 3))
      rw [ek3]; exact EV_VV (VV_int_mk (inr64 (by decide) (by decide)))
    · show EV d _ (a11.eval (.tmp 4))
      rw [ek4]; exact EV_VV (VV_mk rfl rfl (by simp only [VR, Rd]))
    · show EV d _ (a11.eval (.tmp 5))
      rw [ek5]; exact EV_VV (VV_int_mk (inr64 (by decide) (by decide)))
    · show EV d _ (a11.eval (.tmp 6))
      rw [ek6]; exact EV_VV (VV_mk rfl rfl (by simp only [VR, Rd]))
  refine (wp_mono (awp_sound lay mixed (fun _ _ _ _ _ h => h) (n := 57) _ (Fin L (Tryz.f30).results.toList [] (.bool true) []) _ _ d _ (by kernel_rfl) TR.hr AOK ?_) ?_ : Code.wp _ _ _ _ _)
  · ((try dsimp only [awp]); (conv => whnf))
    refine And.intro (fun _ => ?_) (fun h => absurd rfl h)
    ((try dsimp only [awp]); (conv => whnf))
    refine And.intro (fun _ => ?_) (fun h => absurd rfl h)
    ((try dsimp only [awp]); (conv => whnf))
    refine And.intro (fun _ => ?_) (fun h => absurd rfl h)
    ((try dsimp only [awp]); (conv => whnf))
    refine And.intro (fun _ => ?_) (fun h => absurd rfl h)
    ((try dsimp only [awp]); (conv => whnf))
    refine .pure _ _ ?_ ⟨rfl, rfl⟩ cc fun _ => ?_
    · exact leL_refl _
    ((try dsimp only [awp]); (conv => whnf))
    refine .pure _ _ ?_ ⟨rfl, rfl⟩ cis fun _ => ?_
    · exact leL_refl _
    ((try dsimp only [awp]); (conv => whnf))
    (refine FinSpec.mono ?_; (conv => whnf); refine ⟨?_, rfl⟩; (conv => whnf))
    (repeat' first | exact rfl | exact trivial | exact HWk.refl rfl | exact leRL_refl _ | apply And.intro)
  · rintro ex a w ⟨x, e, H1, c1, rfl, hq, rfl, htr, ha1, _⟩
    have TR2 := (tr.trans TR).trans htr
    cases x with
    | normal => exact fin_of (fn := Tryz.f30) lay hr TR2 ha1 hq
    | ret => exact fin_of (fn := Tryz.f30) lay hr TR2 ha1 hq
    | exit i => exact hq.elim
end S

open Go Go.AL Go.Proofs
namespace S

theorem list_of {α : Type} {f : α → AV} : ∀ {l : List AV}, (∀ x ∈ l, ∃ y, x = f y) → ∃ m : List α, l = m.map f
  | [], _ => ⟨[], rfl⟩
  | x :: l, h => by
    obtain ⟨y, rfl⟩ := h x (by simp)
    obtain ⟨m, rfl⟩ := list_of (l := l) fun z hz => h z (by simp [hz])
    exact ⟨y :: m, rfl⟩

theorem ints_of {sz : Nat} {k : IntKind} {A : AV} (h : (Sh.sl sz (.int k)).In A) : ∃ l : List Int, A = .sl sz (l.map (.int k)) .no := by
  simp only [Sh.In] at h
  obtain ⟨l, rfl, hl⟩ := h
  obtain ⟨m, rfl⟩ := list_of hl
  exact ⟨m, rfl⟩

abbrev shRat : Sh := .st [.bool, .sl 1 (.int .u32), .sl 1 (.int .u32)]
theorem Rat.of {A : AV} (h : shRat.In A) : ∃ r : Rat, A = r.av := by
  simp only [Sh.In, InL] at h
  obtain ⟨_, rfl, _, _, rfl, ⟨b, rfl⟩, _, _, rfl, h1, _, _, rfl, h2, rfl⟩ := h
  obtain ⟨n, rfl⟩ := ints_of (sz := 1) (k := .u32) (by simp only [Sh.In]; exact h1)
  obtain ⟨d, rfl⟩ := ints_of (sz := 1) (k := .u32) (by simp only [Sh.In]; exact h2)
  exact ⟨⟨b, n, d⟩, rfl⟩

theorem rats_of {A : AV} (h : (Sh.sl 3 shRat).In A) : ∃ l : List Rat, A = .sl 3 (l.map Rat.av) .no := by
  unfold Sh.In at h
  obtain ⟨l, rfl, hl⟩ := h
  obtain ⟨m, rfl⟩ := list_of fun x hx => Rat.of (hl x hx)
  exact ⟨m, rfl⟩

theorem int_of {k : IntKind} {A : AV} (h : (Sh.int k).In A) : ∃ n : Int, A = .int k n := by
  simpa only [Sh.In] using h

theorem str_of {A : AV} (h : Sh.str.In A) : ∃ s : List UInt8, A = .str s := by
  simpa only [Sh.In] using h
end S

open Go Go.AL Go.Proofs
namespace S
set_option maxRecDepth 100000

theorem sl_of {α : Type} {f : α → AV} {sh : Sh} {sz : Nat} {A : AV} (hf : ∀ x, sh.In x → ∃ y, x = f y) (h : (Sh.sl sz sh).In A) : ∃ l : List α, A = .sl sz (l.map f) .no := by
  unfold Sh.In at h
  obtain ⟨l, rfl, hl⟩ := h
  obtain ⟨m, rfl⟩ := list_of fun x hx => hf x (hl x hx)
  exact ⟨m, rfl⟩

abbrev shEv : Sh := .st [.str, shRat, shRat, shRat, .int .i64]
abbrev shHs : Sh := .st [.str, .bool]
abbrev shMg : Sh := .st [.str, .int .i64, .int .i64, .sl 1 .str, shRat]
abbrev shPg : Sh := .st [.str, .str, .sl 7 shMg]
abbrev shGr : Sh := .st [.str, .int .i64, .sl 1 .str, .sl 3 shRat]
abbrev shPv : Sh := .st [.str, shRat]
abbrev shPh : Sh := .st [.str, .str, .sl 4 shPv]
abbrev shMd : Sh := .st [.str, .str, .sl 11 shEv, .sl 2 shHs, .sl 7 shMg, .sl 3 shPg, .sl 4 shGr, .sl 3 shPh]

theorem strs_of {A : AV} (h : (Sh.sl 1 .str).In A) : ∃ l : List Str, A = sL l := sl_of (f := AV.str) (fun _ hx => str_of hx) h

theorem Ev.of {A : AV} (h : shEv.In A) : ∃ x : Ev, A = x.av := by
  unfold Sh.In at h
  simp only [InL] at h
  obtain ⟨_, rfl, _, _, rfl, h0, _, _, rfl, h1, _, _, rfl, h2, _, _, rfl, h3, _, _, rfl, h4, rfl⟩ := h
  obtain ⟨a, rfl⟩ := str_of h0
  obtain ⟨b, rfl⟩ := Rat.of h1
  obtain ⟨c, rfl⟩ := Rat.of h2
  obtain ⟨d, rfl⟩ := Rat.of h3
  obtain ⟨e, rfl⟩ := int_of h4
  exact ⟨⟨a, b, c, d, e⟩, rfl⟩

theorem Hs.of {A : AV} (h : shHs.In A) : ∃ x : Hs, A = x.av := by
  unfold Sh.In at h
  simp only [InL] at h
  obtain ⟨_, rfl, _, _, rfl, h0, _, _, rfl, h1, rfl⟩ := h
  obtain ⟨a, rfl⟩ := str_of h0
  simp only [Sh.In] at h1
  obtain ⟨b, rfl⟩ := h1
  exact ⟨⟨a, b⟩, rfl⟩

theorem Mg.of {A : AV} (h : shMg.In A) : ∃ x : Mg, A = x.av := by
  unfold Sh.In at h
  simp only [InL] at h
  obtain ⟨_, rfl, _, _, rfl, h0, _, _, rfl, h1, _, _, rfl, h2, _, _, rfl, h3, _, _, rfl, h4, rfl⟩ := h
  obtain ⟨a, rfl⟩ := str_of h0
  obtain ⟨b, rfl⟩ := int_of h1
  obtain ⟨c, rfl⟩ := int_of h2
  obtain ⟨d, rfl⟩ := strs_of h3
  obtain ⟨e, rfl⟩ := Rat.of h4
  exact ⟨⟨a, b, c, d, e⟩, rfl⟩

theorem Pg.of {A : AV} (h : shPg.In A) : ∃ x : Pg, A = x.av := by
  unfold Sh.In at h
  simp only [InL] at h
  obtain ⟨_, rfl, _, _, rfl, h0, _, _, rfl, h1, _, _, rfl, h2, rfl⟩ := h
  obtain ⟨a, rfl⟩ := str_of h0
  obtain ⟨b, rfl⟩ := str_of h1
  obtain ⟨c, rfl⟩ := sl_of (f := Mg.av) (fun _ hx => Mg.of hx) h2
  exact ⟨⟨a, b, c⟩, rfl⟩

theorem Gr.of {A : AV} (h : shGr.In A) : ∃ x : Gr, A = x.av := by
  unfold Sh.In at h
  simp only [InL] at h
  obtain ⟨_, rfl, _, _, rfl, h0, _, _, rfl, h1, _, _, rfl, h2, _, _, rfl, h3, rfl⟩ := h
  obtain ⟨a, rfl⟩ := str_of h0
  obtain ⟨b, rfl⟩ := int_of h1
  obtain ⟨c, rfl⟩ := strs_of h2
  obtain ⟨d, rfl⟩ := rats_of h3
  exact ⟨⟨a, b, c, d⟩, rfl⟩

theorem Pv.of {A : AV} (h : shPv.In A) : ∃ x : Pv, A = x.av := by
  unfold Sh.In at h
  simp only [InL] at h
  obtain ⟨_, rfl, _, _, rfl, h0, _, _, rfl, h1, rfl⟩ := h
  obtain ⟨a, rfl⟩ := str_of h0
  obtain ⟨b, rfl⟩ := Rat.of h1
  exact ⟨⟨a, b⟩, rfl⟩

theorem Ph.of {A : AV} (h : shPh.In A) : ∃ x : Ph, A = x.av := by
  unfold Sh.In at h
  simp only [InL] at h
  obtain ⟨_, rfl, _, _, rfl, h0, _, _, rfl, h1, _, _, rfl, h2, rfl⟩ := h
  obtain ⟨a, rfl⟩ := str_of h0
  obtain ⟨b, rfl⟩ := str_of h1
  obtain ⟨c, rfl⟩ := sl_of (f := Pv.av) (fun _ hx => Pv.of hx) h2
  exact ⟨⟨a, b, c⟩, rfl⟩

theorem Md.of {A : AV} (h : shMd.In A) : ∃ x : Md, A = x.av := by
  unfold Sh.In at h
  simp only [InL] at h
  obtain ⟨_, rfl, _, _, rfl, h0, _, _, rfl, h1, _, _, rfl, h2, _, _, rfl, h3, _, _, rfl, h4, _, _, rfl, h5, _, _, rfl, h6, _, _, rfl, h7, rfl⟩ := h
  obtain ⟨a, rfl⟩ := str_of h0
  obtain ⟨b, rfl⟩ := str_of h1
  obtain ⟨c, rfl⟩ := sl_of (f := Ev.av) (fun _ hx => Ev.of hx) h2
  obtain ⟨d, rfl⟩ := sl_of (f := Hs.av) (fun _ hx => Hs.of hx) h3
  obtain ⟨e, rfl⟩ := sl_of (f := Mg.av) (fun _ hx => Mg.of hx) h4
  obtain ⟨f, rfl⟩ := sl_of (f := Pg.av) (fun _ hx => Pg.of hx) h5
  obtain ⟨g, rfl⟩ := sl_of (f := Gr.av) (fun _ hx => Gr.of hx) h6
  obtain ⟨i, rfl⟩ := sl_of (f := Ph.av) (fun _ hx => Ph.of hx) h7
  exact ⟨⟨a, b, c, d, e, f, g, i⟩, rfl⟩
end S

open Go Go.AL Go.Proofs
namespace S
set_option maxRecDepth 100000

structure Ak where
  page : Int
  inp : Str
  old : Str
  new : Str

theorem MOk.noAt {m : Md} (h : MOk m) : ∀ p : Int, 0 ≤ p → p < (m.pages.length : Int) → atS (pageTop m p) = false := top_noAt h.evs h.gates h.ins

theorem okN_nonneg {m : Md} {x : Node} (h : okN m x) : 0 ≤ x.1 := by
  rcases h with h | h | h
  · omega
  · omega
  · have := (mem_all.1 h).1; omega

theorem findX_in {m : Md} (hM : MOk m) {a : Int} (ha : a = -1 ∨ (0 ≤ a ∧ a < (m.pages.length : Int))) {s : Str} (hs : isInR m a s = true) : findX m a s = resR m a s ∧ 0 ≤ (findX m a s).1 := by
  have hi := hM.inOk ha hs
  have e := find_res hi.ok hi.pg
  rw [e]
  exact ⟨rfl, okN_nonneg hi.ok⟩

end S

open Go Go.AL Go.Proofs
namespace S
set_option maxRecDepth 100000

def markB (d : List Bool) (i : Nat) (k : Int) : List Bool := d.set k.toNat (d.getD k.toNat false || d.getD i false)
def marksB (i : Nat) : List Int → List Bool → List Bool
  | [], d => d
  | k :: l, d => marksB i l (markB d i k)
def passB : Nat → List (List Int) → List Bool → List Bool
  | _, [], d => d
  | i, l :: us, d => passB (i + 1) us (marksB i l d)
def roundsB (us : List (List Int)) : Nat → List Bool → List Bool
  | 0, d => d
  | r + 1, d => roundsB us r (passB 0 us d)
def belowU (us : List (List Int)) (f : Nat) : List Bool := roundsB us us.length ((List.replicate us.length false).set f true)

theorem markB_len {d : List Bool} {i : Nat} {k : Int} : (markB d i k).length = d.length := by simp [markB]

theorem leRL_setff : ∀ (n i : Nat), leRL ((List.replicate n AV.ff).set i .tt) (((List.replicate n false).set i true).map AV.bool)
  | 0, _ => trivial
  | n + 1, 0 => ⟨rfl, leRL_false n⟩
  | n + 1, i + 1 => ⟨rfl, leRL_setff n i⟩

abbrev dL (d : List Bool) : AV := .sl 1 (d.map AV.bool) .no

theorem c_Below (m : Md) (hB : MdB m) (ht : ∀ p : Int, 0 ≤ p → p < (m.pages.length : Int) → atS (pageTop m p) = false) (hn : (usesM m).length ≤ 100000) (f : Nat) (hf : f < (usesM m).length) : FnH Tryz.prog 85 [m.av, .int .i64 f] [] (dL (belowU (usesM m) f)) [] := by
  have cu := c_uses m hB ht _ rfl
  have hlt := uses_lt (m := m)
  refine FnH.intro lay mixed Tryz.func85 (by kernel_rfl) rfl (by kernel_rfl) rfl fun hok => ?_
  ((try dsimp only [argC, succC]); (try dsimp only [awp]); (conv => whnf))
  refine .pure _ _ ?_ ⟨rfl, rfl⟩ cu fun hoku => ?_
  · exact leL_refl _
  generalize usesM m = us at *
  ((try dsimp only [awp]); (conv => whnf))
  rw [show (((us.map zL).length : Nat) : Int) = (us.length : Int) by simp]
  refine ⟨⟨by omega, by omega, by simp; omega, by omega⟩, .wr ?_⟩
  ((try dsimp only [awp]); (conv => whnf))
  refine ⟨by omega, ?_⟩
  ((try dsimp only [awp]); (conv => whnf))
  refine ⟨by simp; omega, rfl, ?_⟩
  ((try dsimp only [awp]); (conv => whnf))
  refine LoopE.of <| LoopSpec.inv (.refl _ _) (fun (q : Nat × List Bool) => q.1 ≤ us.length ∧ q.2.length = us.length ∧ roundsB us (us.length - q.1) q.2 = belowU us f)
    (fun q => [(21, .int .i64 q.1)]) (fun q => [(1, .arr 1 us.length (q.2.map .bool)), (0, .box m.av)]) (fun q => us.length - q.1) (0, (List.replicate us.length false).set f true) ?_ (fun _ => rfl) ?_ ?_
  · exact ⟨Nat.zero_le _, by simp, rfl⟩
  · refine ⟨?_, .mk ?_ ⟨by simp, by simp, trivial⟩⟩
    · (repeat' first | exact rfl | exact trivial | exact HWk.refl rfl | exact leRL_refl _ | apply And.intro)
    · (repeat' first | exact rfl | exact trivial | exact HWk.refl rfl | exact leRL_refl _ | apply And.intro)
      all_goals first | (simp; done) | (rw [Nat.zero_add]; exact leRL_setff _ _)
  rintro ⟨r, d⟩ ⟨hr, hd, hF⟩ _
  dsimp only at hr hd hF
  ((try dsimp only [awp]); (conv => whnf))
  refine And.intro (fun h => ?_) (fun h => ?_)
  · have hrl : r < us.length := by simpa using h
    rw [show us.length - r = (us.length - (r + 1)) + 1 by omega] at hF
    simp only [roundsB] at hF
    clear h
    ((try dsimp only [awp]); (conv => whnf))
    refine LoopE.of <| LoopSpec.inv (.refl _ _) (fun (q : Nat × List Bool) => q.1 ≤ us.length ∧ q.2.length = us.length ∧ passB 0 us d = passB q.1 (us.drop q.1) q.2)
      (fun q => [(25, .int .i64 q.1)]) (fun q => [(1, .arr 1 us.length (q.2.map .bool)), (0, .box m.av)]) (fun q => us.length - q.1) (0, d) ?_ (fun _ => rfl) ?_ ?_
    · exact ⟨Nat.zero_le _, hd, rfl⟩
    · refine ⟨?_, .mk ?_ ⟨by simp, by simp, trivial⟩⟩
      · (repeat' first | exact rfl | exact trivial | exact HWk.refl rfl | exact leRL_refl _ | apply And.intro)
      · (repeat' first | exact rfl | exact trivial | exact HWk.refl rfl | exact leRL_refl _ | apply And.intro)
    rintro ⟨i, d1⟩ ⟨hi, hd1, hP⟩ _
    dsimp only at hi hd1 hP
    ((try dsimp only [awp]); (conv => whnf))
    refine And.intro (fun h => ?_) (fun h => ?_)
    · have hil : i < us.length := by simpa using h
      have hul := hlt _ (List.getElem_mem hil)
      have hll : (us[i]).length ≤ 9223372036854775807 := by
        have := OkL_map hoku.2 _ (List.getElem_mem hil)
        simp only [Ok] at this
        simpa [maxL] using this.1
      rw [List.drop_eq_getElem_cons hil] at hP
      simp only [passB] at hP
      ((try dsimp only [awp]); (conv => whnf))
      refine aidx hil ?_
      generalize us[i] = l at *
      ((try dsimp only [awp]); (conv => whnf))
      refine LoopE.of <| LoopSpec.inv (.refl _ _) (fun (q : Nat × List Bool) => q.1 ≤ l.length ∧ q.2.length = us.length ∧ marksB i l d1 = marksB i (l.drop q.1) q.2)
        (fun q => [(32, .int .i64 q.1)]) (fun q => [(1, .arr 1 us.length (q.2.map .bool)), (0, .box m.av)]) (fun q => l.length - q.1) (0, d1) ?_ (fun _ => rfl) ?_ ?_
      · exact ⟨Nat.zero_le _, hd1, rfl⟩
      · refine ⟨?_, .mk ?_ ⟨by simp, by simp, trivial⟩⟩
        · (repeat' first | exact rfl | exact trivial | exact HWk.refl rfl | exact leRL_refl _ | apply And.intro)
        · (repeat' first | exact rfl | exact trivial | exact HWk.refl rfl | exact leRL_refl _ | apply And.intro)
      rintro ⟨q, d2⟩ ⟨hq, hd2, hM⟩ _
      dsimp only at hq hd2 hM
      ((try dsimp only [awp]); (conv => whnf))
      refine And.intro (fun hh => ?_) (fun hh => ?_)
      · have hql : q < l.length := by simpa using hh
        have hk := hul _ (List.getElem_mem hql)
        rw [List.drop_eq_getElem_cons hql] at hM
        simp only [marksB] at hM
        ((try dsimp only [awp]); (conv => whnf))
        refine aidx hql ?_
        generalize l[q] = k at *
        ((try dsimp only [awp]); (conv => whnf))
        refine ⟨by simp; omega, ?_⟩
        ((try dsimp only [awp]); (conv => whnf))
        refine aidxN' false (i := k.toNat) (by simp) (by omega) ?_
        refine ⟨rfl, ?_⟩
        ((try dsimp only [awp]); (conv => whnf))
        refine And.intro (fun hy => ?_) (fun hy => ?_)
        · ((try dsimp only [awp]); (conv => whnf))
          refine ⟨by omega, ?_⟩
          ((try dsimp only [awp]); (conv => whnf))
          refine ⟨by simp; omega, rfl, ?_⟩
          have hsd : markB d2 i k = d2.set k.toNat true := by unfold markB; rw [hy]; rfl
          ((try dsimp only [awp]); (conv => whnf))
          (refine ⟨inr64 (by omega) (by omega), ?_⟩; (conv => whnf))
          refine ⟨(q + 1, markB d2 i k), ?_, ?_, ?_⟩
          · exact ⟨hql, by show (markB d2 i k).length = _; rw [markB_len]; exact hd2, hM⟩
          · rw [hsd]
            refine ⟨?_, .mk ?_ ⟨by simp, by simp, trivial⟩⟩
            · (repeat' first | exact rfl | exact trivial | exact HWk.refl rfl | exact leRL_refl _ | apply And.intro)
            · (repeat' first | exact rfl | exact trivial | exact HWk.refl rfl | exact leRL_refl _ | apply And.intro)
              all_goals first | (simp; done) | (rw [Nat.zero_add]; exact leRL_set (A := .tt) (b := true) rfl d2 k.toNat)
          · show l.length - (q + 1) < l.length - q
            omega
        · ((try dsimp only [awp]); (conv => whnf))
          refine ⟨by simp; omega, ?_⟩
          ((try dsimp only [awp]); (conv => whnf))
          refine aidxN' false (i := i) (by simp) (by omega) ?_
          refine ⟨rfl, ?_⟩
          ((try dsimp only [awp]); (conv => whnf))
          refine ⟨by omega, ?_⟩
          ((try dsimp only [awp]); (conv => whnf))
          refine ⟨by simp; omega, rfl, ?_⟩
          have hsd : markB d2 i k = d2.set k.toNat (d2.getD i false) := by unfold markB; rw [hy, Bool.false_or]
          ((try dsimp only [awp]); (conv => whnf))
          (refine ⟨inr64 (by omega) (by omega), ?_⟩; (conv => whnf))
          refine ⟨(q + 1, markB d2 i k), ?_, ?_, ?_⟩
          · exact ⟨hql, by show (markB d2 i k).length = _; rw [markB_len]; exact hd2, hM⟩
          · rw [hsd]
            refine ⟨?_, .mk ?_ ⟨by simp, by simp, trivial⟩⟩
            · (repeat' first | exact rfl | exact trivial | exact HWk.refl rfl | exact leRL_refl _ | apply And.intro)
            · (repeat' first | exact rfl | exact trivial | exact HWk.refl rfl | exact leRL_refl _ | apply And.intro)
              all_goals first | (simp; done) | (rw [Nat.zero_add]; exact leRL_set (A := .bool (d2.getD i false)) (b := (d2.getD i false)) rfl d2 k.toNat)
          · show l.length - (q + 1) < l.length - q
            omega
      have hql : q = l.length := by have : ¬ q < l.length := by simpa using hh
                                    omega
      rw [List.drop_eq_nil_of_le (by omega)] at hM
      simp only [marksB] at hM
      rw [hM] at hP
      ((try dsimp only [awp]); (conv => whnf))
      (refine ⟨inr64 (by omega) (by omega), ?_⟩; (conv => whnf))
      refine ⟨(i + 1, d2), ?_, ?_, ?_⟩
      · exact ⟨hil, hd2, hP⟩
      · refine ⟨?_, .mk ?_ ⟨by simp, by simp, trivial⟩⟩
        · (repeat' first | exact rfl | exact trivial | exact HWk.refl rfl | exact leRL_refl _ | apply And.intro)
        · (repeat' first | exact rfl | exact trivial | exact HWk.refl rfl | exact leRL_refl _ | apply And.intro)
      · show us.length - (i + 1) < us.length - i
        omega
    have hil : i = us.length := by have : ¬ i < us.length := by simpa using h
                                   omega
    rw [List.drop_eq_nil_of_le (by omega)] at hP
    simp only [passB] at hP
    rw [hP] at hF
    ((try dsimp only [awp]); (conv => whnf))
    (refine ⟨inr64 (by omega) (by omega), ?_⟩; (conv => whnf))
    refine ⟨(r + 1, d1), ?_, ?_, ?_⟩
    · exact ⟨hrl, hd1, hF⟩
    · refine ⟨?_, .mk ?_ ⟨by simp, by simp, trivial⟩⟩
      · (repeat' first | exact rfl | exact trivial | exact HWk.refl rfl | exact leRL_refl _ | apply And.intro)
      · (repeat' first | exact rfl | exact trivial | exact HWk.refl rfl | exact leRL_refl _ | apply And.intro)
    · show us.length - (r + 1) < us.length - r
      omega
  have hrl : r = us.length := by have : ¬ r < us.length := by simpa using h
                                 omega
  rw [hrl, Nat.sub_self] at hF
  simp only [roundsB] at hF
  rw [← hF]
  clear h
  ((try dsimp only [awp]); (conv => whnf))
  refine ⟨⟨_, _, .freeze 4 1 0 us.length us.length us.length 1 _ rfl rfl (by simp; omega) (.refl _ _), ?_⟩⟩
  (conv => whnf)
  refine ⟨?_, rfl, by simp [nextId], .mk ?_ ?_⟩
  · refine ⟨rfl, ?_⟩
    refine leRL_of ?_
    simp
    rw [List.take_of_length_le (by simp; omega)]
  · (repeat' first | exact rfl | exact trivial | exact HWk.refl rfl | exact leRL_refl _ | apply And.intro)
  · trivial
end S

open Go Go.AL Go.Proofs
namespace S
set_option maxRecDepth 100000

theorem marksB_len {i : Nat} : ∀ (l : List Int) (d : List Bool), (marksB i l d).length = d.length
  | [], _ => rfl
  | k :: l, d => by simp only [marksB]; rw [marksB_len l, markB_len]
theorem passB_len : ∀ (us : List (List Int)) (i : Nat) (d : List Bool), (passB i us d).length = d.length
  | [], _, _ => rfl
  | l :: us, i, d => by simp only [passB]; rw [passB_len us, marksB_len]
theorem roundsB_len {us : List (List Int)} : ∀ (r : Nat) (d : List Bool), (roundsB us r d).length = d.length
  | 0, _ => rfl
  | r + 1, d => by simp only [roundsB]; rw [roundsB_len r, passB_len]

def evL (m : Md) (a : Int) : List Str → Nat → Nat
  | [], e => e
  | s :: l, e => evL m a l (if (findX m a s).1 = 0 then e ||| 2 ^ (findX m a s).2.2.toNat else e)
def dynG (g : Mg) : Bool := decide (g.kind = 6) || decide (g.kind = 7) || decide (g.kind = 8)
def stepN (m : Md) (F : List Bool) (p : Nat × Bool) (y : Node) : Nat × Bool :=
  if F.getD (numR m y).toNat false = true then (evL m y.2.1 (gateAt m y).ins p.1, p.2 || dynG (gateAt m y)) else p
def needsG (m : Md) (F : List Bool) : Nat × Bool := (allNodes m).foldl (stepN m F) (0, false)
def needsR (m : Md) (x : Node) : Nat × Bool :=
  if x.1 = 0 then (2 ^ x.2.2.toNat, false) else if x.1 = 1 then (0, false) else needsG m (belowU (usesM m) (numR m x).toNat)

theorem findX_ev {m : Md} {a : Int} {s : Str} (h : (findX m a s).1 = 0) : 0 ≤ (findX m a s).2.2 ∧ (findX m a s).2.2 < (m.evs.length : Int) := by
  have key : ∀ b t, (findR m b t).1 = 0 → 0 ≤ (findR m b t).2.2 ∧ (findR m b t).2.2 < (m.evs.length : Int) := by
    intro b t h
    unfold findR at h ⊢
    by_cases h1 : 0 ≤ i_event m.evs t
    · rw [if_pos h1]; exact ⟨h1, idxP_lt _ _⟩
    rw [if_neg h1] at h ⊢
    by_cases h2 : 0 ≤ i_house m.hs t
    · rw [if_pos h2] at h; cases h
    rw [if_neg h2] at h ⊢
    by_cases h3 : 0 ≤ i_gate (gatesM m b) t
    · rw [if_pos h3] at h; cases h
    · rw [if_neg h3] at h; cases h
  unfold findX at h ⊢
  by_cases h1 : atS s = true
  · rw [if_pos h1] at h ⊢
    by_cases h2 : i_page m.pages (s.drop 1) < 0
    · rw [if_pos h2] at h; cases h
    rw [if_neg h2] at h ⊢
    exact key _ _ h
  · rw [if_neg h1] at h ⊢
    exact key _ _ h

theorem numR_lt {m : Md} {x : Node} (hx : x ∈ allNodes m) : 0 ≤ numR m x ∧ (numR m x).toNat < (usesM m).length := by
  obtain ⟨h1, h2⟩ := num_get hx
  exact ⟨h1, by simpa [usesM] using (List.getElem?_eq_some_iff.1 h2).1⟩

theorem c_Needs (m : Md) (hM : MOk m) (hB : MdB m) (R : AV) (hR : R = .tup [.int .i64 (needsR m (findX m (-1) m.top)).1, .bool (needsR m (findX m (-1) m.top)).2]) : FnH Tryz.prog 37 [m.av, .int .i64 (-1), .str m.top] [] R [] := by
  have hpl := hB.pages
  have hev := hM.lens.1
  have ht := hM.noAt
  have cT := c_Find m (-1) m.top (.inl rfl) ht
  obtain ⟨he, hn0⟩ := findX_in hM (.inl rfl) hM.top
  have hok := (hM.inOk (.inl rfl) hM.top).ok
  rw [← he] at hok
  have hxe := findX_ev (m := m) (a := -1) (s := m.top)
  have hxg := findX_gate (m := m) (a := -1) (s := m.top) (.inl rfl)
  clear he
  generalize findX m (-1) m.top = x at *
  have hx12 : x.1 ≠ 0 → x.1 ≠ 1 → x.1 = 2 := by
    intro h0 h1
    rcases hok with h | h | h
    · omega
    · omega
    · exact (mem_all.1 h).1
  clear hok
  obtain ⟨x1, x2, x3⟩ := x
  dsimp only at hxe hn0 hx12
  refine FnH.intro lay mixed Tryz.func37 (by kernel_rfl) rfl (by kernel_rfl) rfl fun hok => ?_
  ((try dsimp only [argC, succC]); (try dsimp only [awp]); (conv => whnf))
  refine .pure _ _ ?_ ⟨rfl, rfl⟩ cT fun _ => ?_
  · exact leL_refl _
  ((try dsimp only [awp]); (conv => whnf))
  refine And.intro (fun k0 => ?_) (fun k0 => ?_)
  · obtain ⟨f1, f2⟩ := hxe k0
    rw [show needsR m (x1, x2, x3) = (2 ^ x3.toNat, false) from if_pos k0] at hR
    subst hR
    obtain ⟨z, rfl⟩ : ∃ z : Nat, x3 = z := ⟨x3.toNat, by omega⟩
    rw [Int.toNat_natCast]
    ((try dsimp only [awp]); (conv => whnf))
    refine ⟨by omega, ?_⟩
    rw [shl_one (by omega)]
    ((try dsimp only [awp]); (conv => whnf))
    (refine FinSpec.mono ?_; (conv => whnf); refine ⟨?_, rfl⟩; (conv => whnf))
    (repeat' first | exact rfl | exact trivial | exact HWk.refl rfl | exact leRL_refl _ | apply And.intro)
  ((try dsimp only [awp]); (conv => whnf))
  refine And.intro (fun k1 => ?_) (fun k1 => ?_)
  · rw [show needsR m (x1, x2, x3) = (0, false) from (if_neg k0).trans (if_pos k1)] at hR
    subst hR
    ((try dsimp only [awp]); (conv => whnf))
    (refine FinSpec.mono ?_; (conv => whnf); refine ⟨?_, rfl⟩; (conv => whnf))
    (repeat' first | exact rfl | exact trivial | exact HWk.refl rfl | exact leRL_refl _ | apply And.intro)
  have k2 := hx12 k0 k1
  have hxm := hxg k2
  rw [show needsR m (x1, x2, x3) = needsG m (belowU (usesM m) (numR m (x1, x2, x3)).toNat) from (if_neg k0).trans (if_neg k1)] at hR
  obtain ⟨_, hy2, hy3, hy4⟩ := mem_all.1 hxm
  have hb4 := (hB.gatesM hy2).1
  have cN := c_number m hB (x1, x2, x3) hy2 ⟨hy3, by show x3 < 1000000; have : x3 < ((gatesM m x2).length : Int) := hy4; have : (gatesM m x2).length ≤ 100 := hb4; omega⟩
  obtain ⟨n1, n2⟩ := numR_lt hxm
  obtain ⟨f, hf⟩ : ∃ f : Nat, numR m (x1, x2, x3) = f := ⟨(numR m (x1, x2, x3)).toNat, by omega⟩
  rw [hf] at cN n2 hR
  rw [Int.toNat_natCast] at n2 hR
  have cb := c_Below m hB ht (uses_short hB) f n2
  have hFl : (belowU (usesM m) f).length = (allNodes m).length := by unfold belowU; rw [roundsB_len]; simp [usesM]
  clear hxg hxe hx12 hxm
  generalize belowU (usesM m) f = F at *
  ((try dsimp only [awp]); (conv => whnf))
  (refine ADraw.auto (by kernel_rfl) ?_; (conv => whnf))
  refine ACallP.pure _ _ ?_ ⟨rfl, rfl⟩ cN ?_
  · exact leL_refl _
  ((try dsimp only [awp]); (conv => whnf))
  refine ACallP.pure _ _ ?_ ⟨rfl, rfl⟩ cb ?_
  · exact leL_refl _
  ((try dsimp only [awp]); (conv => whnf))
  refine LoopE.of <| LoopSpec.inv (.refl _ _) (fun (q : Nat × Nat × Bool) => q.1 ≤ m.pages.length + 1 ∧ (nodesFrom m q.1).foldl (stepN m F) q.2 = needsG m F ∧ q.2.1 < 2 ^ 24)
    (fun q => [(12, .int .i64 ((q.1 : Int) - 1)), (6, .int .i64 q.2.1), (7, .bool q.2.2)]) (fun _ => [(0, .box m.av)]) (fun q => m.pages.length + 1 - q.1) (0, 0, false) ?_ (fun _ => rfl) ?_ ?_
  · exact ⟨Nat.zero_le _, rfl, by decide⟩
  · refine ⟨?_, .mk ?_ ⟨by simp, trivial⟩⟩
    · (repeat' first | exact rfl | exact trivial | exact HWk.refl rfl | exact leRL_refl _ | apply And.intro)
    · (repeat' first | exact rfl | exact trivial | exact HWk.refl rfl | exact leRL_refl _ | apply And.intro)
  rintro ⟨k, p1, p2⟩ ⟨hk, hn, hp⟩ _
  dsimp only at hk hn hp
  ((try dsimp only [awp]); (conv => whnf))
  refine And.intro (fun h => ?_) (fun h => ?_)
  · have hkl : k < m.pages.length + 1 := by simp only [List.length_map] at h; omega
    have ha : (k : Int) - 1 = -1 ∨ (0 ≤ (k : Int) - 1 ∧ (k : Int) - 1 < (m.pages.length : Int)) := by omega
    have hBa := hB.gatesM ha
    have cG := c_rGates m _ ha
    have cF := fun s => c_Find m _ s ha ht
    have hNl := fun i (h : i < (gatesM m ((k : Int) - 1)).length) => drop_of_get? (nodesAt_get (m := m) (a := (k : Int) - 1) h)
    have hga : ∀ (i : Nat) (h : i < (gatesM m ((k : Int) - 1)).length), gateAt m (2, (k : Int) - 1, (i : Int)) = (gatesM m ((k : Int) - 1))[i] := by
      intro i h
      unfold gateAt
      dsimp only
      rw [Int.toNat_natCast, List.getD_eq_getElem?_getD, List.getElem?_eq_getElem h]; rfl
    have hmem : ∀ (i : Nat) (h : i < (gatesM m ((k : Int) - 1)).length), (2, (k : Int) - 1, (i : Int)) ∈ allNodes m := fun i h => mem_all.2 ⟨rfl, ha, by show (0 : Int) ≤ i; omega, by show (i : Int) < ((gatesM m ((k : Int) - 1)).length : Int); omega⟩
    have cN := fun (i : Nat) (h : i < 1000000) => c_number m hB (2, (k : Int) - 1, (i : Int)) ha ⟨by show (0 : Int) ≤ i; omega, by show (i : Int) < 1000000; omega⟩
    rw [nodesFrom_step hkl, List.foldl_append] at hn
    have hrest : ∀ p, (nodesFrom m (k + 1)).foldl (stepN m F) p = needsG m F → (nodesFrom m (k + 1)).foldl (stepN m F) p = needsG m F := fun _ h => h
    clear h
    generalize hrs : nodesFrom m (k + 1) = rest at *
    have hle := nodesAt_len m ((k : Int) - 1)
    generalize hage : (k : Int) - 1 = a at *
    generalize hnod : nodesAt m a = nod at *
    generalize hgs : gatesM m a = gs at *
    ((try dsimp only [awp]); (conv => whnf))
    refine .pure _ _ ?_ ⟨rfl, rfl⟩ cG fun hokl => ?_
    · exact leL_refl _
    ((try dsimp only [awp]); (conv => whnf))
    refine LoopE.of <| LoopSpec.inv (.refl _ _) (fun (q : Nat × Nat × Bool) => q.1 ≤ gs.length ∧ rest.foldl (stepN m F) ((nod.drop q.1).foldl (stepN m F) q.2) = needsG m F ∧ q.2.1 < 2 ^ 24)
      (fun q => [(51, .int .i64 q.1), (6, .int .i64 q.2.1), (7, .bool q.2.2)]) (fun _ => [(0, .box m.av)]) (fun q => gs.length - q.1) (0, p1, p2) ?_ (fun _ => rfl) ?_ ?_
    · exact ⟨Nat.zero_le _, hn, hp⟩
    · refine ⟨?_, .mk ?_ ⟨by simp, trivial⟩⟩
      · (repeat' first | exact rfl | exact trivial | exact HWk.refl rfl | exact leRL_refl _ | apply And.intro)
      · (repeat' first | exact rfl | exact trivial | exact HWk.refl rfl | exact leRL_refl _ | apply And.intro)
    rintro ⟨i, p1, p2⟩ ⟨hi, hni, hp⟩ _
    dsimp only at hi hni hp
    ((try dsimp only [awp]); (conv => whnf))
    refine And.intro (fun h => ?_) (fun h => ?_)
    · have hlt : i < gs.length := by simpa using h
      have hxi := hBa.2 _ (List.getElem_mem hlt)
      rw [hNl i hlt, List.foldl_cons] at hni
      have hgi := hga i hlt
      have cN := cN i (by have := hBa.1; omega)
      obtain ⟨n1, n2⟩ := numR_lt (hmem i hlt)
      have n3 : (numR m (2, a, (i : Int))).toNat < F.length := by rw [hFl]; simpa [usesM] using n2
      have hst : stepN m F (p1, p2) (2, a, (i : Int)) = if F.getD (numR m (2, a, (i : Int))).toNat false = true then (evL m a gs[i].ins p1, p2 || dynG gs[i]) else (p1, p2) := by unfold stepN; dsimp only; rw [hgi]
      rw [hst] at hni
      clear hst
      generalize numR m (2, a, (i : Int)) = w at *
      ((try dsimp only [awp]); (conv => whnf))
      refine aidx hlt ?_
      generalize gs[i] = g at *
      ((try dsimp only [awp]); (conv => whnf))
      refine .pure _ _ ?_ ⟨rfl, rfl⟩ cN fun _ => ?_
      · exact leL_refl _
      ((try dsimp only [awp]); (conv => whnf))
      refine aidxD false ⟨n1, by omega⟩ ?_
      ((try dsimp only [awp]); (conv => whnf))
      refine And.intro (fun hF => ?_) (fun hF => ?_)
      · have hF : F.getD w.toNat false = false := by simpa using hF
        rw [hF, if_neg (by simp)] at hni
        ((try dsimp only [awp]); (conv => whnf))
        (refine ⟨inr64 (by omega) (by omega), ?_⟩; (conv => whnf))
        refine ⟨(i + 1, p1, p2), ?_, ?_, ?_⟩
        · exact ⟨hlt, hni, hp⟩
        · refine ⟨?_, .mk ?_ ⟨by simp, trivial⟩⟩
          · (repeat' first | exact rfl | exact trivial | exact HWk.refl rfl | exact leRL_refl _ | apply And.intro)
          · (repeat' first | exact rfl | exact trivial | exact HWk.refl rfl | exact leRL_refl _ | apply And.intro)
        · show gs.length - (i + 1) < gs.length - i
          omega
      have hF : F.getD w.toNat false = true := by simpa using hF
      rw [if_pos hF] at hni
      ((try dsimp only [awp]); (conv => whnf))
      refine And.intro (fun hd => ?_) (fun hd => ?_)
      · ((try dsimp only [awp]); (conv => whnf))
        refine LoopE.of <| LoopSpec.inv (.refl _ _) (fun (q : Nat × Nat) => q.1 ≤ g.ins.length ∧ evL m a g.ins p1 = evL m a (g.ins.drop q.1) q.2 ∧ q.2 < 2 ^ 24)
          (fun q => [(83, .int .i64 q.1), (6, .int .i64 q.2)]) (fun _ => [(1, .box g.av), (0, .box m.av)]) (fun q => g.ins.length - q.1) (0, p1) ?_ (fun _ => rfl) ?_ ?_
        · exact ⟨Nat.zero_le _, rfl, hp⟩
        · refine ⟨?_, .mk ?_ ⟨by simp, by simp, trivial⟩⟩
          · (repeat' first | exact rfl | exact trivial | exact HWk.refl rfl | exact leRL_refl _ | apply And.intro)
          · (repeat' first | exact rfl | exact trivial | exact HWk.refl rfl | exact leRL_refl _ | apply And.intro)
        rintro ⟨j, e⟩ ⟨hj, hnj, he⟩ _
        dsimp only at hj hnj he
        ((try dsimp only [awp]); (conv => whnf))
        refine And.intro (fun hh => ?_) (fun hh => ?_)
        · have hjl : j < g.ins.length := by simpa using hh
          rw [List.drop_eq_getElem_cons hjl] at hnj
          simp only [evL] at hnj
          ((try dsimp only [awp]); (conv => whnf))
          refine aidx hjl ?_
          generalize g.ins[j] = s at *
          have cF := cF s
          have hfe := findX_ev (m := m) (a := a) (s := s)
          generalize findX m a s = y at *
          obtain ⟨y1, y2, y3⟩ := y
          dsimp only at hfe hnj
          ((try dsimp only [awp]); (conv => whnf))
          refine .pure _ _ ?_ ⟨rfl, rfl⟩ cF fun _ => ?_
          · exact leL_refl _
          ((try dsimp only [awp]); (conv => whnf))
          refine And.intro (fun g1 => ?_) (fun g1 => ?_)
          · obtain ⟨f1, f2⟩ := hfe g1
            rw [if_pos g1] at hnj
            obtain ⟨z, rfl⟩ : ∃ z : Nat, y3 = z := ⟨y3.toNat, by omega⟩
            have hz : z < 24 := by omega
            have hpz : 2 ^ z < 2 ^ 24 := Nat.pow_lt_pow_right (by omega) hz
            rw [Int.toNat_natCast] at hnj
            have hor := Nat.or_lt_two_pow he hpz
            ((try dsimp only [awp]); (conv => whnf))
            refine ⟨by omega, ?_⟩
            rw [shl_one (by omega)]
            (conv => whnf)
            rw [or_nat (by omega) (by omega)]
            ((try dsimp only [awp]); (conv => whnf))
            (refine ⟨inr64 (by omega) (by omega), ?_⟩; (conv => whnf))
            refine ⟨(j + 1, e ||| 2 ^ z), ?_, ?_, ?_⟩
            · exact ⟨hjl, hnj, hor⟩
            · refine ⟨?_, .mk ?_ ⟨by simp, by simp, trivial⟩⟩
              · (repeat' first | exact rfl | exact trivial | exact HWk.refl rfl | exact leRL_refl _ | apply And.intro)
              · (repeat' first | exact rfl | exact trivial | exact HWk.refl rfl | exact leRL_refl _ | apply And.intro)
            · show g.ins.length - (j + 1) < g.ins.length - j
              omega
          · rw [if_neg g1] at hnj
            ((try dsimp only [awp]); (conv => whnf))
            (refine ⟨inr64 (by omega) (by omega), ?_⟩; (conv => whnf))
            refine ⟨(j + 1, e), ?_, ?_, ?_⟩
            · exact ⟨hjl, hnj, he⟩
            · refine ⟨?_, .mk ?_ ⟨by simp, by simp, trivial⟩⟩
              · (repeat' first | exact rfl | exact trivial | exact HWk.refl rfl | exact leRL_refl _ | apply And.intro)
              · (repeat' first | exact rfl | exact trivial | exact HWk.refl rfl | exact leRL_refl _ | apply And.intro)
            · show g.ins.length - (j + 1) < g.ins.length - j
              omega
        have hjl : j = g.ins.length := by have : ¬ j < g.ins.length := by simpa using hh
                                          omega
        rw [List.drop_eq_nil_of_le (by omega)] at hnj
        simp only [evL] at hnj
        rw [hnj, hd, Bool.true_or] at hni
        ((try dsimp only [awp]); (conv => whnf))
        (refine ⟨inr64 (by omega) (by omega), ?_⟩; (conv => whnf))
        refine ⟨(i + 1, e, true), ?_, ?_, ?_⟩
        · exact ⟨hlt, hni, he⟩
        · refine ⟨?_, .mk ?_ ⟨by simp, trivial⟩⟩
          · (repeat' first | exact rfl | exact trivial | exact HWk.refl rfl | exact leRL_refl _ | apply And.intro)
            all_goals first | (show (_ : Bool) = _; rfl) | (show _ ↔ _; simp) | rfl
          · (repeat' first | exact rfl | exact trivial | exact HWk.refl rfl | exact leRL_refl _ | apply And.intro)
        · show gs.length - (i + 1) < gs.length - i
          omega
      rw [hd, Bool.false_or] at hni
      ((try dsimp only [awp]); (conv => whnf))
      refine And.intro (fun k6 => ?_) (fun k6 => ?_)
      · ((try dsimp only [awp]); (conv => whnf))
        refine LoopE.of <| LoopSpec.inv (.refl _ _) (fun (q : Nat × Nat) => q.1 ≤ g.ins.length ∧ evL m a g.ins p1 = evL m a (g.ins.drop q.1) q.2 ∧ q.2 < 2 ^ 24)
          (fun q => [(83, .int .i64 q.1), (6, .int .i64 q.2)]) (fun _ => [(1, .box g.av), (0, .box m.av)]) (fun q => g.ins.length - q.1) (0, p1) ?_ (fun _ => rfl) ?_ ?_
        · exact ⟨Nat.zero_le _, rfl, hp⟩
        · refine ⟨?_, .mk ?_ ⟨by simp, by simp, trivial⟩⟩
          · (repeat' first | exact rfl | exact trivial | exact HWk.refl rfl | exact leRL_refl _ | apply And.intro)
          · (repeat' first | exact rfl | exact trivial | exact HWk.refl rfl | exact leRL_refl _ | apply And.intro)
        rintro ⟨j, e⟩ ⟨hj, hnj, he⟩ _
        dsimp only at hj hnj he
        ((try dsimp only [awp]); (conv => whnf))
        refine And.intro (fun hh => ?_) (fun hh => ?_)
        · have hjl : j < g.ins.length := by simpa using hh
          rw [List.drop_eq_getElem_cons hjl] at hnj
          simp only [evL] at hnj
          ((try dsimp only [awp]); (conv => whnf))
          refine aidx hjl ?_
          generalize g.ins[j] = s at *
          have cF := cF s
          have hfe := findX_ev (m := m) (a := a) (s := s)
          generalize findX m a s = y at *
          obtain ⟨y1, y2, y3⟩ := y
          dsimp only at hfe hnj
          ((try dsimp only [awp]); (conv => whnf))
          refine .pure _ _ ?_ ⟨rfl, rfl⟩ cF fun _ => ?_
          · exact leL_refl _
          ((try dsimp only [awp]); (conv => whnf))
          refine And.intro (fun g1 => ?_) (fun g1 => ?_)
          · obtain ⟨f1, f2⟩ := hfe g1
            rw [if_pos g1] at hnj
            obtain ⟨z, rfl⟩ : ∃ z : Nat, y3 = z := ⟨y3.toNat, by omega⟩
            have hz : z < 24 := by omega
            have hpz : 2 ^ z < 2 ^ 24 := Nat.pow_lt_pow_right (by omega) hz
            rw [Int.toNat_natCast] at hnj
            have hor := Nat.or_lt_two_pow he hpz
            ((try dsimp only [awp]); (conv => whnf))
            refine ⟨by omega, ?_⟩
            rw [shl_one (by omega)]
            (conv => whnf)
            rw [or_nat (by omega) (by omega)]
            ((try dsimp only [awp]); (conv => whnf))
            (refine ⟨inr64 (by omega) (by omega), ?_⟩; (conv => whnf))
            refine ⟨(j + 1, e ||| 2 ^ z), ?_, ?_, ?_⟩
            · exact ⟨hjl, hnj, hor⟩
            · refine ⟨?_, .mk ?_ ⟨by simp, by simp, trivial⟩⟩
              · (repeat' first | exact rfl | exact trivial | exact HWk.refl rfl | exact leRL_refl _ | apply And.intro)
              · (repeat' first | exact rfl | exact trivial | exact HWk.refl rfl | exact leRL_refl _ | apply And.intro)
            · show g.ins.length - (j + 1) < g.ins.length - j
              omega
          · rw [if_neg g1] at hnj
            ((try dsimp only [awp]); (conv => whnf))
            (refine ⟨inr64 (by omega) (by omega), ?_⟩; (conv => whnf))
            refine ⟨(j + 1, e), ?_, ?_, ?_⟩
            · exact ⟨hjl, hnj, he⟩
            · refine ⟨?_, .mk ?_ ⟨by simp, by simp, trivial⟩⟩
              · (repeat' first | exact rfl | exact trivial | exact HWk.refl rfl | exact leRL_refl _ | apply And.intro)
              · (repeat' first | exact rfl | exact trivial | exact HWk.refl rfl | exact leRL_refl _ | apply And.intro)
            · show g.ins.length - (j + 1) < g.ins.length - j
              omega
        have hjl : j = g.ins.length := by have : ¬ j < g.ins.length := by simpa using hh
                                          omega
        rw [List.drop_eq_nil_of_le (by omega)] at hnj
        simp only [evL] at hnj
        rw [hnj, show dynG g = true from by unfold dynG; rw [decide_eq_true k6]; rfl] at hni
        ((try dsimp only [awp]); (conv => whnf))
        (refine ⟨inr64 (by omega) (by omega), ?_⟩; (conv => whnf))
        refine ⟨(i + 1, e, true), ?_, ?_, ?_⟩
        · exact ⟨hlt, hni, he⟩
        · refine ⟨?_, .mk ?_ ⟨by simp, trivial⟩⟩
          · (repeat' first | exact rfl | exact trivial | exact HWk.refl rfl | exact leRL_refl _ | apply And.intro)
            all_goals first | (show (_ : Bool) = _; rfl) | (show _ ↔ _; simp) | rfl
          · (repeat' first | exact rfl | exact trivial | exact HWk.refl rfl | exact leRL_refl _ | apply And.intro)
        · show gs.length - (i + 1) < gs.length - i
          omega
      ((try dsimp only [awp]); (conv => whnf))
      refine And.intro (fun k7 => ?_) (fun k7 => ?_)
      · ((try dsimp only [awp]); (conv => whnf))
        refine LoopE.of <| LoopSpec.inv (.refl _ _) (fun (q : Nat × Nat) => q.1 ≤ g.ins.length ∧ evL m a g.ins p1 = evL m a (g.ins.drop q.1) q.2 ∧ q.2 < 2 ^ 24)
          (fun q => [(83, .int .i64 q.1), (6, .int .i64 q.2)]) (fun _ => [(1, .box g.av), (0, .box m.av)]) (fun q => g.ins.length - q.1) (0, p1) ?_ (fun _ => rfl) ?_ ?_
        · exact ⟨Nat.zero_le _, rfl, hp⟩
        · refine ⟨?_, .mk ?_ ⟨by simp, by simp, trivial⟩⟩
          · (repeat' first | exact rfl | exact trivial | exact HWk.refl rfl | exact leRL_refl _ | apply And.intro)
          · (repeat' first | exact rfl | exact trivial | exact HWk.refl rfl | exact leRL_refl _ | apply And.intro)
        rintro ⟨j, e⟩ ⟨hj, hnj, he⟩ _
        dsimp only at hj hnj he
        ((try dsimp only [awp]); (conv => whnf))
        refine And.intro (fun hh => ?_) (fun hh => ?_)
        · have hjl : j < g.ins.length := by simpa using hh
          rw [List.drop_eq_getElem_cons hjl] at hnj
          simp only [evL] at hnj
          ((try dsimp only [awp]); (conv => whnf))
          refine aidx hjl ?_
          generalize g.ins[j] = s at *
          have cF := cF s
          have hfe := findX_ev (m := m) (a := a) (s := s)
          generalize findX m a s = y at *
          obtain ⟨y1, y2, y3⟩ := y
          dsimp only at hfe hnj
          ((try dsimp only [awp]); (conv => whnf))
          refine .pure _ _ ?_ ⟨rfl, rfl⟩ cF fun _ => ?_
          · exact leL_refl _
          ((try dsimp only [awp]); (conv => whnf))
          refine And.intro (fun g1 => ?_) (fun g1 => ?_)
          · obtain ⟨f1, f2⟩ := hfe g1
            rw [if_pos g1] at hnj
            obtain ⟨z, rfl⟩ : ∃ z : Nat, y3 = z := ⟨y3.toNat, by omega⟩
            have hz : z < 24 := by omega
            have hpz : 2 ^ z < 2 ^ 24 := Nat.pow_lt_pow_right (by omega) hz
            rw [Int.toNat_natCast] at hnj
            have hor := Nat.or_lt_two_pow he hpz
            ((try dsimp only [awp]); (conv => whnf))
            refine ⟨by omega, ?_⟩
            rw [shl_one (by omega)]
            (conv => whnf)
            rw [or_nat (by omega) (by omega)]
            ((try dsimp only [awp]); (conv => whnf))
            (refine ⟨inr64 (by omega) (by omega), ?_⟩; (conv => whnf))
            refine ⟨(j + 1, e ||| 2 ^ z), ?_, ?_, ?_⟩
            · exact ⟨hjl, hnj, hor⟩
            · refine ⟨?_, .mk ?_ ⟨by simp, by simp, trivial⟩⟩
              · (repeat' first | exact rfl | exact trivial | exact HWk.refl rfl | exact leRL_refl _ | apply And.intro)
              · (repeat' first | exact rfl | exact trivial | exact HWk.refl rfl | exact leRL_refl _ | apply And.intro)
            · show g.ins.length - (j + 1) < g.ins.length - j
              omega
          · rw [if_neg g1] at hnj
            ((try dsimp only [awp]); (conv => whnf))
            (refine ⟨inr64 (by omega) (by omega), ?_⟩; (conv => whnf))
            refine ⟨(j + 1, e), ?_, ?_, ?_⟩
            · exact ⟨hjl, hnj, he⟩
            · refine ⟨?_, .mk ?_ ⟨by simp, by simp, trivial⟩⟩
              · (repeat' first | exact rfl | exact trivial | exact HWk.refl rfl | exact leRL_refl _ | apply And.intro)
              · (repeat' first | exact rfl | exact trivial | exact HWk.refl rfl | exact leRL_refl _ | apply And.intro)
            · show g.ins.length - (j + 1) < g.ins.length - j
              omega
        have hjl : j = g.ins.length := by have : ¬ j < g.ins.length := by simpa using hh
                                          omega
        rw [List.drop_eq_nil_of_le (by omega)] at hnj
        simp only [evL] at hnj
        rw [hnj, show dynG g = true from by unfold dynG; rw [decide_eq_true k7]; simp] at hni
        ((try dsimp only [awp]); (conv => whnf))
        (refine ⟨inr64 (by omega) (by omega), ?_⟩; (conv => whnf))
        refine ⟨(i + 1, e, true), ?_, ?_, ?_⟩
        · exact ⟨hlt, hni, he⟩
        · refine ⟨?_, .mk ?_ ⟨by simp, trivial⟩⟩
          · (repeat' first | exact rfl | exact trivial | exact HWk.refl rfl | exact leRL_refl _ | apply And.intro)
            all_goals first | (show (_ : Bool) = _; rfl) | (show _ ↔ _; simp) | rfl
          · (repeat' first | exact rfl | exact trivial | exact HWk.refl rfl | exact leRL_refl _ | apply And.intro)
        · show gs.length - (i + 1) < gs.length - i
          omega
      have hdg : dynG g = decide (g.kind = 8) := by unfold dynG; rw [decide_eq_false k6, decide_eq_false k7]; rfl
      ((try dsimp only [awp]); (conv => whnf))
      refine LoopE.of <| LoopSpec.inv (.refl _ _) (fun (q : Nat × Nat) => q.1 ≤ g.ins.length ∧ evL m a g.ins p1 = evL m a (g.ins.drop q.1) q.2 ∧ q.2 < 2 ^ 24)
        (fun q => [(83, .int .i64 q.1), (6, .int .i64 q.2)]) (fun _ => [(1, .box g.av), (0, .box m.av)]) (fun q => g.ins.length - q.1) (0, p1) ?_ (fun _ => rfl) ?_ ?_
      · exact ⟨Nat.zero_le _, rfl, hp⟩
      · refine ⟨?_, .mk ?_ ⟨by simp, by simp, trivial⟩⟩
        · (repeat' first | exact rfl | exact trivial | exact HWk.refl rfl | exact leRL_refl _ | apply And.intro)
        · (repeat' first | exact rfl | exact trivial | exact HWk.refl rfl | exact leRL_refl _ | apply And.intro)
      rintro ⟨j, e⟩ ⟨hj, hnj, he⟩ _
      dsimp only at hj hnj he
      ((try dsimp only [awp]); (conv => whnf))
      refine And.intro (fun hh => ?_) (fun hh => ?_)
      · have hjl : j < g.ins.length := by simpa using hh
        rw [List.drop_eq_getElem_cons hjl] at hnj
        simp only [evL] at hnj
        ((try dsimp only [awp]); (conv => whnf))
        refine aidx hjl ?_
        generalize g.ins[j] = s at *
        have cF := cF s
        have hfe := findX_ev (m := m) (a := a) (s := s)
        generalize findX m a s = y at *
        obtain ⟨y1, y2, y3⟩ := y
        dsimp only at hfe hnj
        ((try dsimp only [awp]); (conv => whnf))
        refine .pure _ _ ?_ ⟨rfl, rfl⟩ cF fun _ => ?_
        · exact leL_refl _
        ((try dsimp only [awp]); (conv => whnf))
        refine And.intro (fun g1 => ?_) (fun g1 => ?_)
        · obtain ⟨f1, f2⟩ := hfe g1
          rw [if_pos g1] at hnj
          obtain ⟨z, rfl⟩ : ∃ z : Nat, y3 = z := ⟨y3.toNat, by omega⟩
          have hz : z < 24 := by omega
          have hpz : 2 ^ z < 2 ^ 24 := Nat.pow_lt_pow_right (by omega) hz
          rw [Int.toNat_natCast] at hnj
          have hor := Nat.or_lt_two_pow he hpz
          ((try dsimp only [awp]); (conv => whnf))
          refine ⟨by omega, ?_⟩
          rw [shl_one (by omega)]
          (conv => whnf)
          rw [or_nat (by omega) (by omega)]
          ((try dsimp only [awp]); (conv => whnf))
          (refine ⟨inr64 (by omega) (by omega), ?_⟩; (conv => whnf))
          refine ⟨(j + 1, e ||| 2 ^ z), ?_, ?_, ?_⟩
          · exact ⟨hjl, hnj, hor⟩
          · refine ⟨?_, .mk ?_ ⟨by simp, by simp, trivial⟩⟩
            · (repeat' first | exact rfl | exact trivial | exact HWk.refl rfl | exact leRL_refl _ | apply And.intro)
            · (repeat' first | exact rfl | exact trivial | exact HWk.refl rfl | exact leRL_refl _ | apply And.intro)
          · show g.ins.length - (j + 1) < g.ins.length - j
            omega
        · rw [if_neg g1] at hnj
          ((try dsimp only [awp]); (conv => whnf))
          (refine ⟨inr64 (by omega) (by omega), ?_⟩; (conv => whnf))
          refine ⟨(j + 1, e), ?_, ?_, ?_⟩
          · exact ⟨hjl, hnj, he⟩
          · refine ⟨?_, .mk ?_ ⟨by simp, by simp, trivial⟩⟩
            · (repeat' first | exact rfl | exact trivial | exact HWk.refl rfl | exact leRL_refl _ | apply And.intro)
            · (repeat' first | exact rfl | exact trivial | exact HWk.refl rfl | exact leRL_refl _ | apply And.intro)
          · show g.ins.length - (j + 1) < g.ins.length - j
            omega
      have hjl : j = g.ins.length := by have : ¬ j < g.ins.length := by simpa using hh
                                        omega
      rw [List.drop_eq_nil_of_le (by omega)] at hnj
      simp only [evL] at hnj
      rw [hnj, hdg] at hni
      ((try dsimp only [awp]); (conv => whnf))
      (refine ⟨inr64 (by omega) (by omega), ?_⟩; (conv => whnf))
      refine ⟨(i + 1, e, decide (g.kind = 8)), ?_, ?_, ?_⟩
      · exact ⟨hlt, hni, he⟩
      · refine ⟨?_, .mk ?_ ⟨by simp, trivial⟩⟩
        · (repeat' first | exact rfl | exact trivial | exact HWk.refl rfl | exact leRL_refl _ | apply And.intro)
          all_goals first | (show (_ : Bool) = _; rfl) | (show _ ↔ _; simp) | rfl
        · (repeat' first | exact rfl | exact trivial | exact HWk.refl rfl | exact leRL_refl _ | apply And.intro)
      · show gs.length - (i + 1) < gs.length - i
        omega
    have hil : i = gs.length := by have : ¬ i < gs.length := by simpa using h
                                   omega
    rw [List.drop_eq_nil_of_le (by omega)] at hni
    simp only [List.foldl_nil] at hni
    ((try dsimp only [awp]); (conv => whnf))
    (refine ⟨inr64 (by omega) (by omega), ?_⟩; (conv => whnf))
    refine ⟨(k + 1, p1, p2), ?_, ?_, ?_⟩
    · exact ⟨hkl, by show (nodesFrom m (k + 1)).foldl (stepN m F) (p1, p2) = _; rw [hrs]; exact hni, hp⟩
    · refine ⟨?_, .mk ?_ ⟨by simp, trivial⟩⟩
      · (repeat' first | exact rfl | exact trivial | exact HWk.refl rfl | exact leRL_refl _ | apply And.intro)
        all_goals (show _ = _; congr 1 <;> omega)
      · (repeat' first | exact rfl | exact trivial | exact HWk.refl rfl | exact leRL_refl _ | apply And.intro)
    · show m.pages.length + 1 - (k + 1) < m.pages.length + 1 - k
      omega
  have hkl : m.pages.length + 1 ≤ k := by simp only [List.length_map] at h; omega
  rw [nodesFrom_end hkl] at hn
  simp only [List.foldl_nil] at hn
  rw [← hn] at hR
  subst hR
  ((try dsimp only [awp]); (conv => whnf))
  (refine FinSpec.mono ?_; (conv => whnf); refine ⟨?_, rfl⟩; (conv => whnf))
  (repeat' first | exact rfl | exact trivial | exact HWk.refl rfl | exact leRL_refl _ | apply And.intro)
end S

open Go Go.AL Go.Proofs
namespace S
set_option maxRecDepth 100000

inductive Reach (m : Md) (r : Node) : Node → Prop
  | root : Reach m r r
  | step {x y : Node} (h : Reach m r x) (h2 : x.1 = 2) (hy : y ∈ kidsM m x) : Reach m r y

theorem Reach.leaf {m : Md} {r x : Node} (h : Reach m r x) (hr : r.1 ≠ 2) : x = r := by
  induction h with
  | root => rfl
  | step h h2 hy ih => rw [ih] at h2; exact absurd h2 hr

theorem Reach.ok {m : Md} {r x : Node} (hc : ClosedM m) (hr : okN m r) (h : Reach m r x) : okN m x := by
  induction h with
  | root => exact hr
  | step h h2 hy ih => exact (okN_kids hc ih h2).2 _ hy

theorem visited_reach {m : Md} (hM : MOk m) (x : Node) : x ∈ visitedM m ↔ Reach m (resR m (-1) m.top) x := by
  have hin := hM.inOk (.inl rfl) hM.top
  constructor
  · have := walk_ok (kids := kidsM m) (step := fun (st : List Node) x => st ++ [x]) (fun x => Reach m (resR m (-1) m.top) x) (fun st => ∀ y ∈ st, Reach m (resR m (-1) m.top) y) (fun x hx h2 y hy => .step hx h2 hy) (fun st x hx h y hy => by
      rcases List.mem_append.1 hy with hy | hy
      · exact h y hy
      · obtain rfl : y = x := by simpa using hy
        exact hx) (fuelM m) (resR m (-1) m.top) ⟨[], []⟩ .root (by simp)
    exact this x
  · intro h
    have haf := met_all hM.closed hM.cyc hin.ok
    have key : (x.1 = 2 → look (walkF (kidsM m) (fun st x => st ++ [x]) (fuelM m) (resR m (-1) m.top) ⟨[], []⟩).2.es x = 2) ∧ x ∈ (walkF (kidsM m) (fun st x => st ++ [x]) (fuelM m) (resR m (-1) m.top) ⟨[], []⟩).2.st := by
      induction h with
      | root =>
        refine ⟨haf.done, ?_⟩
        by_cases e : (resR m (-1) m.top).1 = 2
        · exact (haf.inv.met _ (haf.done e)).1
        · exact haf.leaf e
      | step h h2 hy ih =>
        obtain ⟨rank, hr⟩ := haf.inv.rank
        have hd := ih.1 h2
        refine ⟨fun e => (hr _ hd _ hy e).1, ?_⟩
        rename_i a b
        by_cases e : b.1 = 2
        · exact (haf.inv.met _ (hr _ hd _ hy e).1).1
        · exact (haf.inv.met _ hd).2 _ hy e
    exact key.2

inductive RI (us : List (List Int)) (f : Nat) : Nat → Prop
  | root : RI us f f
  | step {i : Nat} {k : Int} (h : RI us f i) (hk : k ∈ us.getD i []) : RI us f k.toNat

theorem markB_le {d : List Bool} {i : Nat} {k : Int} : LeD d (markB d i k) := by
  intro j h
  unfold markB
  rw [getD_set]
  split
  · rename_i e; rw [e.1, h, Bool.true_or]
  · exact h

theorem marksB_le {i : Nat} : ∀ (l : List Int) (d : List Bool), LeD d (marksB i l d)
  | [], d => .refl d
  | _ :: l, _ => markB_le.trans (marksB_le l _)

theorem passB_le : ∀ (us : List (List Int)) (i : Nat) (d : List Bool), LeD d (passB i us d)
  | [], _, d => .refl d
  | l :: us, i, d => (marksB_le l d).trans (passB_le us (i + 1) _)

theorem marks_in {i : Nat} : ∀ (l : List Int) (d : List Bool) (k : Int), k ∈ l → d.getD i false = true → k.toNat < d.length → (marksB i l d).getD k.toNat false = true
  | [], _, _, h, _, _ => by simp at h
  | x :: l, d, k, h, hd, hl => by
    simp only [marksB]
    rcases List.mem_cons.1 h with rfl | h
    · refine marksB_le l _ _ ?_
      unfold markB
      rw [getD_set, if_pos ⟨rfl, hl⟩, hd, Bool.or_true]
    · exact marks_in l _ k h (markB_le _ hd) (by rw [markB_len]; exact hl)

theorem pass_mark : ∀ (us : List (List Int)) (j : Nat) (d : List Bool) (i : Nat) (k : Int), k ∈ us.getD i [] → d.getD (j + i) false = true → k.toNat < d.length → (passB j us d).getD k.toNat false = true
  | [], _, _, _, _, h, _, _ => by simp at h
  | l :: us, j, d, 0, k, h, hd, hl => passB_le us (j + 1) _ _ (marks_in l d k (by simpa using h) hd hl)
  | l :: us, j, d, i + 1, k, h, hd, hl => pass_mark us (j + 1) _ i k (by simpa using h) (marksB_le l d _ (by rw [show j + 1 + i = j + (i + 1) by omega]; exact hd)) (by rw [marksB_len]; exact hl)

def ClosedB (us : List (List Int)) (d : List Bool) : Prop := ∀ i : Nat, d.getD i false = true → ∀ k ∈ us.getD i [], d.getD k.toNat false = true

theorem set_same {d : List Bool} {k : Nat} : d.set k (d.getD k false) = d := by
  by_cases h : k < d.length
  · rw [getD_lt' h]; exact List.set_getElem_self h
  · exact List.set_eq_of_length_le (by omega)

theorem marks_same {i : Nat} : ∀ (l : List Int) (d : List Bool), (d.getD i false = true → ∀ k ∈ l, d.getD k.toNat false = true) → marksB i l d = d
  | [], _, _ => rfl
  | k :: l, d, h => by
    have e : markB d i k = d := by
      unfold markB
      cases hi : d.getD i false
      · rw [Bool.or_false]; exact set_same
      · have := h hi k (by simp)
        rw [Bool.or_true]
        rw [← this]; exact set_same
    simp only [marksB]
    rw [e]
    exact marks_same l d fun hi k hk => h hi k (by simp [hk])

theorem pass_same : ∀ (us : List (List Int)) (j : Nat) (d : List Bool), (∀ i : Nat, d.getD (j + i) false = true → ∀ k ∈ us.getD i [], d.getD k.toNat false = true) → passB j us d = d
  | [], _, _, _ => rfl
  | l :: us, j, d, h => by
    simp only [passB]
    rw [marks_same l d (fun hi k hk => h 0 (by simpa using hi) k (by simpa using hk))]
    exact pass_same us (j + 1) d fun i hi k hk => h (i + 1) (by rw [show j + (i + 1) = j + 1 + i by omega]; exact hi) k (by simpa using hk)

theorem rounds_same {us : List (List Int)} {d : List Bool} (h : ClosedB us d) : ∀ r, roundsB us r d = d
  | 0 => rfl
  | r + 1 => by simp only [roundsB]; rw [pass_same us 0 d (fun i hi => h i (by rwa [Nat.zero_add] at hi))]; exact rounds_same h r

theorem rounds_closed {us : List (List Int)} (hus : ∀ i, ∀ k ∈ us.getD i [], k.toNat < us.length) : ∀ (r : Nat) (d : List Bool), d.length = us.length → d.count false ≤ r → ClosedB us (roundsB us r d)
  | 0, d, hd, h => by
    simp only [roundsB]
    intro i _ k hk
    have hk := hus i k hk
    have h0 : ¬ false ∈ d := List.count_eq_zero.1 (by omega)
    rw [getD_lt' (by omega)]
    have hm := List.getElem_mem (l := d) (n := k.toNat) (by omega)
    cases e : d[k.toNat]'(by omega)
    · rw [e] at hm; exact absurd hm h0
    · rfl
  | r + 1, d, hd, h => by
    by_cases hc : ClosedB us d
    · rw [rounds_same hc]; exact hc
    simp only [roundsB]
    refine rounds_closed hus r _ (by rw [passB_len]; exact hd) ?_
    obtain ⟨h1, h2⟩ := cnt_lt d (passB 0 us d) (passB_len us 0 d).symm (passB_le us 0 d)
    have : ∃ i : Nat, d.getD i false = true ∧ ∃ k ∈ us.getD i [], ¬ d.getD k.toNat false = true := by
      apply Classical.byContradiction
      intro hn
      refine hc fun i hi k hk => ?_
      apply Classical.byContradiction
      intro hne
      exact hn ⟨i, hi, k, hk, hne⟩
    obtain ⟨i, hi, k, hk, hne⟩ := this
    have hkl := hus i k hk
    have := h2 ⟨k.toNat, by omega, by simpa using hne, pass_mark us 0 d i k hk (by rwa [Nat.zero_add]) (by omega)⟩
    omega

theorem below_closed {us : List (List Int)} (hus : ∀ i, ∀ k ∈ us.getD i [], k.toNat < us.length) (f : Nat) : ClosedB us (belowU us f) :=
  rounds_closed hus _ _ (by simp) (by have := List.count_le_length (a := false) (l := (List.replicate us.length false).set f true); simpa using this)

def AllRI (us : List (List Int)) (f : Nat) (d : List Bool) : Prop := ∀ j : Nat, d.getD j false = true → RI us f j

theorem marks_RI {us : List (List Int)} {f i : Nat} : ∀ (l : List Int) (d : List Bool), (∀ k ∈ l, k ∈ us.getD i []) → AllRI us f d → AllRI us f (marksB i l d)
  | [], _, _, h => h
  | k :: l, d, hl, h => by
    simp only [marksB]
    refine marks_RI l _ (fun k hk => hl k (by simp [hk])) fun j hj => ?_
    unfold markB at hj
    rw [getD_set] at hj
    split at hj
    · rename_i e
      rw [← e.1]
      rw [Bool.or_eq_true] at hj
      rcases hj with g | g
      · exact h _ g
      · exact .step (h _ g) (hl k (by simp))
    · exact h j hj

theorem pass_RI {us : List (List Int)} {f : Nat} : ∀ (l : List (List Int)) (i : Nat) (d : List Bool), us.drop i = l → AllRI us f d → AllRI us f (passB i l d)
  | [], _, _, _, h => h
  | x :: l, i, d, hl, h => by
    simp only [passB]
    have h1 : us[i]? = some x := by rw [← List.head?_drop, hl]; rfl
    have h2 : us.drop (i + 1) = l := by rw [← List.tail_drop, hl]; rfl
    exact pass_RI l (i + 1) _ h2 (marks_RI x d (fun k hk => by rw [List.getD_eq_getElem?_getD, h1]; exact hk) h)

theorem rounds_RI {us : List (List Int)} {f : Nat} : ∀ (r : Nat) (d : List Bool), AllRI us f d → AllRI us f (roundsB us r d)
  | 0, _, h => h
  | r + 1, d, h => by simp only [roundsB]; exact rounds_RI r _ (pass_RI us 0 d rfl h)

theorem rounds_le {us : List (List Int)} : ∀ (r : Nat) (d : List Bool), LeD d (roundsB us r d)
  | 0, d => .refl d
  | r + 1, d => by simp only [roundsB]; exact (passB_le us 0 d).trans (rounds_le r _)

theorem below_iff {us : List (List Int)} (hus : ∀ i, ∀ k ∈ us.getD i [], k.toNat < us.length) {f : Nat} (hf : f < us.length) (j : Nat) : (belowU us f).getD j false = true ↔ RI us f j := by
  constructor
  · refine rounds_RI (us := us) us.length _ (fun j hj => ?_) j
    rw [getD_set] at hj
    split at hj
    · rename_i e; rw [← e.1]; exact .root
    · rw [List.getD_eq_getElem?_getD, List.getElem?_replicate] at hj
      split at hj <;> simp at hj
  · intro h
    induction h with
    | root => exact rounds_le _ _ _ (by rw [getD_set, if_pos ⟨rfl, by simpa using hf⟩])
    | step h hk ih => exact below_closed hus f _ ih _ hk
end S

open Go Go.AL Go.Proofs
namespace S
set_option maxRecDepth 100000

theorem uses_nat {m : Md} : ∀ i, ∀ k ∈ (usesM m).getD i [], k.toNat < (usesM m).length := by
  intro i k hk
  by_cases h : i < (usesM m).length
  · rw [getD_lt' h] at hk
    have := uses_lt _ (List.getElem_mem h) k hk
    omega
  · rw [List.getD_eq_getElem?_getD, List.getElem?_eq_none (by omega)] at hk
    simp at hk

theorem num_inj {m : Md} {x y : Node} (hx : x ∈ allNodes m) (hy : y ∈ allNodes m) (h : (numR m x).toNat = (numR m y).toNat) : x = y := by
  obtain ⟨_, h1⟩ := num_get hx
  obtain ⟨_, h2⟩ := num_get hy
  rw [h, h2] at h1
  exact (Option.some.inj h1).symm

theorem mark_reach {m : Md} (hc : ClosedM m) {r : Node} (hr : r ∈ allNodes m) {y : Node} (hy : y ∈ allNodes m) : (belowU (usesM m) (numR m r).toNat).getD (numR m y).toNat false = true ↔ Reach m r y := by
  rw [below_iff uses_nat (numR_lt hr).2]
  constructor
  · intro h
    have key : ∀ j, RI (usesM m) (numR m r).toNat j → ∃ z ∈ allNodes m, (numR m z).toNat = j ∧ Reach m r z := by
      intro j h
      induction h with
      | root => exact ⟨r, hr, rfl, .root⟩
      | step h hk ih =>
        obtain ⟨z, hz, e, hR⟩ := ih
        rw [← e, uses_get hz, uses_kids hc hz] at hk
        obtain ⟨w, hw, rfl⟩ := List.mem_map.1 hk
        obtain ⟨hw, h2⟩ := List.mem_filter.1 hw
        have hz2 := (mem_all.1 hz).1
        exact ⟨w, (okN_kids hc ((okN_kids hc (.inr (.inr hz)) hz2).2 w hw) (of_decide_eq_true h2)).1, rfl, .step hR hz2 hw⟩
    obtain ⟨z, hz, e, hR⟩ := key _ h
    rw [← num_inj hz hy e]; exact hR
  · intro h
    have key : ∀ z, Reach m r z → z.1 = 2 → RI (usesM m) (numR m r).toNat (numR m z).toNat := by
      intro z h
      induction h with
      | root => intro _; exact .root
      | step h h2 hy ih =>
        rename_i a b
        intro hb
        have ha := (okN_kids hc (h.ok hc (.inr (.inr hr))) h2).1
        refine .step (ih h2) ?_
        rw [uses_get ha, uses_kids hc ha]
        exact List.mem_map.2 ⟨b, List.mem_filter.2 ⟨hy, by simpa using hb⟩, rfl⟩
    exact key y h (mem_all.1 hy).1

theorem evL_bit {m : Md} {a : Int} {i : Nat} : ∀ (l : List Str) (e : Nat), (evL m a l e).testBit i = true ↔ (e.testBit i = true ∨ ∃ s ∈ l, (findX m a s).1 = 0 ∧ (findX m a s).2.2.toNat = i)
  | [], e => by simp [evL]
  | s :: l, e => by
    simp only [evL]
    rw [evL_bit l]
    by_cases h : (findX m a s).1 = 0
    · rw [if_pos h, Nat.testBit_or, Nat.testBit_two_pow]
      simp only [Bool.or_eq_true, decide_eq_true_eq, List.mem_cons, exists_eq_or_imp]
      constructor
      · rintro ((h1 | h1) | h1)
        · exact .inl h1
        · exact .inr (.inl ⟨h, h1⟩)
        · exact .inr (.inr h1)
      · rintro (h1 | h1 | h1)
        · exact .inl (.inl h1)
        · exact .inl (.inr h1.2)
        · exact .inr h1
    · rw [if_neg h]
      simp only [List.mem_cons, exists_eq_or_imp]
      constructor
      · rintro (h1 | h1)
        · exact .inl h1
        · exact .inr (.inr h1)
      · rintro (h1 | h1 | h1)
        · exact .inl h1
        · exact absurd h1.1 h
        · exact .inr h1

theorem needs_fold {m : Md} {F : List Bool} {i : Nat} : ∀ (l : List Node) (p : Nat × Bool),
    (((l.foldl (stepN m F) p).1.testBit i = true ↔ (p.1.testBit i = true ∨ ∃ y ∈ l, F.getD (numR m y).toNat false = true ∧ ∃ s ∈ (gateAt m y).ins, (findX m y.2.1 s).1 = 0 ∧ (findX m y.2.1 s).2.2.toNat = i)) ∧
    ((l.foldl (stepN m F) p).2 = true ↔ (p.2 = true ∨ ∃ y ∈ l, F.getD (numR m y).toNat false = true ∧ dynG (gateAt m y) = true)))
  | [], p => by simp
  | y :: l, p => by
    obtain ⟨h1, h2⟩ := needs_fold (i := i) l (stepN m F p y)
    simp only [List.foldl_cons]
    rw [h1, h2]
    simp only [List.mem_cons, exists_eq_or_imp]
    by_cases h : F.getD (numR m y).toNat false = true
    · have e : stepN m F p y = (evL m y.2.1 (gateAt m y).ins p.1, p.2 || dynG (gateAt m y)) := if_pos h
      rw [e]
      dsimp only
      rw [evL_bit, Bool.or_eq_true]
      simp only [h, true_and, or_assoc, and_self]
    · have e : stepN m F p y = p := if_neg h
      rw [e]
      simp only [h, false_and, false_or, and_self, Bool.false_eq_true]

theorem dyn_kind {m : Md} (hM : MOk m) {y : Node} (hy : y ∈ allNodes m) : dynG (gateAt m y) = decide (6 ≤ (gateAt m y).kind) := by
  obtain ⟨_, h2, h3, h4⟩ := mem_all.1 hy
  have hk : y.2.2.toNat < (gatesM m y.2.1).length := by omega
  have ho := (hM.gate h2 hk).own
  have e : gateAt m y = (gatesM m y.2.1)[y.2.2.toNat] := by unfold gateAt; exact getD_lt' hk
  rw [← e] at ho
  generalize gateAt m y = g at *
  unfold mgErr at ho
  split at ho
  · cases ho
  split at ho
  · cases ho
  rename_i h5 h6
  unfold dynG
  by_cases h7 : 6 ≤ g.kind
  · rw [decide_eq_true h7]
    have : g.kind = 6 ∨ g.kind = 7 ∨ g.kind = 8 := by omega
    rcases this with e | e | e <;> simp [e]
  · rw [decide_eq_false h7, decide_eq_false (by omega), decide_eq_false (by omega), decide_eq_false (by omega)]; rfl

theorem needs_eq {m : Md} (hM : MOk m) : needsR m (findX m (-1) m.top) = (usedR m, dynR m) := by
  obtain ⟨he, _⟩ := findX_in hM (.inl rfl) hM.top
  have hok := (hM.inOk (.inl rfl) hM.top).ok
  have hv := visited_reach hM
  have hev := hM.lens.1
  have hc := hM.closed
  rw [he]
  have hu : ∀ i, (usedR m).testBit i = true ↔ ∃ x ∈ visitedM m, x.1 = 0 ∧ x.2.2.toNat < 24 ∧ x.2.2.toNat = i := fun i => bitsV_bit _ i
  have hd : dynR m = true ↔ ∃ x ∈ visitedM m, x.1 = 2 ∧ 6 ≤ (gateAt m x).kind := by
    unfold dynR dynV
    rw [List.any_eq_true]
    simp only [Bool.and_eq_true, decide_eq_true_eq]
  generalize visitedM m = V at *
  generalize usedR m = U at *
  generalize dynR m = D at *
  generalize resR m (-1) m.top = r at *
  have h24 : ∀ x, okN m x → x.1 = 0 → x.2.2.toNat < 24 := by
    intro x hx h0
    rcases hx with h | h | h
    · omega
    · omega
    · have := (mem_all.1 h).1; omega
  have fin : ∀ (A : Nat) (B : Bool), (∀ i, A.testBit i = true ↔ U.testBit i = true) → (B = true ↔ D = true) → (A, B) = (U, D) := by
    intro A B h1 h2
    rw [Nat.eq_of_testBit_eq fun i => Bool.eq_iff_iff.2 (h1 i), Bool.eq_iff_iff.2 h2]
  unfold needsR
  by_cases k0 : r.1 = 0
  · rw [if_pos k0]
    refine fin _ _ (fun i => ?_) ?_
    · rw [hu, Nat.testBit_two_pow, decide_eq_true_eq]
      constructor
      · intro h
        exact ⟨r, (hv r).2 .root, k0, h24 r hok k0, h⟩
      · rintro ⟨x, hx, _, _, h⟩
        rw [((hv x).1 hx).leaf (by omega)] at h
        exact h
    · rw [hd]
      constructor
      · intro h; cases h
      · rintro ⟨x, hx, h, _⟩
        rw [((hv x).1 hx).leaf (by omega)] at h
        omega
  rw [if_neg k0]
  by_cases k1 : r.1 = 1
  · rw [if_pos k1]
    refine fin _ _ (fun i => ?_) ?_
    · rw [hu]
      constructor
      · intro h; simp at h
      · rintro ⟨x, hx, h, _⟩
        rw [((hv x).1 hx).leaf (by omega)] at h
        omega
    · rw [hd]
      constructor
      · intro h; cases h
      · rintro ⟨x, hx, h, _⟩
        rw [((hv x).1 hx).leaf (by omega)] at h
        omega
  rw [if_neg k1]
  have hr : r ∈ allNodes m := by
    rcases hok with h | h | h
    · omega
    · omega
    · exact h
  have hmr := fun y (hy : y ∈ allNodes m) => mark_reach hc hr hy
  generalize belowU (usesM m) (numR m r).toNat = F at *
  refine fin _ _ (fun i => ?_) ?_
  · rw [hu]
    rw [(needs_fold (allNodes m) (0, false)).1]
    constructor
    · rintro (h | ⟨y, hy, hF, s, hs, h0, hi⟩)
      · simp at h
      · have hR := (hmr y hy).1 hF
        have e := find_res (hc y hy s hs).2.2 (hc y hy s hs).2.1
        rw [e] at h0 hi
        have hk : resR m y.2.1 s ∈ kidsM m y := List.mem_map.2 ⟨s, hs, rfl⟩
        exact ⟨_, (hv _).2 (.step hR (mem_all.1 hy).1 hk), h0, h24 _ (hc y hy s hs).2.2 h0, hi⟩
    · rintro ⟨x, hx, h0, _, hi⟩
      refine .inr ?_
      have hR := (hv x).1 hx
      cases hR with
      | root => omega
      | step h h2 hy =>
        rename_i y
        have hya := (okN_kids hc (h.ok hc hok) h2).1
        obtain ⟨s, hs, rfl⟩ := List.mem_map.1 hy
        have e := find_res (hc y hya s hs).2.2 (hc y hya s hs).2.1
        exact ⟨y, hya, (hmr y hya).2 h, s, hs, by rw [e]; exact h0, by rw [e]; exact hi⟩
  · rw [hd]
    rw [(needs_fold (i := 0) (allNodes m) (0, false)).2]
    constructor
    · rintro (h | ⟨y, hy, hF, h0⟩)
      · cases h
      · rw [dyn_kind hM hy] at h0
        exact ⟨y, (hv y).2 ((hmr y hy).1 hF), (mem_all.1 hy).1, of_decide_eq_true h0⟩
    · rintro ⟨x, hx, h2, h6⟩
      have hR := (hv x).1 hx
      have hxa := (okN_kids hc (hR.ok hc hok) h2).1
      exact .inr ⟨x, hxa, (hmr x hxa).2 hR, by rw [dyn_kind hM hxa]; exact decide_eq_true h6⟩

theorem c_ModelNeeds (h1c : OneC) (m : Md) : FnH Tryz.prog 5 [m.av] [] (.bool true) [] := by
  have c0 := c_awake22.weak (R' := .tt) rfl
  have cl := c_LightM m _ rfl
  cases hL : lightM m with
  | false =>
    rw [hL] at cl
    have cl := cl.weak (R' := .ff) rfl
    refine FnH.intro lay mixed Tryz.func5 (by kernel_rfl) rfl (by kernel_rfl) rfl fun hok => ?_
    ((try dsimp only [argC, succC]); (try dsimp only [awp]); (conv => whnf))
    refine .pure _ _ ?_ ⟨rfl, rfl⟩ c0 fun _ => ?_
    · exact leL_refl _
    ((try dsimp only [awp]); (conv => whnf))
    refine .pure _ _ ?_ ⟨rfl, rfl⟩ cl fun _ => ?_
    · exact leL_refl _
    ((try dsimp only [awp]); (conv => whnf))
    refine .pure _ _ ?_ ⟨rfl, rfl⟩ c0 fun _ => ?_
    · exact leL_refl _
    ((try dsimp only [awp]); (conv => whnf))
    (refine FinSpec.mono ?_; (conv => whnf); refine ⟨?_, rfl⟩; (conv => whnf))
    (repeat' first | exact rfl | exact trivial | exact HWk.refl rfl | exact leRL_refl _ | apply And.intro)
  | true =>
  rw [hL] at cl
  have cl := cl.weak (R' := .tt) rfl
  obtain ⟨hB, hC⟩ := lightM_B hL
  have hX := lightM_X hL
  have cr := c_refCheck h1c m hX hB _ rfl
  by_cases hc : checkM m ≠ 0
  · generalize checkM m = e at *
    refine FnH.intro lay mixed Tryz.func5 (by kernel_rfl) rfl (by kernel_rfl) rfl fun hok => ?_
    ((try dsimp only [argC, succC]); (try dsimp only [awp]); (conv => whnf))
    refine .pure _ _ ?_ ⟨rfl, rfl⟩ c0 fun _ => ?_
    · exact leL_refl _
    ((try dsimp only [awp]); (conv => whnf))
    refine .pure _ _ ?_ ⟨rfl, rfl⟩ cl fun _ => ?_
    · exact leL_refl _
    ((try dsimp only [awp]); (conv => whnf))
    refine .pure _ _ ?_ ⟨rfl, rfl⟩ cr fun _ => ?_
    · exact leL_refl _
    ((try dsimp only [awp]); (conv => whnf))
    refine And.intro (fun _ => ?_) (fun h => absurd hc h)
    ((try dsimp only [awp]); (conv => whnf))
    refine .pure _ _ ?_ ⟨rfl, rfl⟩ c0 fun _ => ?_
    · exact leL_refl _
    ((try dsimp only [awp]); (conv => whnf))
    (refine FinSpec.mono ?_; (conv => whnf); refine ⟨?_, rfl⟩; (conv => whnf))
    (repeat' first | exact rfl | exact trivial | exact HWk.refl rfl | exact leRL_refl _ | apply And.intro)
  have hc : checkM m = 0 := by simpa using hc
  have hM := checkM_ok hc
  rw [hc] at cr
  have cd := c_Dynamic m hC hB _ rfl
  have cu := c_Used m hC hB _ rfl
  rw [if_pos hc] at cd cu
  have cn := c_Needs m hM hB _ rfl
  rw [needs_eq hM] at cn
  dsimp only at cn
  generalize usedR m = u at *
  generalize dynR m = d at *
  refine FnH.intro lay mixed Tryz.func5 (by kernel_rfl) rfl (by kernel_rfl) rfl fun hok => ?_
  ((try dsimp only [argC, succC]); (try dsimp only [awp]); (conv => whnf))
  refine .pure _ _ ?_ ⟨rfl, rfl⟩ c0 fun _ => ?_
  · exact leL_refl _
  ((try dsimp only [awp]); (conv => whnf))
  refine .pure _ _ ?_ ⟨rfl, rfl⟩ cl fun _ => ?_
  · exact leL_refl _
  ((try dsimp only [awp]); (conv => whnf))
  refine .pure _ _ ?_ ⟨rfl, rfl⟩ cr fun _ => ?_
  · exact leL_refl _
  ((try dsimp only [awp]); (conv => whnf))
  refine And.intro (fun h => absurd rfl h) (fun _ => ?_)
  ((try dsimp only [awp]); (conv => whnf))
  refine .pure _ _ ?_ ⟨rfl, rfl⟩ cd fun _ => ?_
  · exact leL_refl _
  ((try dsimp only [awp]); (conv => whnf))
  refine .pure _ _ ?_ ⟨rfl, rfl⟩ cu fun _ => ?_
  · exact leL_refl _
  ((try dsimp only [awp]); (conv => whnf))
  refine .pure _ _ ?_ ⟨rfl, rfl⟩ cn fun _ => ?_
  · exact leL_refl _
  ((try dsimp only [awp]); (conv => whnf))
  refine And.intro (fun _ => ?_) (fun h => absurd rfl h)
  ((try dsimp only [awp]); (conv => whnf))
  (refine FinSpec.mono ?_; (conv => whnf); refine ⟨?_, rfl⟩; (conv => whnf))
  show _ ↔ _
  simp
end S

open Go Go.AL Go.Proofs
namespace S
theorem one : OneC := r_of
end S
