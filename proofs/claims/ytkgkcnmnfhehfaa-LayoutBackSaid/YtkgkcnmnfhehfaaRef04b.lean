/- What is proved: what the reference's Bounds answer: the program's least and greatest numbers of a kind. -/
import Derived.Test.YtkgkcnmnfhehfaaRef01
import Derived.Test.YtkgkcnmnfhehfaaRegion
import Derived.Test.YtkgkcnmnfhehfaaWide2
namespace Go.Proofs.Ytkgkcnmnfhehfaa
open Go.RowKit Go.Proofs.Heap Go.Proofs.Wide

abbrev LA : Array Value := #[.int .u64 0, .int .u64 0, .int .u64 128, .int .u64 32768, .int .u64 2147483648, .int .u64 9223372036854775808, .int .u64 0, .int .u64 0, .int .u64 0, .int .u64 0, .int .u64 0]
abbrev GA : Array Value := #[.int .u64 0, .int .u64 1, .int .u64 127, .int .u64 32767, .int .u64 2147483647, .int .u64 9223372036854775807, .int .u64 255, .int .u64 65535, .int .u64 4294967295, .int .u64 18446744073709551615, .int .u64 18446744073709551615]
theorem results_cc {fn : Func} {p u : Tmp} {ty tz : TypeId} (h : fn.results = #[.cell p ty, .cell u tz]) (tmps : Array Value) {P : Program} {w : World} {ad ae : Addr} {v x : Value}
    (hp : tmps.getD p undef = .pointer (some ad)) (hl : (loadVar ty ad).run P w = .ok v w) (hq : tmps.getD u undef = .pointer (some ae)) (hm : (loadVar tz ae).run P w = .ok x w) : (results fn tmps).run P w = .ok (.tuple #[v, x]) w := by
  have hp' : tmps[p]?.getD undef = .pointer (some ad) := by simpa using hp
  have hq' : tmps[u]?.getD undef = .pointer (some ae) := by simpa using hq
  simp [results, h, hp', hq', asAddr, hl, hm]
theorem info_int3 : (Try.prog.info? 57).map (·.size) = some 3 := by kernel_rfl
theorem load_int3 {w : World} {b : Nat} {x0 x1 x2 : Value} (h : w.heap[b]? = some (.cells #[x0, x1, x2] 57 (0, 0))) : (loadVar 57 ⟨b, 0, none⟩).run Try.prog w = .ok (.agg #[x0, x1, x2]) w :=
  run_loadVar_row w b _ 57 _ _ _ h Try.underlying57 rfl (by rw [info_int3]; rfl)
/-- Two numbers stored. -/
def st3 (w : World) (b : Nat) (x0 x1 x2 : Value) : World := ((w.setCell ⟨b, 0, none⟩ x0).setCell ⟨b, 1, none⟩ x1).setCell ⟨b, 2, none⟩ x2
theorem st3_heap {w : World} {b : Nat} {a0 a1 a2 : Value} {t : TypeId} (x0 x1 x2 : Value) (h : w.heap[b]? = some (.cells #[a0, a1, a2] t (0, 0))) : (st3 w b x0 x1 x2).heap[b]? = some (.cells #[x0, x1, x2] t (0, 0)) := by
  unfold st3; rw [hsc_same (hsc_same (hsc_same h 0 x0) 1 x1) 2 x2]; rfl
theorem st3_keep (w : World) (b : Nat) (x0 x1 x2 : Value) : Keep (fun k => k = b) w (st3 w b x0 x1 x2) := (((Keep.refl (fun k => k = b) w).setCell (p := ⟨b, 0, none⟩) rfl x0).setCell (p := ⟨b, 1, none⟩) rfl x1).setCell (p := ⟨b, 2, none⟩) rfl x2

theorem run_store3 (A : Act) (w : World) {i j b : Nat} {af : Array Edge} {g : Option (Nat × Bool)} {ps : String} {t : TypeId} {ng : Bool} {hi lo : Int} {cur : Array Value} {ct : TypeId}
    (e0 : A.eval (.tmp i) = .pointer (some ⟨b, 0, none⟩)) (e1 : A.eval (.tmp j) = .agg #[.bool ng, .int .u64 hi, .int .u64 lo]) (hb : w.heap[b]? = some (.cells cur ct (0, 0))) (hs : cur.size = 3) :
    (execOp A.eval ⟨none, Op.store 57 (.tmp i) (.tmp j), t, ps, af, g⟩).run Try.prog w = .ok .skip (st3 w b (.bool ng) (.int .u64 hi) (.int .u64 lo)) := by
  have f0 : A.tmps[i]?.getD undef = .pointer (some ⟨b, 0, none⟩) := by simpa [Act.eval] using e0
  have f1 : A.tmps[j]?.getD undef = .agg #[.bool ng, .int .u64 hi, .int .u64 lo] := by simpa [Act.eval] using e1
  obtain ⟨x0, c0⟩ : ∃ x, w.cell? ⟨b, 0, none⟩ = some x := ⟨_, cell_of hb (Array.getElem?_eq_getElem (by omega))⟩
  obtain ⟨x1, c1⟩ : ∃ x, w.cell? ⟨b, 1, none⟩ = some x := ⟨_, cell_of hb (Array.getElem?_eq_getElem (by omega))⟩
  obtain ⟨x2, c2⟩ : ∃ x, w.cell? ⟨b, 2, none⟩ = some x := ⟨_, cell_of hb (Array.getElem?_eq_getElem (by omega))⟩
  have z0 := free_of hb 0
  have z1 := free_of hb 1
  have z2 := free_of hb 2
  unfold st3
  simp [go_sem, f0, f1, c0, c1, c2, z0, z1, z2]

set_option maxRecDepth 20000 in
set_option maxHeartbeats 4000000 in
theorem r_bounds (k : Int) (h1 : 1 ≤ k) (h2 : k ≤ 10) (w : World) : Calls Try.prog 48 #[.int .i64 k] w fun r w' => r = .returned (.tuple #[WV (leastW k), WV (greatW k)]) ∧ Keep (fun _ => False) w w' := by
  have g1 : decide (k < 1) = false := decide_eq_false (by omega)
  have g2 : decide (10 < k) = false := decide_eq_false (by omega)
  have hc : k = 1 ∨ k = 2 ∨ k = 3 ∨ k = 4 ∨ k = 5 ∨ k = 6 ∨ k = 7 ∨ k = 8 ∨ k = 9 ∨ k = 10 := by omega
  obtain ⟨w4, hw4, hb1, hb2, hb3, hb4, hk4⟩ : ∃ w4, w4 = (((w.alloc (.cells Z3 57)).alloc (.cells Z3 57)).alloc (.cells LA 114)).alloc (.cells GA 114) ∧ w4.heap[w.heap.size]? = some (.cells Z3 57 (0, 0)) ∧ w4.heap[w.heap.size + 1]? = some (.cells Z3 57 (0, 0)) ∧
      w4.heap[w.heap.size + 1 + 1]? = some (.cells LA 114 (0, 0)) ∧ w4.heap[w.heap.size + 1 + 1 + 1]? = some (.cells GA 114 (0, 0)) ∧ Keep (fun _ => False) w w4 := by
    refine ⟨_, rfl, ?_, ?_, ?_, ?_, ((((Keep.refl _ w).alloc _).alloc _).alloc _).alloc _⟩
    · exact (((Keep.refl (fun _ => False) (w.alloc (.cells Z3 57))).alloc _).alloc _ |>.alloc _).get (heap_alloc_new w _) id
    · have := (((Keep.refl (fun _ => False) ((w.alloc (.cells Z3 57)).alloc (.cells Z3 57))).alloc (.cells LA 114)).alloc (.cells GA 114)).get (heap_alloc_new (w.alloc (.cells Z3 57)) _) id
      simpa using this
    · have := ((Keep.refl (fun _ => False) (((w.alloc (.cells Z3 57)).alloc (.cells Z3 57)).alloc (.cells LA 114))).alloc (.cells GA 114)).get (heap_alloc_new ((w.alloc (.cells Z3 57)).alloc (.cells Z3 57)) _) id
      simpa using this
    · have := heap_alloc_new (((w.alloc (.cells Z3 57)).alloc (.cells Z3 57)).alloc (.cells LA 114)) (.cells GA 114)
      simpa using this
  have HB1 := hid hb1; have HB2 := hid hb2; have HB3 := hid hb3; have HB4 := hid hb4; have HK := hid hk4
  clear hb1 hb2 hb3 hb4 hk4 h1 h2
  go_enter Try.func48, Try.ntmps48
  go_upto_region 5 with fail
  rw [← hw4]
  clear hw4
  generalize hsb : w.heap.size = sb at *
  clear g1 g2
  rcases hc with rfl | rfl | rfl | rfl | rfl | rfl | rfl | rfl | rfl | rfl
  · as_aux_lemma =>
    have c1 : w4.drew.cell? ⟨sb + 1 + 1, 1, none⟩ = some (.int .u64 0) := cell_of (w := w4.drew) HB3.out (by rfl)
    have c2 : w4.drew.cell? ⟨sb + 1 + 1 + 1, 1, none⟩ = some (.int .u64 1) := cell_of (w := w4.drew) HB4.out (by rfl)
    go_wp2_with fail
    refine Plan.wp_region_pl [(false, 0, []), (false, 1, []), (false, 2, []), (false, 3, []), (false, 4, []), (false, 5, []), (false, 6, []), (false, 7, []), (false, 8, []), (false, 9, []), (false, 10, []), (false, 11, []), (true, 12, [11, 10, 9, 8]), (true, 13, [])] (by kernel_rfl) (by kernel_rfl) ?_
    iterate 12 (refine Plan.pl_st rfl ?_; go_big_quiet_step (fail); refine wpQuiet_nil ?_)
    have hs1 := st3_heap (w := w4.drew) (b := sb) (.bool false) (.int .u64 0) (.int .u64 0) HB1.out
    have hk1 := st3_keep w4.drew sb (.bool false) (.int .u64 0) (.int .u64 0)
    have HB2' := hid (hk1.get (k := sb + 1) HB2.out (by omega))
    have HB4' := hid (hk1.get (k := sb + 1 + 1 + 1) HB4.out (by omega))
    refine Plan.pl_run_skip rfl (by kernel_rfl) rfl (run_store3 _ w4.drew (b := sb) (ng := false) (hi := 0) (lo := 0) rfl rfl HB1.out rfl) ?_
    have HS1 := hid hs1; have HK1 := hid hk1
    clear hs1 hk1 c1 c2
    generalize st3 w4.drew sb (.bool false) (.int .u64 0) (.int .u64 0) = w5 at *
    have c2 : w5.cell? ⟨sb + 1 + 1 + 1, 1, none⟩ = some (.int .u64 1) := cell_of HB4'.out (by rfl)
    refine Plan.plQ_mk ?_ ?_
    · iterate 4 (refine Plan.chk_st rfl ?_ ?_; focus (go_big_quiet_step (fail); exact wpQuiet_nil rfl))
      exact Plan.chk_end
    have hs2 := st3_heap (w := w5) (b := sb + 1) (.bool false) (.int .u64 0) (.int .u64 1) HB2'.out
    have hk2 := st3_keep w5 (sb + 1) (.bool false) (.int .u64 0) (.int .u64 1)
    have HS1' := hid (hk2.get HS1.out (by omega))
    refine Plan.pl_run_skip rfl (by kernel_rfl) rfl (run_store3 _ w5 (b := sb + 1) (ng := false) (hi := 0) (lo := 1) rfl rfl HB2'.out rfl) ?_
    have HS2 := hid hs2; have HK2 := hid hk2
    clear hs2 hk2 c2
    generalize st3 w5 (sb + 1) (.bool false) (.int .u64 0) (.int .u64 1) = w6 at *
    refine Plan.plQ_mk Plan.chk_end ?_
    refine Plan.pl_end ?_
    go_wp2
    (try simp only [Exit.inBlock, Exit.then])
    refine bodyPost_ret (results_cc rfl _ rfl (load_int3 HS1'.out) rfl (load_int3 HS2.out)) rfl ?_
    exact ⟨by rfl, (HK.out.drew.trans' HK1.out (fun i hi e => by omega)).trans' HK2.out (fun i hi e => by omega)⟩
  · as_aux_lemma =>
    have c1 : w4.drew.cell? ⟨sb + 1 + 1, 2, none⟩ = some (.int .u64 128) := cell_of (w := w4.drew) HB3.out (by rfl)
    have c2 : w4.drew.cell? ⟨sb + 1 + 1 + 1, 2, none⟩ = some (.int .u64 127) := cell_of (w := w4.drew) HB4.out (by rfl)
    go_wp2_with fail
    refine Plan.wp_region_pl [(false, 0, []), (false, 1, []), (false, 2, []), (false, 3, []), (false, 4, []), (false, 5, []), (false, 6, []), (false, 7, []), (false, 8, []), (false, 9, []), (false, 10, []), (false, 11, []), (true, 12, [11, 10, 9, 8]), (true, 13, [])] (by kernel_rfl) (by kernel_rfl) ?_
    iterate 12 (refine Plan.pl_st rfl ?_; go_big_quiet_step (fail); refine wpQuiet_nil ?_)
    have hs1 := st3_heap (w := w4.drew) (b := sb) (.bool true) (.int .u64 0) (.int .u64 128) HB1.out
    have hk1 := st3_keep w4.drew sb (.bool true) (.int .u64 0) (.int .u64 128)
    have HB2' := hid (hk1.get (k := sb + 1) HB2.out (by omega))
    have HB4' := hid (hk1.get (k := sb + 1 + 1 + 1) HB4.out (by omega))
    refine Plan.pl_run_skip rfl (by kernel_rfl) rfl (run_store3 _ w4.drew (b := sb) (ng := true) (hi := 0) (lo := 128) rfl rfl HB1.out rfl) ?_
    have HS1 := hid hs1; have HK1 := hid hk1
    clear hs1 hk1 c1 c2
    generalize st3 w4.drew sb (.bool true) (.int .u64 0) (.int .u64 128) = w5 at *
    have c2 : w5.cell? ⟨sb + 1 + 1 + 1, 2, none⟩ = some (.int .u64 127) := cell_of HB4'.out (by rfl)
    refine Plan.plQ_mk ?_ ?_
    · iterate 4 (refine Plan.chk_st rfl ?_ ?_; focus (go_big_quiet_step (fail); exact wpQuiet_nil rfl))
      exact Plan.chk_end
    have hs2 := st3_heap (w := w5) (b := sb + 1) (.bool false) (.int .u64 0) (.int .u64 127) HB2'.out
    have hk2 := st3_keep w5 (sb + 1) (.bool false) (.int .u64 0) (.int .u64 127)
    have HS1' := hid (hk2.get HS1.out (by omega))
    refine Plan.pl_run_skip rfl (by kernel_rfl) rfl (run_store3 _ w5 (b := sb + 1) (ng := false) (hi := 0) (lo := 127) rfl rfl HB2'.out rfl) ?_
    have HS2 := hid hs2; have HK2 := hid hk2
    clear hs2 hk2 c2
    generalize st3 w5 (sb + 1) (.bool false) (.int .u64 0) (.int .u64 127) = w6 at *
    refine Plan.plQ_mk Plan.chk_end ?_
    refine Plan.pl_end ?_
    go_wp2
    (try simp only [Exit.inBlock, Exit.then])
    refine bodyPost_ret (results_cc rfl _ rfl (load_int3 HS1'.out) rfl (load_int3 HS2.out)) rfl ?_
    exact ⟨by rfl, (HK.out.drew.trans' HK1.out (fun i hi e => by omega)).trans' HK2.out (fun i hi e => by omega)⟩
  · as_aux_lemma =>
    have c1 : w4.drew.cell? ⟨sb + 1 + 1, 3, none⟩ = some (.int .u64 32768) := cell_of (w := w4.drew) HB3.out (by rfl)
    have c2 : w4.drew.cell? ⟨sb + 1 + 1 + 1, 3, none⟩ = some (.int .u64 32767) := cell_of (w := w4.drew) HB4.out (by rfl)
    go_wp2_with fail
    refine Plan.wp_region_pl [(false, 0, []), (false, 1, []), (false, 2, []), (false, 3, []), (false, 4, []), (false, 5, []), (false, 6, []), (false, 7, []), (false, 8, []), (false, 9, []), (false, 10, []), (false, 11, []), (true, 12, [11, 10, 9, 8]), (true, 13, [])] (by kernel_rfl) (by kernel_rfl) ?_
    iterate 12 (refine Plan.pl_st rfl ?_; go_big_quiet_step (fail); refine wpQuiet_nil ?_)
    have hs1 := st3_heap (w := w4.drew) (b := sb) (.bool true) (.int .u64 0) (.int .u64 32768) HB1.out
    have hk1 := st3_keep w4.drew sb (.bool true) (.int .u64 0) (.int .u64 32768)
    have HB2' := hid (hk1.get (k := sb + 1) HB2.out (by omega))
    have HB4' := hid (hk1.get (k := sb + 1 + 1 + 1) HB4.out (by omega))
    refine Plan.pl_run_skip rfl (by kernel_rfl) rfl (run_store3 _ w4.drew (b := sb) (ng := true) (hi := 0) (lo := 32768) rfl rfl HB1.out rfl) ?_
    have HS1 := hid hs1; have HK1 := hid hk1
    clear hs1 hk1 c1 c2
    generalize st3 w4.drew sb (.bool true) (.int .u64 0) (.int .u64 32768) = w5 at *
    have c2 : w5.cell? ⟨sb + 1 + 1 + 1, 3, none⟩ = some (.int .u64 32767) := cell_of HB4'.out (by rfl)
    refine Plan.plQ_mk ?_ ?_
    · iterate 4 (refine Plan.chk_st rfl ?_ ?_; focus (go_big_quiet_step (fail); exact wpQuiet_nil rfl))
      exact Plan.chk_end
    have hs2 := st3_heap (w := w5) (b := sb + 1) (.bool false) (.int .u64 0) (.int .u64 32767) HB2'.out
    have hk2 := st3_keep w5 (sb + 1) (.bool false) (.int .u64 0) (.int .u64 32767)
    have HS1' := hid (hk2.get HS1.out (by omega))
    refine Plan.pl_run_skip rfl (by kernel_rfl) rfl (run_store3 _ w5 (b := sb + 1) (ng := false) (hi := 0) (lo := 32767) rfl rfl HB2'.out rfl) ?_
    have HS2 := hid hs2; have HK2 := hid hk2
    clear hs2 hk2 c2
    generalize st3 w5 (sb + 1) (.bool false) (.int .u64 0) (.int .u64 32767) = w6 at *
    refine Plan.plQ_mk Plan.chk_end ?_
    refine Plan.pl_end ?_
    go_wp2
    (try simp only [Exit.inBlock, Exit.then])
    refine bodyPost_ret (results_cc rfl _ rfl (load_int3 HS1'.out) rfl (load_int3 HS2.out)) rfl ?_
    exact ⟨by rfl, (HK.out.drew.trans' HK1.out (fun i hi e => by omega)).trans' HK2.out (fun i hi e => by omega)⟩
  · as_aux_lemma =>
    have c1 : w4.drew.cell? ⟨sb + 1 + 1, 4, none⟩ = some (.int .u64 2147483648) := cell_of (w := w4.drew) HB3.out (by rfl)
    have c2 : w4.drew.cell? ⟨sb + 1 + 1 + 1, 4, none⟩ = some (.int .u64 2147483647) := cell_of (w := w4.drew) HB4.out (by rfl)
    go_wp2_with fail
    refine Plan.wp_region_pl [(false, 0, []), (false, 1, []), (false, 2, []), (false, 3, []), (false, 4, []), (false, 5, []), (false, 6, []), (false, 7, []), (false, 8, []), (false, 9, []), (false, 10, []), (false, 11, []), (true, 12, [11, 10, 9, 8]), (true, 13, [])] (by kernel_rfl) (by kernel_rfl) ?_
    iterate 12 (refine Plan.pl_st rfl ?_; go_big_quiet_step (fail); refine wpQuiet_nil ?_)
    have hs1 := st3_heap (w := w4.drew) (b := sb) (.bool true) (.int .u64 0) (.int .u64 2147483648) HB1.out
    have hk1 := st3_keep w4.drew sb (.bool true) (.int .u64 0) (.int .u64 2147483648)
    have HB2' := hid (hk1.get (k := sb + 1) HB2.out (by omega))
    have HB4' := hid (hk1.get (k := sb + 1 + 1 + 1) HB4.out (by omega))
    refine Plan.pl_run_skip rfl (by kernel_rfl) rfl (run_store3 _ w4.drew (b := sb) (ng := true) (hi := 0) (lo := 2147483648) rfl rfl HB1.out rfl) ?_
    have HS1 := hid hs1; have HK1 := hid hk1
    clear hs1 hk1 c1 c2
    generalize st3 w4.drew sb (.bool true) (.int .u64 0) (.int .u64 2147483648) = w5 at *
    have c2 : w5.cell? ⟨sb + 1 + 1 + 1, 4, none⟩ = some (.int .u64 2147483647) := cell_of HB4'.out (by rfl)
    refine Plan.plQ_mk ?_ ?_
    · iterate 4 (refine Plan.chk_st rfl ?_ ?_; focus (go_big_quiet_step (fail); exact wpQuiet_nil rfl))
      exact Plan.chk_end
    have hs2 := st3_heap (w := w5) (b := sb + 1) (.bool false) (.int .u64 0) (.int .u64 2147483647) HB2'.out
    have hk2 := st3_keep w5 (sb + 1) (.bool false) (.int .u64 0) (.int .u64 2147483647)
    have HS1' := hid (hk2.get HS1.out (by omega))
    refine Plan.pl_run_skip rfl (by kernel_rfl) rfl (run_store3 _ w5 (b := sb + 1) (ng := false) (hi := 0) (lo := 2147483647) rfl rfl HB2'.out rfl) ?_
    have HS2 := hid hs2; have HK2 := hid hk2
    clear hs2 hk2 c2
    generalize st3 w5 (sb + 1) (.bool false) (.int .u64 0) (.int .u64 2147483647) = w6 at *
    refine Plan.plQ_mk Plan.chk_end ?_
    refine Plan.pl_end ?_
    go_wp2
    (try simp only [Exit.inBlock, Exit.then])
    refine bodyPost_ret (results_cc rfl _ rfl (load_int3 HS1'.out) rfl (load_int3 HS2.out)) rfl ?_
    exact ⟨by rfl, (HK.out.drew.trans' HK1.out (fun i hi e => by omega)).trans' HK2.out (fun i hi e => by omega)⟩
  · as_aux_lemma =>
    have c1 : w4.drew.cell? ⟨sb + 1 + 1, 5, none⟩ = some (.int .u64 9223372036854775808) := cell_of (w := w4.drew) HB3.out (by rfl)
    have c2 : w4.drew.cell? ⟨sb + 1 + 1 + 1, 5, none⟩ = some (.int .u64 9223372036854775807) := cell_of (w := w4.drew) HB4.out (by rfl)
    go_wp2_with fail
    refine Plan.wp_region_pl [(false, 0, []), (false, 1, []), (false, 2, []), (false, 3, []), (false, 4, []), (false, 5, []), (false, 6, []), (false, 7, []), (false, 8, []), (false, 9, []), (false, 10, []), (false, 11, []), (true, 12, [11, 10, 9, 8]), (true, 13, [])] (by kernel_rfl) (by kernel_rfl) ?_
    iterate 12 (refine Plan.pl_st rfl ?_; go_big_quiet_step (fail); refine wpQuiet_nil ?_)
    have hs1 := st3_heap (w := w4.drew) (b := sb) (.bool true) (.int .u64 0) (.int .u64 9223372036854775808) HB1.out
    have hk1 := st3_keep w4.drew sb (.bool true) (.int .u64 0) (.int .u64 9223372036854775808)
    have HB2' := hid (hk1.get (k := sb + 1) HB2.out (by omega))
    have HB4' := hid (hk1.get (k := sb + 1 + 1 + 1) HB4.out (by omega))
    refine Plan.pl_run_skip rfl (by kernel_rfl) rfl (run_store3 _ w4.drew (b := sb) (ng := true) (hi := 0) (lo := 9223372036854775808) rfl rfl HB1.out rfl) ?_
    have HS1 := hid hs1; have HK1 := hid hk1
    clear hs1 hk1 c1 c2
    generalize st3 w4.drew sb (.bool true) (.int .u64 0) (.int .u64 9223372036854775808) = w5 at *
    have c2 : w5.cell? ⟨sb + 1 + 1 + 1, 5, none⟩ = some (.int .u64 9223372036854775807) := cell_of HB4'.out (by rfl)
    refine Plan.plQ_mk ?_ ?_
    · iterate 4 (refine Plan.chk_st rfl ?_ ?_; focus (go_big_quiet_step (fail); exact wpQuiet_nil rfl))
      exact Plan.chk_end
    have hs2 := st3_heap (w := w5) (b := sb + 1) (.bool false) (.int .u64 0) (.int .u64 9223372036854775807) HB2'.out
    have hk2 := st3_keep w5 (sb + 1) (.bool false) (.int .u64 0) (.int .u64 9223372036854775807)
    have HS1' := hid (hk2.get HS1.out (by omega))
    refine Plan.pl_run_skip rfl (by kernel_rfl) rfl (run_store3 _ w5 (b := sb + 1) (ng := false) (hi := 0) (lo := 9223372036854775807) rfl rfl HB2'.out rfl) ?_
    have HS2 := hid hs2; have HK2 := hid hk2
    clear hs2 hk2 c2
    generalize st3 w5 (sb + 1) (.bool false) (.int .u64 0) (.int .u64 9223372036854775807) = w6 at *
    refine Plan.plQ_mk Plan.chk_end ?_
    refine Plan.pl_end ?_
    go_wp2
    (try simp only [Exit.inBlock, Exit.then])
    refine bodyPost_ret (results_cc rfl _ rfl (load_int3 HS1'.out) rfl (load_int3 HS2.out)) rfl ?_
    exact ⟨by rfl, (HK.out.drew.trans' HK1.out (fun i hi e => by omega)).trans' HK2.out (fun i hi e => by omega)⟩
  · as_aux_lemma =>
    have c1 : w4.drew.cell? ⟨sb + 1 + 1, 6, none⟩ = some (.int .u64 0) := cell_of (w := w4.drew) HB3.out (by rfl)
    have c2 : w4.drew.cell? ⟨sb + 1 + 1 + 1, 6, none⟩ = some (.int .u64 255) := cell_of (w := w4.drew) HB4.out (by rfl)
    go_wp2_with fail
    refine Plan.wp_region_pl [(false, 0, []), (false, 1, []), (false, 2, []), (false, 3, []), (false, 4, []), (false, 5, []), (false, 6, []), (false, 7, []), (false, 8, []), (false, 9, []), (false, 10, []), (false, 11, []), (true, 12, [11, 10, 9, 8]), (true, 13, [])] (by kernel_rfl) (by kernel_rfl) ?_
    iterate 12 (refine Plan.pl_st rfl ?_; go_big_quiet_step (fail); refine wpQuiet_nil ?_)
    have hs1 := st3_heap (w := w4.drew) (b := sb) (.bool false) (.int .u64 0) (.int .u64 0) HB1.out
    have hk1 := st3_keep w4.drew sb (.bool false) (.int .u64 0) (.int .u64 0)
    have HB2' := hid (hk1.get (k := sb + 1) HB2.out (by omega))
    have HB4' := hid (hk1.get (k := sb + 1 + 1 + 1) HB4.out (by omega))
    refine Plan.pl_run_skip rfl (by kernel_rfl) rfl (run_store3 _ w4.drew (b := sb) (ng := false) (hi := 0) (lo := 0) rfl rfl HB1.out rfl) ?_
    have HS1 := hid hs1; have HK1 := hid hk1
    clear hs1 hk1 c1 c2
    generalize st3 w4.drew sb (.bool false) (.int .u64 0) (.int .u64 0) = w5 at *
    have c2 : w5.cell? ⟨sb + 1 + 1 + 1, 6, none⟩ = some (.int .u64 255) := cell_of HB4'.out (by rfl)
    refine Plan.plQ_mk ?_ ?_
    · iterate 4 (refine Plan.chk_st rfl ?_ ?_; focus (go_big_quiet_step (fail); exact wpQuiet_nil rfl))
      exact Plan.chk_end
    have hs2 := st3_heap (w := w5) (b := sb + 1) (.bool false) (.int .u64 0) (.int .u64 255) HB2'.out
    have hk2 := st3_keep w5 (sb + 1) (.bool false) (.int .u64 0) (.int .u64 255)
    have HS1' := hid (hk2.get HS1.out (by omega))
    refine Plan.pl_run_skip rfl (by kernel_rfl) rfl (run_store3 _ w5 (b := sb + 1) (ng := false) (hi := 0) (lo := 255) rfl rfl HB2'.out rfl) ?_
    have HS2 := hid hs2; have HK2 := hid hk2
    clear hs2 hk2 c2
    generalize st3 w5 (sb + 1) (.bool false) (.int .u64 0) (.int .u64 255) = w6 at *
    refine Plan.plQ_mk Plan.chk_end ?_
    refine Plan.pl_end ?_
    go_wp2
    (try simp only [Exit.inBlock, Exit.then])
    refine bodyPost_ret (results_cc rfl _ rfl (load_int3 HS1'.out) rfl (load_int3 HS2.out)) rfl ?_
    exact ⟨by rfl, (HK.out.drew.trans' HK1.out (fun i hi e => by omega)).trans' HK2.out (fun i hi e => by omega)⟩
  · as_aux_lemma =>
    have c1 : w4.drew.cell? ⟨sb + 1 + 1, 7, none⟩ = some (.int .u64 0) := cell_of (w := w4.drew) HB3.out (by rfl)
    have c2 : w4.drew.cell? ⟨sb + 1 + 1 + 1, 7, none⟩ = some (.int .u64 65535) := cell_of (w := w4.drew) HB4.out (by rfl)
    go_wp2_with fail
    refine Plan.wp_region_pl [(false, 0, []), (false, 1, []), (false, 2, []), (false, 3, []), (false, 4, []), (false, 5, []), (false, 6, []), (false, 7, []), (false, 8, []), (false, 9, []), (false, 10, []), (false, 11, []), (true, 12, [11, 10, 9, 8]), (true, 13, [])] (by kernel_rfl) (by kernel_rfl) ?_
    iterate 12 (refine Plan.pl_st rfl ?_; go_big_quiet_step (fail); refine wpQuiet_nil ?_)
    have hs1 := st3_heap (w := w4.drew) (b := sb) (.bool false) (.int .u64 0) (.int .u64 0) HB1.out
    have hk1 := st3_keep w4.drew sb (.bool false) (.int .u64 0) (.int .u64 0)
    have HB2' := hid (hk1.get (k := sb + 1) HB2.out (by omega))
    have HB4' := hid (hk1.get (k := sb + 1 + 1 + 1) HB4.out (by omega))
    refine Plan.pl_run_skip rfl (by kernel_rfl) rfl (run_store3 _ w4.drew (b := sb) (ng := false) (hi := 0) (lo := 0) rfl rfl HB1.out rfl) ?_
    have HS1 := hid hs1; have HK1 := hid hk1
    clear hs1 hk1 c1 c2
    generalize st3 w4.drew sb (.bool false) (.int .u64 0) (.int .u64 0) = w5 at *
    have c2 : w5.cell? ⟨sb + 1 + 1 + 1, 7, none⟩ = some (.int .u64 65535) := cell_of HB4'.out (by rfl)
    refine Plan.plQ_mk ?_ ?_
    · iterate 4 (refine Plan.chk_st rfl ?_ ?_; focus (go_big_quiet_step (fail); exact wpQuiet_nil rfl))
      exact Plan.chk_end
    have hs2 := st3_heap (w := w5) (b := sb + 1) (.bool false) (.int .u64 0) (.int .u64 65535) HB2'.out
    have hk2 := st3_keep w5 (sb + 1) (.bool false) (.int .u64 0) (.int .u64 65535)
    have HS1' := hid (hk2.get HS1.out (by omega))
    refine Plan.pl_run_skip rfl (by kernel_rfl) rfl (run_store3 _ w5 (b := sb + 1) (ng := false) (hi := 0) (lo := 65535) rfl rfl HB2'.out rfl) ?_
    have HS2 := hid hs2; have HK2 := hid hk2
    clear hs2 hk2 c2
    generalize st3 w5 (sb + 1) (.bool false) (.int .u64 0) (.int .u64 65535) = w6 at *
    refine Plan.plQ_mk Plan.chk_end ?_
    refine Plan.pl_end ?_
    go_wp2
    (try simp only [Exit.inBlock, Exit.then])
    refine bodyPost_ret (results_cc rfl _ rfl (load_int3 HS1'.out) rfl (load_int3 HS2.out)) rfl ?_
    exact ⟨by rfl, (HK.out.drew.trans' HK1.out (fun i hi e => by omega)).trans' HK2.out (fun i hi e => by omega)⟩
  · as_aux_lemma =>
    have c1 : w4.drew.cell? ⟨sb + 1 + 1, 8, none⟩ = some (.int .u64 0) := cell_of (w := w4.drew) HB3.out (by rfl)
    have c2 : w4.drew.cell? ⟨sb + 1 + 1 + 1, 8, none⟩ = some (.int .u64 4294967295) := cell_of (w := w4.drew) HB4.out (by rfl)
    go_wp2_with fail
    refine Plan.wp_region_pl [(false, 0, []), (false, 1, []), (false, 2, []), (false, 3, []), (false, 4, []), (false, 5, []), (false, 6, []), (false, 7, []), (false, 8, []), (false, 9, []), (false, 10, []), (false, 11, []), (true, 12, [11, 10, 9, 8]), (true, 13, [])] (by kernel_rfl) (by kernel_rfl) ?_
    iterate 12 (refine Plan.pl_st rfl ?_; go_big_quiet_step (fail); refine wpQuiet_nil ?_)
    have hs1 := st3_heap (w := w4.drew) (b := sb) (.bool false) (.int .u64 0) (.int .u64 0) HB1.out
    have hk1 := st3_keep w4.drew sb (.bool false) (.int .u64 0) (.int .u64 0)
    have HB2' := hid (hk1.get (k := sb + 1) HB2.out (by omega))
    have HB4' := hid (hk1.get (k := sb + 1 + 1 + 1) HB4.out (by omega))
    refine Plan.pl_run_skip rfl (by kernel_rfl) rfl (run_store3 _ w4.drew (b := sb) (ng := false) (hi := 0) (lo := 0) rfl rfl HB1.out rfl) ?_
    have HS1 := hid hs1; have HK1 := hid hk1
    clear hs1 hk1 c1 c2
    generalize st3 w4.drew sb (.bool false) (.int .u64 0) (.int .u64 0) = w5 at *
    have c2 : w5.cell? ⟨sb + 1 + 1 + 1, 8, none⟩ = some (.int .u64 4294967295) := cell_of HB4'.out (by rfl)
    refine Plan.plQ_mk ?_ ?_
    · iterate 4 (refine Plan.chk_st rfl ?_ ?_; focus (go_big_quiet_step (fail); exact wpQuiet_nil rfl))
      exact Plan.chk_end
    have hs2 := st3_heap (w := w5) (b := sb + 1) (.bool false) (.int .u64 0) (.int .u64 4294967295) HB2'.out
    have hk2 := st3_keep w5 (sb + 1) (.bool false) (.int .u64 0) (.int .u64 4294967295)
    have HS1' := hid (hk2.get HS1.out (by omega))
    refine Plan.pl_run_skip rfl (by kernel_rfl) rfl (run_store3 _ w5 (b := sb + 1) (ng := false) (hi := 0) (lo := 4294967295) rfl rfl HB2'.out rfl) ?_
    have HS2 := hid hs2; have HK2 := hid hk2
    clear hs2 hk2 c2
    generalize st3 w5 (sb + 1) (.bool false) (.int .u64 0) (.int .u64 4294967295) = w6 at *
    refine Plan.plQ_mk Plan.chk_end ?_
    refine Plan.pl_end ?_
    go_wp2
    (try simp only [Exit.inBlock, Exit.then])
    refine bodyPost_ret (results_cc rfl _ rfl (load_int3 HS1'.out) rfl (load_int3 HS2.out)) rfl ?_
    exact ⟨by rfl, (HK.out.drew.trans' HK1.out (fun i hi e => by omega)).trans' HK2.out (fun i hi e => by omega)⟩
  · as_aux_lemma =>
    have c1 : w4.drew.cell? ⟨sb + 1 + 1, 9, none⟩ = some (.int .u64 0) := cell_of (w := w4.drew) HB3.out (by rfl)
    have c2 : w4.drew.cell? ⟨sb + 1 + 1 + 1, 9, none⟩ = some (.int .u64 18446744073709551615) := cell_of (w := w4.drew) HB4.out (by rfl)
    go_wp2_with fail
    refine Plan.wp_region_pl [(false, 0, []), (false, 1, []), (false, 2, []), (false, 3, []), (false, 4, []), (false, 5, []), (false, 6, []), (false, 7, []), (false, 8, []), (false, 9, []), (false, 10, []), (false, 11, []), (true, 12, [11, 10, 9, 8]), (true, 13, [])] (by kernel_rfl) (by kernel_rfl) ?_
    iterate 12 (refine Plan.pl_st rfl ?_; go_big_quiet_step (fail); refine wpQuiet_nil ?_)
    have hs1 := st3_heap (w := w4.drew) (b := sb) (.bool false) (.int .u64 0) (.int .u64 0) HB1.out
    have hk1 := st3_keep w4.drew sb (.bool false) (.int .u64 0) (.int .u64 0)
    have HB2' := hid (hk1.get (k := sb + 1) HB2.out (by omega))
    have HB4' := hid (hk1.get (k := sb + 1 + 1 + 1) HB4.out (by omega))
    refine Plan.pl_run_skip rfl (by kernel_rfl) rfl (run_store3 _ w4.drew (b := sb) (ng := false) (hi := 0) (lo := 0) rfl rfl HB1.out rfl) ?_
    have HS1 := hid hs1; have HK1 := hid hk1
    clear hs1 hk1 c1 c2
    generalize st3 w4.drew sb (.bool false) (.int .u64 0) (.int .u64 0) = w5 at *
    have c2 : w5.cell? ⟨sb + 1 + 1 + 1, 9, none⟩ = some (.int .u64 18446744073709551615) := cell_of HB4'.out (by rfl)
    refine Plan.plQ_mk ?_ ?_
    · iterate 4 (refine Plan.chk_st rfl ?_ ?_; focus (go_big_quiet_step (fail); exact wpQuiet_nil rfl))
      exact Plan.chk_end
    have hs2 := st3_heap (w := w5) (b := sb + 1) (.bool false) (.int .u64 0) (.int .u64 18446744073709551615) HB2'.out
    have hk2 := st3_keep w5 (sb + 1) (.bool false) (.int .u64 0) (.int .u64 18446744073709551615)
    have HS1' := hid (hk2.get HS1.out (by omega))
    refine Plan.pl_run_skip rfl (by kernel_rfl) rfl (run_store3 _ w5 (b := sb + 1) (ng := false) (hi := 0) (lo := 18446744073709551615) rfl rfl HB2'.out rfl) ?_
    have HS2 := hid hs2; have HK2 := hid hk2
    clear hs2 hk2 c2
    generalize st3 w5 (sb + 1) (.bool false) (.int .u64 0) (.int .u64 18446744073709551615) = w6 at *
    refine Plan.plQ_mk Plan.chk_end ?_
    refine Plan.pl_end ?_
    go_wp2
    (try simp only [Exit.inBlock, Exit.then])
    refine bodyPost_ret (results_cc rfl _ rfl (load_int3 HS1'.out) rfl (load_int3 HS2.out)) rfl ?_
    exact ⟨by rfl, (HK.out.drew.trans' HK1.out (fun i hi e => by omega)).trans' HK2.out (fun i hi e => by omega)⟩
  · as_aux_lemma =>
    have c1 : w4.drew.cell? ⟨sb + 1 + 1, 10, none⟩ = some (.int .u64 0) := cell_of (w := w4.drew) HB3.out (by rfl)
    have c2 : w4.drew.cell? ⟨sb + 1 + 1 + 1, 10, none⟩ = some (.int .u64 18446744073709551615) := cell_of (w := w4.drew) HB4.out (by rfl)
    go_wp2_with fail
    refine Plan.wp_region_pl [(false, 0, []), (false, 1, []), (false, 2, []), (false, 3, []), (false, 4, []), (false, 5, []), (false, 6, []), (false, 7, []), (false, 8, []), (false, 9, []), (false, 10, []), (false, 11, []), (true, 12, [11, 10, 9, 8]), (true, 13, [])] (by kernel_rfl) (by kernel_rfl) ?_
    iterate 12 (refine Plan.pl_st rfl ?_; go_big_quiet_step (fail); refine wpQuiet_nil ?_)
    have hs1 := st3_heap (w := w4.drew) (b := sb) (.bool false) (.int .u64 0) (.int .u64 0) HB1.out
    have hk1 := st3_keep w4.drew sb (.bool false) (.int .u64 0) (.int .u64 0)
    have HB2' := hid (hk1.get (k := sb + 1) HB2.out (by omega))
    have HB4' := hid (hk1.get (k := sb + 1 + 1 + 1) HB4.out (by omega))
    refine Plan.pl_run_skip rfl (by kernel_rfl) rfl (run_store3 _ w4.drew (b := sb) (ng := false) (hi := 0) (lo := 0) rfl rfl HB1.out rfl) ?_
    have HS1 := hid hs1; have HK1 := hid hk1
    clear hs1 hk1 c1 c2
    generalize st3 w4.drew sb (.bool false) (.int .u64 0) (.int .u64 0) = w5 at *
    have c2 : w5.cell? ⟨sb + 1 + 1 + 1, 10, none⟩ = some (.int .u64 18446744073709551615) := cell_of HB4'.out (by rfl)
    refine Plan.plQ_mk ?_ ?_
    · iterate 4 (refine Plan.chk_st rfl ?_ ?_; focus (go_big_quiet_step (fail); exact wpQuiet_nil rfl))
      exact Plan.chk_end
    have hs2 := st3_heap (w := w5) (b := sb + 1) (.bool false) (.int .u64 0) (.int .u64 18446744073709551615) HB2'.out
    have hk2 := st3_keep w5 (sb + 1) (.bool false) (.int .u64 0) (.int .u64 18446744073709551615)
    have HS1' := hid (hk2.get HS1.out (by omega))
    refine Plan.pl_run_skip rfl (by kernel_rfl) rfl (run_store3 _ w5 (b := sb + 1) (ng := false) (hi := 0) (lo := 18446744073709551615) rfl rfl HB2'.out rfl) ?_
    have HS2 := hid hs2; have HK2 := hid hk2
    clear hs2 hk2 c2
    generalize st3 w5 (sb + 1) (.bool false) (.int .u64 0) (.int .u64 18446744073709551615) = w6 at *
    refine Plan.plQ_mk Plan.chk_end ?_
    refine Plan.pl_end ?_
    go_wp2
    (try simp only [Exit.inBlock, Exit.then])
    refine bodyPost_ret (results_cc rfl _ rfl (load_int3 HS1'.out) rfl (load_int3 HS2.out)) rfl ?_
    exact ⟨by rfl, (HK.out.drew.trans' HK1.out (fun i hi e => by omega)).trans' HK2.out (fun i hi e => by omega)⟩
end Go.Proofs.Ytkgkcnmnfhehfaa
