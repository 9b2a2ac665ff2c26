/- What is proved: what the reference's Bounds answer: the program's least and greatest numbers of a kind. -/
import Derived.Test.YtkgkcnmnfhehfaaMRf4get
import Derived.Test.YtkgkcnmnfhehfaaMRegion
import Derived.Test.YtkgkcnmnfhehfaaMWide2
import Derived.Test.YtkgkcnmnfhehfaaMWide
import Derived.Test.YtkgkcnmnfhehfaaMBox
namespace Go.Proofs.Ytkgkcnmnfhehfaa
open Go.RowKit Go.Proofs.Heap Go.Proofs.Wide

abbrev LA : Array Value := #[.int .u64 0, .int .u64 0, .int .u64 128, .int .u64 32768, .int .u64 2147483648, .int .u64 9223372036854775808, .int .u64 0, .int .u64 0, .int .u64 0, .int .u64 0, .int .u64 0]
abbrev GA : Array Value := #[.int .u64 0, .int .u64 1, .int .u64 127, .int .u64 32767, .int .u64 2147483647, .int .u64 9223372036854775807, .int .u64 255, .int .u64 65535, .int .u64 4294967295, .int .u64 18446744073709551615, .int .u64 18446744073709551615]
theorem results_cc {fn : Func} {p u : Tmp} {ty tz : TypeId} (h : fn.results = #[.cell p ty, .cell u tz]) (tmps : Array Value) {P : Program} {w : World} {ad ae : Addr} {v x : Value}
    (hp : tmps.getD p undef = .pointer (some ad)) (hl : (loadVar ty ad).run P w = .ok v w) (hq : tmps.getD u undef = .pointer (some ae)) (hm : (loadVar tz ae).run P w = .ok x w) : (results fn tmps).run P w = .ok (.tuple #[v, x]) w := by
  have hp' : tmps[p]?.getD undef = .pointer (some ad) := by simpa using hp
  have hq' : tmps[u]?.getD undef = .pointer (some ae) := by simpa using hq
  simp [results, h, hp', hq', asAddr, hl, hm]
theorem info_int3 : (Try.prog.info? 57).map (·.size) = some 3 := by kernel_rfl
theorem load_int3 {w : World} {b : Nat} {x0 x1 x2 : Value} (h : w.heap[b]? = some (.cells #[x0, x1, x2] 57 (0, 0))) : (loadVar 57 ⟨b, 0, none⟩).run Try.prog w = .ok (.agg #[x0, x1, x2]) w :=
  run_loadVar_row w b _ 57 _ _ _ h Try.underlying57 rfl (by rw [info_int3]; rfl)
/-- Two numbers stored. -/
def st3 (w : World) (b : Nat) (x0 x1 x2 : Value) : World := ((w.setCell ⟨b, 0, none⟩ x0).setCell ⟨b, 1, none⟩ x1).setCell ⟨b, 2, none⟩ x2
theorem st3_heap {w : World} {b : Nat} {a0 a1 a2 : Value} {t : TypeId} (x0 x1 x2 : Value) (h : w.heap[b]? = some (.cells #[a0, a1, a2] t (0, 0))) : (st3 w b x0 x1 x2).heap[b]? = some (.cells #[x0, x1, x2] t (0, 0)) := by
  unfold st3; rw [hsc_same (hsc_same (hsc_same h 0 x0) 1 x1) 2 x2]; rfl
theorem st3_keep (w : World) (b : Nat) (x0 x1 x2 : Value) : Keep (fun k => k = b) w (st3 w b x0 x1 x2) := (((Keep.refl (fun k => k = b) w).setCell (p := ⟨b, 0, none⟩) rfl x0).setCell (p := ⟨b, 1, none⟩) rfl x1).setCell (p := ⟨b, 2, none⟩) rfl x2

theorem run_store3 (A : Act) (w : World) {i j b : Nat} {af : Array Edge} {g : Option (Nat × Bool)} {ps : String} {t : TypeId} {ng : Bool} {hi lo : Int} {cur : Array Value} {ct : TypeId}
    (e0 : A.eval (.tmp i) = .pointer (some ⟨b, 0, none⟩)) (e1 : A.eval (.tmp j) = .agg #[.bool ng, .int .u64 hi, .int .u64 lo]) (hb : w.heap[b]? = some (.cells cur ct (0, 0))) (hs : cur.size = 3) :
    (execOp A.eval ⟨none, Op.store 57 (.tmp i) (.tmp j), t, ps, af, g⟩).run Try.prog w = .ok .skip (st3 w b (.bool ng) (.int .u64 hi) (.int .u64 lo)) := by
  have f0 : A.tmps[i]?.getD undef = .pointer (some ⟨b, 0, none⟩) := by simpa [Act.eval] using e0
  have f1 : A.tmps[j]?.getD undef = .agg #[.bool ng, .int .u64 hi, .int .u64 lo] := by simpa [Act.eval] using e1
  obtain ⟨x0, c0⟩ : ∃ x, w.cell? ⟨b, 0, none⟩ = some x := ⟨_, cell_of hb (Array.getElem?_eq_getElem (by omega))⟩
  obtain ⟨x1, c1⟩ : ∃ x, w.cell? ⟨b, 1, none⟩ = some x := ⟨_, cell_of hb (Array.getElem?_eq_getElem (by omega))⟩
  obtain ⟨x2, c2⟩ : ∃ x, w.cell? ⟨b, 2, none⟩ = some x := ⟨_, cell_of hb (Array.getElem?_eq_getElem (by omega))⟩
  have z0 := free_of hb 0
  have z1 := free_of hb 1
  have z2 := free_of hb 2
  unfold st3
  simp [go_sem, f0, f1, c0, c1, c2, z0, z1, z2]

set_option maxRecDepth 20000 in
set_option maxHeartbeats 4000000 in
theorem r_bounds (k : Int) (h1 : 1 ≤ k) (h2 : k ≤ 10) (w : World) : Calls Try.prog 48 #[.int .i64 k] w fun r w' => r = .returned (.tuple #[WV (leastW k), WV (greatW k)]) ∧ Keep (fun _ => False) w w' := by
  have g1 : decide (k < 1) = false := decide_eq_false (by omega)
  have g2 : decide (10 < k) = false := decide_eq_false (by omega)
  have hc : k = 1 ∨ k = 2 ∨ k = 3 ∨ k = 4 ∨ k = 5 ∨ k = 6 ∨ k = 7 ∨ k = 8 ∨ k = 9 ∨ k = 10 := by omega
  obtain ⟨w4, hw4, hb1, hb2, hb3, hb4, hk4⟩ : ∃ w4, w4 = (((w.alloc (.cells Z3 57)).alloc (.cells Z3 57)).alloc (.cells LA 114)).alloc (.cells GA 114) ∧ w4.heap[w.heap.size]? = some (.cells Z3 57 (0, 0)) ∧ w4.heap[w.heap.size + 1]? = some (.cells Z3 57 (0, 0)) ∧
      w4.heap[w.heap.size + 1 + 1]? = some (.cells LA 114 (0, 0)) ∧ w4.heap[w.heap.size + 1 + 1 + 1]? = some (.cells GA 114 (0, 0)) ∧ Keep (fun _ => False) w w4 := by
    refine ⟨_, rfl, ?_, ?_, ?_, ?_, ((((Keep.refl _ w).alloc _).alloc _).alloc _).alloc _⟩
    · exact (((Keep.refl (fun _ => False) (w.alloc (.cells Z3 57))).alloc _).alloc _ |>.alloc _).get (heap_alloc_new w _) id
    · have := (((Keep.refl (fun _ => False) ((w.alloc (.cells Z3 57)).alloc (.cells Z3 57))).alloc (.cells LA 114)).alloc (.cells GA 114)).get (heap_alloc_new (w.alloc (.cells Z3 57)) _) id
      simpa using this
    · have := ((Keep.refl (fun _ => False) (((w.alloc (.cells Z3 57)).alloc (.cells Z3 57)).alloc (.cells LA 114))).alloc (.cells GA 114)).get (heap_alloc_new ((w.alloc (.cells Z3 57)).alloc (.cells Z3 57)) _) id
      simpa using this
    · have := heap_alloc_new (((w.alloc (.cells Z3 57)).alloc (.cells Z3 57)).alloc (.cells LA 114)) (.cells GA 114)
      simpa using this
  have HB1 := hid hb1; have HB2 := hid hb2; have HB3 := hid hb3; have HB4 := hid hb4; have HK := hid hk4
  clear hb1 hb2 hb3 hb4 hk4 h1 h2
  go_enter Try.func48, Try.ntmps48
  go_upto_region 5 with fail
  rw [← hw4]
  clear hw4
  generalize hsb : w.heap.size = sb at *
  clear g1 g2
  rcases hc with rfl | rfl | rfl | rfl | rfl | rfl | rfl | rfl | rfl | rfl
  · as_aux_lemma =>
    have c1 : w4.drew.cell? ⟨sb + 1 + 1, 1, none⟩ = some (.int .u64 0) := cell_of (w := w4.drew) HB3.out (by rfl)
    have c2 : w4.drew.cell? ⟨sb + 1 + 1 + 1, 1, none⟩ = some (.int .u64 1) := cell_of (w := w4.drew) HB4.out (by rfl)
    go_wp2_with fail
    refine Plan.wp_region_pl [(false, 0, []), (false, 1, []), (false, 2, []), (false, 3, []), (false, 4, []), (false, 5, []), (false, 6, []), (false, 7, []), (false, 8, []), (false, 9, []), (false, 10, []), (false, 11, []), (true, 12, [11, 10, 9, 8]), (true, 13, [])] (by kernel_rfl) (by kernel_rfl) ?_
    iterate 12 (refine Plan.pl_st rfl ?_; go_big_quiet_step (fail); refine wpQuiet_nil ?_)
    have hs1 := st3_heap (w := w4.drew) (b := sb) (.bool false) (.int .u64 0) (.int .u64 0) HB1.out
    have hk1 := st3_keep w4.drew sb (.bool false) (.int .u64 0) (.int .u64 0)
    have HB2' := hid (hk1.get (k := sb + 1) HB2.out (by omega))
    have HB4' := hid (hk1.get (k := sb + 1 + 1 + 1) HB4.out (by omega))
    refine Plan.pl_run_skip rfl (by kernel_rfl) rfl (run_store3 _ w4.drew (b := sb) (ng := false) (hi := 0) (lo := 0) rfl rfl HB1.out rfl) ?_
    have HS1 := hid hs1; have HK1 := hid hk1
    clear hs1 hk1 c1 c2
    generalize st3 w4.drew sb (.bool false) (.int .u64 0) (.int .u64 0) = w5 at *
    have c2 : w5.cell? ⟨sb + 1 + 1 + 1, 1, none⟩ = some (.int .u64 1) := cell_of HB4'.out (by rfl)
    refine Plan.plQ_mk ?_ ?_
    · iterate 4 (refine Plan.chk_st rfl ?_ ?_; focus (go_big_quiet_step (fail); exact wpQuiet_nil rfl))
      exact Plan.chk_end
    have hs2 := st3_heap (w := w5) (b := sb + 1) (.bool false) (.int .u64 0) (.int .u64 1) HB2'.out
    have hk2 := st3_keep w5 (sb + 1) (.bool false) (.int .u64 0) (.int .u64 1)
    have HS1' := hid (hk2.get HS1.out (by omega))
    refine Plan.pl_run_skip rfl (by kernel_rfl) rfl (run_store3 _ w5 (b := sb + 1) (ng := false) (hi := 0) (lo := 1) rfl rfl HB2'.out rfl) ?_
    have HS2 := hid hs2; have HK2 := hid hk2
    clear hs2 hk2 c2
    generalize st3 w5 (sb + 1) (.bool false) (.int .u64 0) (.int .u64 1) = w6 at *
    refine Plan.plQ_mk Plan.chk_end ?_
    refine Plan.pl_end ?_
    go_wp2
    (try simp only [Exit.inBlock, Exit.then])
    refine bodyPost_ret (results_cc rfl _ rfl (load_int3 HS1'.out) rfl (load_int3 HS2.out)) rfl ?_
    exact ⟨by rfl, (HK.out.drew.trans' HK1.out (fun i hi e => by omega)).trans' HK2.out (fun i hi e => by omega)⟩
  · as_aux_lemma =>
    have c1 : w4.drew.cell? ⟨sb + 1 + 1, 2, none⟩ = some (.int .u64 128) := cell_of (w := w4.drew) HB3.out (by rfl)
    have c2 : w4.drew.cell? ⟨sb + 1 + 1 + 1, 2, none⟩ = some (.int .u64 127) := cell_of (w := w4.drew) HB4.out (by rfl)
    go_wp2_with fail
    refine Plan.wp_region_pl [(false, 0, []), (false, 1, []), (false, 2, []), (false, 3, []), (false, 4, []), (false, 5, []), (false, 6, []), (false, 7, []), (false, 8, []), (false, 9, []), (false, 10, []), (false, 11, []), (true, 12, [11, 10, 9, 8]), (true, 13, [])] (by kernel_rfl) (by kernel_rfl) ?_
    iterate 12 (refine Plan.pl_st rfl ?_; go_big_quiet_step (fail); refine wpQuiet_nil ?_)
    have hs1 := st3_heap (w := w4.drew) (b := sb) (.bool true) (.int .u64 0) (.int .u64 128) HB1.out
    have hk1 := st3_keep w4.drew sb (.bool true) (.int .u64 0) (.int .u64 128)
    have HB2' := hid (hk1.get (k := sb + 1) HB2.out (by omega))
    have HB4' := hid (hk1.get (k := sb + 1 + 1 + 1) HB4.out (by omega))
    refine Plan.pl_run_skip rfl (by kernel_rfl) rfl (run_store3 _ w4.drew (b := sb) (ng := true) (hi := 0) (lo := 128) rfl rfl HB1.out rfl) ?_
    have HS1 := hid hs1; have HK1 := hid hk1
    clear hs1 hk1 c1 c2
    generalize st3 w4.drew sb (.bool true) (.int .u64 0) (.int .u64 128) = w5 at *
    have c2 : w5.cell? ⟨sb + 1 + 1 + 1, 2, none⟩ = some (.int .u64 127) := cell_of HB4'.out (by rfl)
    refine Plan.plQ_mk ?_ ?_
    · iterate 4 (refine Plan.chk_st rfl ?_ ?_; focus (go_big_quiet_step (fail); exact wpQuiet_nil rfl))
      exact Plan.chk_end
    have hs2 := st3_heap (w := w5) (b := sb + 1) (.bool false) (.int .u64 0) (.int .u64 127) HB2'.out
    have hk2 := st3_keep w5 (sb + 1) (.bool false) (.int .u64 0) (.int .u64 127)
    have HS1' := hid (hk2.get HS1.out (by omega))
    refine Plan.pl_run_skip rfl (by kernel_rfl) rfl (run_store3 _ w5 (b := sb + 1) (ng := false) (hi := 0) (lo := 127) rfl rfl HB2'.out rfl) ?_
    have HS2 := hid hs2; have HK2 := hid hk2
    clear hs2 hk2 c2
    generalize st3 w5 (sb + 1) (.bool false) (.int .u64 0) (.int .u64 127) = w6 at *
    refine Plan.plQ_mk Plan.chk_end ?_
    refine Plan.pl_end ?_
    go_wp2
    (try simp only [Exit.inBlock, Exit.then])
    refine bodyPost_ret (results_cc rfl _ rfl (load_int3 HS1'.out) rfl (load_int3 HS2.out)) rfl ?_
    exact ⟨by rfl, (HK.out.drew.trans' HK1.out (fun i hi e => by omega)).trans' HK2.out (fun i hi e => by omega)⟩
  · as_aux_lemma =>
    have c1 : w4.drew.cell? ⟨sb + 1 + 1, 3, none⟩ = some (.int .u64 32768) := cell_of (w := w4.drew) HB3.out (by rfl)
    have c2 : w4.drew.cell? ⟨sb + 1 + 1 + 1, 3, none⟩ = some (.int .u64 32767) := cell_of (w := w4.drew) HB4.out (by rfl)
    go_wp2_with fail
    refine Plan.wp_region_pl [(false, 0, []), (false, 1, []), (false, 2, []), (false, 3, []), (false, 4, []), (false, 5, []), (false, 6, []), (false, 7, []), (false, 8, []), (false, 9, []), (false, 10, []), (false, 11, []), (true, 12, [11, 10, 9, 8]), (true, 13, [])] (by kernel_rfl) (by kernel_rfl) ?_
    iterate 12 (refine Plan.pl_st rfl ?_; go_big_quiet_step (fail); refine wpQuiet_nil ?_)
    have hs1 := st3_heap (w := w4.drew) (b := sb) (.bool true) (.int .u64 0) (.int .u64 32768) HB1.out
    have hk1 := st3_keep w4.drew sb (.bool true) (.int .u64 0) (.int .u64 32768)
    have HB2' := hid (hk1.get (k := sb + 1) HB2.out (by omega))
    have HB4' := hid (hk1.get (k := sb + 1 + 1 + 1) HB4.out (by omega))
    refine Plan.pl_run_skip rfl (by kernel_rfl) rfl (run_store3 _ w4.drew (b := sb) (ng := true) (hi := 0) (lo := 32768) rfl rfl HB1.out rfl) ?_
    have HS1 := hid hs1; have HK1 := hid hk1
    clear hs1 hk1 c1 c2
    generalize st3 w4.drew sb (.bool true) (.int .u64 0) (.int .u64 32768) = w5 at *
    have c2 : w5.cell? ⟨sb + 1 + 1 + 1, 3, none⟩ = some (.int .u64 32767) := cell_of HB4'.out (by rfl)
    refine Plan.plQ_mk ?_ ?_
    · iterate 4 (refine Plan.chk_st rfl ?_ ?_; focus (go_big_quiet_step (fail); exact wpQuiet_nil rfl))
      exact Plan.chk_end
    have hs2 := st3_heap (w := w5) (b := sb + 1) (.bool false) (.int .u64 0) (.int .u64 32767) HB2'.out
    have hk2 := st3_keep w5 (sb + 1) (.bool false) (.int .u64 0) (.int .u64 32767)
    have HS1' := hid (hk2.get HS1.out (by omega))
    refine Plan.pl_run_skip rfl (by kernel_rfl) rfl (run_store3 _ w5 (b := sb + 1) (ng := false) (hi := 0) (lo := 32767) rfl rfl HB2'.out rfl) ?_
    have HS2 := hid hs2; have HK2 := hid hk2
    clear hs2 hk2 c2
    generalize st3 w5 (sb + 1) (.bool false) (.int .u64 0) (.int .u64 32767) = w6 at *
    refine Plan.plQ_mk Plan.chk_end ?_
    refine Plan.pl_end ?_
    go_wp2
    (try simp only [Exit.inBlock, Exit.then])
    refine bodyPost_ret (results_cc rfl _ rfl (load_int3 HS1'.out) rfl (load_int3 HS2.out)) rfl ?_
    exact ⟨by rfl, (HK.out.drew.trans' HK1.out (fun i hi e => by omega)).trans' HK2.out (fun i hi e => by omega)⟩
  · as_aux_lemma =>
    have c1 : w4.drew.cell? ⟨sb + 1 + 1, 4, none⟩ = some (.int .u64 2147483648) := cell_of (w := w4.drew) HB3.out (by rfl)
    have c2 : w4.drew.cell? ⟨sb + 1 + 1 + 1, 4, none⟩ = some (.int .u64 2147483647) := cell_of (w := w4.drew) HB4.out (by rfl)
    go_wp2_with fail
    refine Plan.wp_region_pl [(false, 0, []), (false, 1, []), (false, 2, []), (false, 3, []), (false, 4, []), (false, 5, []), (false, 6, []), (false, 7, []), (false, 8, []), (false, 9, []), (false, 10, []), (false, 11, []), (true, 12, [11, 10, 9, 8]), (true, 13, [])] (by kernel_rfl) (by kernel_rfl) ?_
    iterate 12 (refine Plan.pl_st rfl ?_; go_big_quiet_step (fail); refine wpQuiet_nil ?_)
    have hs1 := st3_heap (w := w4.drew) (b := sb) (.bool true) (.int .u64 0) (.int .u64 2147483648) HB1.out
    have hk1 := st3_keep w4.drew sb (.bool true) (.int .u64 0) (.int .u64 2147483648)
    have HB2' := hid (hk1.get (k := sb + 1) HB2.out (by omega))
    have HB4' := hid (hk1.get (k := sb + 1 + 1 + 1) HB4.out (by omega))
    refine Plan.pl_run_skip rfl (by kernel_rfl) rfl (run_store3 _ w4.drew (b := sb) (ng := true) (hi := 0) (lo := 2147483648) rfl rfl HB1.out rfl) ?_
    have HS1 := hid hs1; have HK1 := hid hk1
    clear hs1 hk1 c1 c2
    generalize st3 w4.drew sb (.bool true) (.int .u64 0) (.int .u64 2147483648) = w5 at *
    have c2 : w5.cell? ⟨sb + 1 + 1 + 1, 4, none⟩ = some (.int .u64 2147483647) := cell_of HB4'.out (by rfl)
    refine Plan.plQ_mk ?_ ?_
    · iterate 4 (refine Plan.chk_st rfl ?_ ?_; focus (go_big_quiet_step (fail); exact wpQuiet_nil rfl))
      exact Plan.chk_end
    have hs2 := st3_heap (w := w5) (b := sb + 1) (.bool false) (.int .u64 0) (.int .u64 2147483647) HB2'.out
    have hk2 := st3_keep w5 (sb + 1) (.bool false) (.int .u64 0) (.int .u64 2147483647)
    have HS1' := hid (hk2.get HS1.out (by omega))
    refine Plan.pl_run_skip rfl (by kernel_rfl) rfl (run_store3 _ w5 (b := sb + 1) (ng := false) (hi := 0) (lo := 2147483647) rfl rfl HB2'.out rfl) ?_
    have HS2 := hid hs2; have HK2 := hid hk2
    clear hs2 hk2 c2
    generalize st3 w5 (sb + 1) (.bool false) (.int .u64 0) (.int .u64 2147483647) = w6 at *
    refine Plan.plQ_mk Plan.chk_end ?_
    refine Plan.pl_end ?_
    go_wp2
    (try simp only [Exit.inBlock, Exit.then])
    refine bodyPost_ret (results_cc rfl _ rfl (load_int3 HS1'.out) rfl (load_int3 HS2.out)) rfl ?_
    exact ⟨by rfl, (HK.out.drew.trans' HK1.out (fun i hi e => by omega)).trans' HK2.out (fun i hi e => by omega)⟩
  · as_aux_lemma =>
    have c1 : w4.drew.cell? ⟨sb + 1 + 1, 5, none⟩ = some (.int .u64 9223372036854775808) := cell_of (w := w4.drew) HB3.out (by rfl)
    have c2 : w4.drew.cell? ⟨sb + 1 + 1 + 1, 5, none⟩ = some (.int .u64 9223372036854775807) := cell_of (w := w4.drew) HB4.out (by rfl)
    go_wp2_with fail
    refine Plan.wp_region_pl [(false, 0, []), (false, 1, []), (false, 2, []), (false, 3, []), (false, 4, []), (false, 5, []), (false, 6, []), (false, 7, []), (false, 8, []), (false, 9, []), (false, 10, []), (false, 11, []), (true, 12, [11, 10, 9, 8]), (true, 13, [])] (by kernel_rfl) (by kernel_rfl) ?_
    iterate 12 (refine Plan.pl_st rfl ?_; go_big_quiet_step (fail); refine wpQuiet_nil ?_)
    have hs1 := st3_heap (w := w4.drew) (b := sb) (.bool true) (.int .u64 0) (.int .u64 9223372036854775808) HB1.out
    have hk1 := st3_keep w4.drew sb (.bool true) (.int .u64 0) (.int .u64 9223372036854775808)
    have HB2' := hid (hk1.get (k := sb + 1) HB2.out (by omega))
    have HB4' := hid (hk1.get (k := sb + 1 + 1 + 1) HB4.out (by omega))
    refine Plan.pl_run_skip rfl (by kernel_rfl) rfl (run_store3 _ w4.drew (b := sb) (ng := true) (hi := 0) (lo := 9223372036854775808) rfl rfl HB1.out rfl) ?_
    have HS1 := hid hs1; have HK1 := hid hk1
    clear hs1 hk1 c1 c2
    generalize st3 w4.drew sb (.bool true) (.int .u64 0) (.int .u64 9223372036854775808) = w5 at *
    have c2 : w5.cell? ⟨sb + 1 + 1 + 1, 5, none⟩ = some (.int .u64 9223372036854775807) := cell_of HB4'.out (by rfl)
    refine Plan.plQ_mk ?_ ?_
    · iterate 4 (refine Plan.chk_st rfl ?_ ?_; focus (go_big_quiet_step (fail); exact wpQuiet_nil rfl))
      exact Plan.chk_end
    have hs2 := st3_heap (w := w5) (b := sb + 1) (.bool false) (.int .u64 0) (.int .u64 9223372036854775807) HB2'.out
    have hk2 := st3_keep w5 (sb + 1) (.bool false) (.int .u64 0) (.int .u64 9223372036854775807)
    have HS1' := hid (hk2.get HS1.out (by omega))
    refine Plan.pl_run_skip rfl (by kernel_rfl) rfl (run_store3 _ w5 (b := sb + 1) (ng := false) (hi := 0) (lo := 9223372036854775807) rfl rfl HB2'.out rfl) ?_
    have HS2 := hid hs2; have HK2 := hid hk2
    clear hs2 hk2 c2
    generalize st3 w5 (sb + 1) (.bool false) (.int .u64 0) (.int .u64 9223372036854775807) = w6 at *
    refine Plan.plQ_mk Plan.chk_end ?_
    refine Plan.pl_end ?_
    go_wp2
    (try simp only [Exit.inBlock, Exit.then])
    refine bodyPost_ret (results_cc rfl _ rfl (load_int3 HS1'.out) rfl (load_int3 HS2.out)) rfl ?_
    exact ⟨by rfl, (HK.out.drew.trans' HK1.out (fun i hi e => by omega)).trans' HK2.out (fun i hi e => by omega)⟩
  · as_aux_lemma =>
    have c1 : w4.drew.cell? ⟨sb + 1 + 1, 6, none⟩ = some (.int .u64 0) := cell_of (w := w4.drew) HB3.out (by rfl)
    have c2 : w4.drew.cell? ⟨sb + 1 + 1 + 1, 6, none⟩ = some (.int .u64 255) := cell_of (w := w4.drew) HB4.out (by rfl)
    go_wp2_with fail
    refine Plan.wp_region_pl [(false, 0, []), (false, 1, []), (false, 2, []), (false, 3, []), (false, 4, []), (false, 5, []), (false, 6, []), (false, 7, []), (false, 8, []), (false, 9, []), (false, 10, []), (false, 11, []), (true, 12, [11, 10, 9, 8]), (true, 13, [])] (by kernel_rfl) (by kernel_rfl) ?_
    iterate 12 (refine Plan.pl_st rfl ?_; go_big_quiet_step (fail); refine wpQuiet_nil ?_)
    have hs1 := st3_heap (w := w4.drew) (b := sb) (.bool false) (.int .u64 0) (.int .u64 0) HB1.out
    have hk1 := st3_keep w4.drew sb (.bool false) (.int .u64 0) (.int .u64 0)
    have HB2' := hid (hk1.get (k := sb + 1) HB2.out (by omega))
    have HB4' := hid (hk1.get (k := sb + 1 + 1 + 1) HB4.out (by omega))
    refine Plan.pl_run_skip rfl (by kernel_rfl) rfl (run_store3 _ w4.drew (b := sb) (ng := false) (hi := 0) (lo := 0) rfl rfl HB1.out rfl) ?_
    have HS1 := hid hs1; have HK1 := hid hk1
    clear hs1 hk1 c1 c2
    generalize st3 w4.drew sb (.bool false) (.int .u64 0) (.int .u64 0) = w5 at *
    have c2 : w5.cell? ⟨sb + 1 + 1 + 1, 6, none⟩ = some (.int .u64 255) := cell_of HB4'.out (by rfl)
    refine Plan.plQ_mk ?_ ?_
    · iterate 4 (refine Plan.chk_st rfl ?_ ?_; focus (go_big_quiet_step (fail); exact wpQuiet_nil rfl))
      exact Plan.chk_end
    have hs2 := st3_heap (w := w5) (b := sb + 1) (.bool false) (.int .u64 0) (.int .u64 255) HB2'.out
    have hk2 := st3_keep w5 (sb + 1) (.bool false) (.int .u64 0) (.int .u64 255)
    have HS1' := hid (hk2.get HS1.out (by omega))
    refine Plan.pl_run_skip rfl (by kernel_rfl) rfl (run_store3 _ w5 (b := sb + 1) (ng := false) (hi := 0) (lo := 255) rfl rfl HB2'.out rfl) ?_
    have HS2 := hid hs2; have HK2 := hid hk2
    clear hs2 hk2 c2
    generalize st3 w5 (sb + 1) (.bool false) (.int .u64 0) (.int .u64 255) = w6 at *
    refine Plan.plQ_mk Plan.chk_end ?_
    refine Plan.pl_end ?_
    go_wp2
    (try simp only [Exit.inBlock, Exit.then])
    refine bodyPost_ret (results_cc rfl _ rfl (load_int3 HS1'.out) rfl (load_int3 HS2.out)) rfl ?_
    exact ⟨by rfl, (HK.out.drew.trans' HK1.out (fun i hi e => by omega)).trans' HK2.out (fun i hi e => by omega)⟩
  · as_aux_lemma =>
    have c1 : w4.drew.cell? ⟨sb + 1 + 1, 7, none⟩ = some (.int .u64 0) := cell_of (w := w4.drew) HB3.out (by rfl)
    have c2 : w4.drew.cell? ⟨sb + 1 + 1 + 1, 7, none⟩ = some (.int .u64 65535) := cell_of (w := w4.drew) HB4.out (by rfl)
    go_wp2_with fail
    refine Plan.wp_region_pl [(false, 0, []), (false, 1, []), (false, 2, []), (false, 3, []), (false, 4, []), (false, 5, []), (false, 6, []), (false, 7, []), (false, 8, []), (false, 9, []), (false, 10, []), (false, 11, []), (true, 12, [11, 10, 9, 8]), (true, 13, [])] (by kernel_rfl) (by kernel_rfl) ?_
    iterate 12 (refine Plan.pl_st rfl ?_; go_big_quiet_step (fail); refine wpQuiet_nil ?_)
    have hs1 := st3_heap (w := w4.drew) (b := sb) (.bool false) (.int .u64 0) (.int .u64 0) HB1.out
    have hk1 := st3_keep w4.drew sb (.bool false) (.int .u64 0) (.int .u64 0)
    have HB2' := hid (hk1.get (k := sb + 1) HB2.out (by omega))
    have HB4' := hid (hk1.get (k := sb + 1 + 1 + 1) HB4.out (by omega))
    refine Plan.pl_run_skip rfl (by kernel_rfl) rfl (run_store3 _ w4.drew (b := sb) (ng := false) (hi := 0) (lo := 0) rfl rfl HB1.out rfl) ?_
    have HS1 := hid hs1; have HK1 := hid hk1
    clear hs1 hk1 c1 c2
    generalize st3 w4.drew sb (.bool false) (.int .u64 0) (.int .u64 0) = w5 at *
    have c2 : w5.cell? ⟨sb + 1 + 1 + 1, 7, none⟩ = some (.int .u64 65535) := cell_of HB4'.out (by rfl)
    refine Plan.plQ_mk ?_ ?_
    · iterate 4 (refine Plan.chk_st rfl ?_ ?_; focus (go_big_quiet_step (fail); exact wpQuiet_nil rfl))
      exact Plan.chk_end
    have hs2 := st3_heap (w := w5) (b := sb + 1) (.bool false) (.int .u64 0) (.int .u64 65535) HB2'.out
    have hk2 := st3_keep w5 (sb + 1) (.bool false) (.int .u64 0) (.int .u64 65535)
    have HS1' := hid (hk2.get HS1.out (by omega))
    refine Plan.pl_run_skip rfl (by kernel_rfl) rfl (run_store3 _ w5 (b := sb + 1) (ng := false) (hi := 0) (lo := 65535) rfl rfl HB2'.out rfl) ?_
    have HS2 := hid hs2; have HK2 := hid hk2
    clear hs2 hk2 c2
    generalize st3 w5 (sb + 1) (.bool false) (.int .u64 0) (.int .u64 65535) = w6 at *
    refine Plan.plQ_mk Plan.chk_end ?_
    refine Plan.pl_end ?_
    go_wp2
    (try simp only [Exit.inBlock, Exit.then])
    refine bodyPost_ret (results_cc rfl _ rfl (load_int3 HS1'.out) rfl (load_int3 HS2.out)) rfl ?_
    exact ⟨by rfl, (HK.out.drew.trans' HK1.out (fun i hi e => by omega)).trans' HK2.out (fun i hi e => by omega)⟩
  · as_aux_lemma =>
    have c1 : w4.drew.cell? ⟨sb + 1 + 1, 8, none⟩ = some (.int .u64 0) := cell_of (w := w4.drew) HB3.out (by rfl)
    have c2 : w4.drew.cell? ⟨sb + 1 + 1 + 1, 8, none⟩ = some (.int .u64 4294967295) := cell_of (w := w4.drew) HB4.out (by rfl)
    go_wp2_with fail
    refine Plan.wp_region_pl [(false, 0, []), (false, 1, []), (false, 2, []), (false, 3, []), (false, 4, []), (false, 5, []), (false, 6, []), (false, 7, []), (false, 8, []), (false, 9, []), (false, 10, []), (false, 11, []), (true, 12, [11, 10, 9, 8]), (true, 13, [])] (by kernel_rfl) (by kernel_rfl) ?_
    iterate 12 (refine Plan.pl_st rfl ?_; go_big_quiet_step (fail); refine wpQuiet_nil ?_)
    have hs1 := st3_heap (w := w4.drew) (b := sb) (.bool false) (.int .u64 0) (.int .u64 0) HB1.out
    have hk1 := st3_keep w4.drew sb (.bool false) (.int .u64 0) (.int .u64 0)
    have HB2' := hid (hk1.get (k := sb + 1) HB2.out (by omega))
    have HB4' := hid (hk1.get (k := sb + 1 + 1 + 1) HB4.out (by omega))
    refine Plan.pl_run_skip rfl (by kernel_rfl) rfl (run_store3 _ w4.drew (b := sb) (ng := false) (hi := 0) (lo := 0) rfl rfl HB1.out rfl) ?_
    have HS1 := hid hs1; have HK1 := hid hk1
    clear hs1 hk1 c1 c2
    generalize st3 w4.drew sb (.bool false) (.int .u64 0) (.int .u64 0) = w5 at *
    have c2 : w5.cell? ⟨sb + 1 + 1 + 1, 8, none⟩ = some (.int .u64 4294967295) := cell_of HB4'.out (by rfl)
    refine Plan.plQ_mk ?_ ?_
    · iterate 4 (refine Plan.chk_st rfl ?_ ?_; focus (go_big_quiet_step (fail); exact wpQuiet_nil rfl))
      exact Plan.chk_end
    have hs2 := st3_heap (w := w5) (b := sb + 1) (.bool false) (.int .u64 0) (.int .u64 4294967295) HB2'.out
    have hk2 := st3_keep w5 (sb + 1) (.bool false) (.int .u64 0) (.int .u64 4294967295)
    have HS1' := hid (hk2.get HS1.out (by omega))
    refine Plan.pl_run_skip rfl (by kernel_rfl) rfl (run_store3 _ w5 (b := sb + 1) (ng := false) (hi := 0) (lo := 4294967295) rfl rfl HB2'.out rfl) ?_
    have HS2 := hid hs2; have HK2 := hid hk2
    clear hs2 hk2 c2
    generalize st3 w5 (sb + 1) (.bool false) (.int .u64 0) (.int .u64 4294967295) = w6 at *
    refine Plan.plQ_mk Plan.chk_end ?_
    refine Plan.pl_end ?_
    go_wp2
    (try simp only [Exit.inBlock, Exit.then])
    refine bodyPost_ret (results_cc rfl _ rfl (load_int3 HS1'.out) rfl (load_int3 HS2.out)) rfl ?_
    exact ⟨by rfl, (HK.out.drew.trans' HK1.out (fun i hi e => by omega)).trans' HK2.out (fun i hi e => by omega)⟩
  · as_aux_lemma =>
    have c1 : w4.drew.cell? ⟨sb + 1 + 1, 9, none⟩ = some (.int .u64 0) := cell_of (w := w4.drew) HB3.out (by rfl)
    have c2 : w4.drew.cell? ⟨sb + 1 + 1 + 1, 9, none⟩ = some (.int .u64 18446744073709551615) := cell_of (w := w4.drew) HB4.out (by rfl)
    go_wp2_with fail
    refine Plan.wp_region_pl [(false, 0, []), (false, 1, []), (false, 2, []), (false, 3, []), (false, 4, []), (false, 5, []), (false, 6, []), (false, 7, []), (false, 8, []), (false, 9, []), (false, 10, []), (false, 11, []), (true, 12, [11, 10, 9, 8]), (true, 13, [])] (by kernel_rfl) (by kernel_rfl) ?_
    iterate 12 (refine Plan.pl_st rfl ?_; go_big_quiet_step (fail); refine wpQuiet_nil ?_)
    have hs1 := st3_heap (w := w4.drew) (b := sb) (.bool false) (.int .u64 0) (.int .u64 0) HB1.out
    have hk1 := st3_keep w4.drew sb (.bool false) (.int .u64 0) (.int .u64 0)
    have HB2' := hid (hk1.get (k := sb + 1) HB2.out (by omega))
    have HB4' := hid (hk1.get (k := sb + 1 + 1 + 1) HB4.out (by omega))
    refine Plan.pl_run_skip rfl (by kernel_rfl) rfl (run_store3 _ w4.drew (b := sb) (ng := false) (hi := 0) (lo := 0) rfl rfl HB1.out rfl) ?_
    have HS1 := hid hs1; have HK1 := hid hk1
    clear hs1 hk1 c1 c2
    generalize st3 w4.drew sb (.bool false) (.int .u64 0) (.int .u64 0) = w5 at *
    have c2 : w5.cell? ⟨sb + 1 + 1 + 1, 9, none⟩ = some (.int .u64 18446744073709551615) := cell_of HB4'.out (by rfl)
    refine Plan.plQ_mk ?_ ?_
    · iterate 4 (refine Plan.chk_st rfl ?_ ?_; focus (go_big_quiet_step (fail); exact wpQuiet_nil rfl))
      exact Plan.chk_end
    have hs2 := st3_heap (w := w5) (b := sb + 1) (.bool false) (.int .u64 0) (.int .u64 18446744073709551615) HB2'.out
    have hk2 := st3_keep w5 (sb + 1) (.bool false) (.int .u64 0) (.int .u64 18446744073709551615)
    have HS1' := hid (hk2.get HS1.out (by omega))
    refine Plan.pl_run_skip rfl (by kernel_rfl) rfl (run_store3 _ w5 (b := sb + 1) (ng := false) (hi := 0) (lo := 18446744073709551615) rfl rfl HB2'.out rfl) ?_
    have HS2 := hid hs2; have HK2 := hid hk2
    clear hs2 hk2 c2
    generalize st3 w5 (sb + 1) (.bool false) (.int .u64 0) (.int .u64 18446744073709551615) = w6 at *
    refine Plan.plQ_mk Plan.chk_end ?_
    refine Plan.pl_end ?_
    go_wp2
    (try simp only [Exit.inBlock, Exit.then])
    refine bodyPost_ret (results_cc rfl _ rfl (load_int3 HS1'.out) rfl (load_int3 HS2.out)) rfl ?_
    exact ⟨by rfl, (HK.out.drew.trans' HK1.out (fun i hi e => by omega)).trans' HK2.out (fun i hi e => by omega)⟩
  · as_aux_lemma =>
    have c1 : w4.drew.cell? ⟨sb + 1 + 1, 10, none⟩ = some (.int .u64 0) := cell_of (w := w4.drew) HB3.out (by rfl)
    have c2 : w4.drew.cell? ⟨sb + 1 + 1 + 1, 10, none⟩ = some (.int .u64 18446744073709551615) := cell_of (w := w4.drew) HB4.out (by rfl)
    go_wp2_with fail
    refine Plan.wp_region_pl [(false, 0, []), (false, 1, []), (false, 2, []), (false, 3, []), (false, 4, []), (false, 5, []), (false, 6, []), (false, 7, []), (false, 8, []), (false, 9, []), (false, 10, []), (false, 11, []), (true, 12, [11, 10, 9, 8]), (true, 13, [])] (by kernel_rfl) (by kernel_rfl) ?_
    iterate 12 (refine Plan.pl_st rfl ?_; go_big_quiet_step (fail); refine wpQuiet_nil ?_)
    have hs1 := st3_heap (w := w4.drew) (b := sb) (.bool false) (.int .u64 0) (.int .u64 0) HB1.out
    have hk1 := st3_keep w4.drew sb (.bool false) (.int .u64 0) (.int .u64 0)
    have HB2' := hid (hk1.get (k := sb + 1) HB2.out (by omega))
    have HB4' := hid (hk1.get (k := sb + 1 + 1 + 1) HB4.out (by omega))
    refine Plan.pl_run_skip rfl (by kernel_rfl) rfl (run_store3 _ w4.drew (b := sb) (ng := false) (hi := 0) (lo := 0) rfl rfl HB1.out rfl) ?_
    have HS1 := hid hs1; have HK1 := hid hk1
    clear hs1 hk1 c1 c2
    generalize st3 w4.drew sb (.bool false) (.int .u64 0) (.int .u64 0) = w5 at *
    have c2 : w5.cell? ⟨sb + 1 + 1 + 1, 10, none⟩ = some (.int .u64 18446744073709551615) := cell_of HB4'.out (by rfl)
    refine Plan.plQ_mk ?_ ?_
    · iterate 4 (refine Plan.chk_st rfl ?_ ?_; focus (go_big_quiet_step (fail); exact wpQuiet_nil rfl))
      exact Plan.chk_end
    have hs2 := st3_heap (w := w5) (b := sb + 1) (.bool false) (.int .u64 0) (.int .u64 18446744073709551615) HB2'.out
    have hk2 := st3_keep w5 (sb + 1) (.bool false) (.int .u64 0) (.int .u64 18446744073709551615)
    have HS1' := hid (hk2.get HS1.out (by omega))
    refine Plan.pl_run_skip rfl (by kernel_rfl) rfl (run_store3 _ w5 (b := sb + 1) (ng := false) (hi := 0) (lo := 18446744073709551615) rfl rfl HB2'.out rfl) ?_
    have HS2 := hid hs2; have HK2 := hid hk2
    clear hs2 hk2 c2
    generalize st3 w5 (sb + 1) (.bool false) (.int .u64 0) (.int .u64 18446744073709551615) = w6 at *
    refine Plan.plQ_mk Plan.chk_end ?_
    refine Plan.pl_end ?_
    go_wp2
    (try simp only [Exit.inBlock, Exit.then])
    refine bodyPost_ret (results_cc rfl _ rfl (load_int3 HS1'.out) rfl (load_int3 HS2.out)) rfl ?_
    exact ⟨by rfl, (HK.out.drew.trans' HK1.out (fun i hi e => by omega)).trans' HK2.out (fun i hi e => by omega)⟩
end Go.Proofs.Ytkgkcnmnfhehfaa

namespace Go.Proofs.Ytkgkcnmnfhehfaa
open Go.RowKit Go.Proofs.Heap Go.Proofs.Wide

theorem dg_split (m k : Nat) : m / 256 ^ k = 256 * (m / 256 ^ (k + 1)) + dgN m k := by
  unfold dgN
  rw [Nat.pow_succ, ← Nat.div_div_eq_div_mul]
  exact (Nat.div_add_mod _ _).symm
theorem dg_lt (m k : Nat) : dgN m k < 256 := Nat.mod_lt _ (by decide)
theorem dg_eq {m m' k : Nat} (h : m / 256 ^ (k + 1) = m' / 256 ^ (k + 1)) (hd : dgN m k = dgN m' k) : m / 256 ^ k = m' / 256 ^ k := by rw [dg_split m, dg_split m', h, hd]
theorem dg_less {m m' k : Nat} (h : m / 256 ^ (k + 1) = m' / 256 ^ (k + 1)) (hd : dgN m k < dgN m' k) : m < m' := by
  have h1 := dg_split m k
  have h2 := dg_split m' k
  refine Nat.lt_of_not_le fun hle => ?_
  have := Nat.div_le_div_right (c := 256 ^ k) hle
  omega
theorem cmpN_gt {a b : Nat} (h : b < a) : cmpN a b = 1 := by unfold cmpN; rw [if_pos h]
theorem cmpN_lt {a b : Nat} (h : a < b) : cmpN a b = -1 := by unfold cmpN; rw [if_neg (by omega), if_neg (by omega)]
theorem cmpN_eq {a b : Nat} (h : a = b) : cmpN a b = 0 := by unfold cmpN; rw [if_neg (by omega), if_pos h]

set_option maxRecDepth 20000 in
set_option maxHeartbeats 4000000 in
theorem r_size (a b : Bool) (m n : Nat) (hm : m < 256 ^ 40) (hn : n < 256 ^ 40) (w : World) : Calls Try.prog 65 #[.agg (nC a (dgN m)), .agg (nC b (dgN n))] w fun r w' => r = .returned (.int .i64 (cmpN m n)) ∧ Keep (fun _ => False) w w' := by
  have hb1 := heap_alloc_new w (.cells (nC a (dgN m)) 118)
  have hb2 := heap_alloc_new (w.alloc (.cells (nC a (dgN m)) 118)) (.cells (nC b (dgN n)) 118)
  have e1 : (w.alloc (.cells (nC a (dgN m)) 118)).heap.size = w.heap.size + 1 := by simp
  have hb1' := ((Keep.refl (fun _ => False) (w.alloc (.cells (nC a (dgN m)) 118))).alloc (.cells (nC b (dgN n)) 118)).get hb1 id
  rw [e1] at hb2
  have hk := ((Keep.refl (fun _ => False) w).alloc (.cells (nC a (dgN m)) 118)).alloc (.cells (nC b (dgN n)) 118)
  have HA : Hid (NI a (dgN m) _ _) := hid hb1'
  have HB : Hid (NI b (dgN n) _ _) := hid hb2
  have HK := hid hk
  have H40 : Hid (m / 256 ^ 40 = n / 256 ^ 40) := hid (by rw [Nat.div_eq_of_lt hm, Nat.div_eq_of_lt hn])
  clear hb1 hb2 hb1' hk e1 hm hn
  go_enter Try.func65, Try.ntmps65
  go_upto_region 1 with fail
  generalize (w.alloc (.cells (nC a (dgN m)) 118)).alloc (.cells (nC b (dgN n)) 118) = w1 at *
  generalize w.heap.size = sb at *
  go_wp2_with fail
  go_loopw [5] (fun i wr => ∃ k : Nat, k ≤ 40 ∧ i = .int .i64 ((k : Int) - 1) ∧ m / 256 ^ k = n / 256 ^ k ∧ Keep (fun _ => False) w1 wr) (fun i _ => (intOf i + 1).toNat)
  case atStart => exact ⟨40, Nat.le_refl _, by rfl, H40.out, Keep.refl _ _⟩
  case round =>
    clear H40
    obtain ⟨k, hk, rfl, heq, hkr⟩ := hrel
    have HEQ := hid heq; have HKR := hid hkr
    clear heq hkr
    cases k with
    | succ k =>
      have hme : ((k + 1 : Nat) : Int) - 1 = (k : Int) := by omega
      rw [hme]
      have g1 : decide ((0 : Int) ≤ (k : Int)) = true := decide_eq_true (by omega)
      have hin : (0 : Int) ≤ (k : Int) ∧ (k : Int) < 40 := ⟨by omega, by omega⟩
      have c1 := (HA.out.keep HKR.out.drew id).dig k (by omega)
      have c2 := (HB.out.keep HKR.out.drew id).dig k (by omega)
      have d1 := (HA.out.keep HKR.out.drew.drew id).dig k (by omega)
      have d2 := (HB.out.keep HKR.out.drew.drew id).dig k (by omega)
      have HLT := hid (fun h => dg_less HEQ.out h : dgN m k < dgN n k → m < n)
      have HGT := hid (fun h => dg_less HEQ.out.symm h : dgN n k < dgN m k → n < m)
      have HEE := hid (fun h => dg_eq HEQ.out h : dgN m k = dgN n k → m / 256 ^ k = n / 256 ^ k)
      generalize dgN m k = x at *
      generalize dgN n k = y at *
      by_cases hgt : y < x
      · have g2 : decide ((y : Int) < (x : Int)) = true := decide_eq_true (by omega)
        have g3 : decide (y < x) = true := decide_eq_true hgt
        have G := hid (cmpN_gt (HGT.out hgt))
        go_wp2_with fail
        refine Plan.wp_region_pl [(false, 0, []), (false, 1, []), (false, 2, []), (false, 3, []), (false, 4, []), (false, 5, []), (false, 6, []), (false, 7, []), (false, 8, [])] (by kernel_rfl) (by kernel_rfl) ?_
        iterate 9 (refine Plan.pl_st rfl ?_; go_big_quiet_step (fail); refine wpQuiet_nil ?_)
        refine Plan.pl_end ?_
        go_wp2
        go_ret
        exact ⟨by rw [G.out]; rfl, HK.out.trans HKR.out.drew⟩
      have g2 : decide ((y : Int) < (x : Int)) = false := decide_eq_false (by omega)
      have g3 : decide (y < x) = false := decide_eq_false hgt
      by_cases hlt : x < y
      · have g4 : decide ((x : Int) < (y : Int)) = true := decide_eq_true (by omega)
        have g5 : decide (x < y) = true := decide_eq_true hlt
        have G := hid (cmpN_lt (HLT.out hlt))
        go_wp2_with fail
        refine Plan.wp_region_pl [(false, 0, []), (false, 1, []), (false, 2, []), (false, 3, []), (false, 4, []), (false, 5, []), (false, 6, []), (false, 7, []), (false, 8, [])] (by kernel_rfl) (by kernel_rfl) ?_
        iterate 9 (refine Plan.pl_st rfl ?_; go_big_quiet_step (fail); refine wpQuiet_nil ?_)
        refine Plan.pl_end ?_
        go_wp2_with fail
        refine Plan.wp_region_pl [(false, 0, []), (false, 1, []), (false, 2, []), (false, 3, []), (false, 4, []), (false, 5, []), (false, 6, []), (false, 7, []), (false, 8, [])] (by kernel_rfl) (by kernel_rfl) ?_
        iterate 9 (refine Plan.pl_st rfl ?_; go_big_quiet_step (fail); refine wpQuiet_nil ?_)
        refine Plan.pl_end ?_
        go_wp2
        go_ret
        exact ⟨by rw [G.out]; rfl, HK.out.trans HKR.out.drew.drew⟩
      have g4 : decide ((x : Int) < (y : Int)) = false := decide_eq_false (by omega)
      have g5 : decide (x < y) = false := decide_eq_false hlt
      have G := hid (HEE.out (by omega))
      go_wp2_with fail
      refine Plan.wp_region_pl [(false, 0, []), (false, 1, []), (false, 2, []), (false, 3, []), (false, 4, []), (false, 5, []), (false, 6, []), (false, 7, []), (false, 8, [])] (by kernel_rfl) (by kernel_rfl) ?_
      iterate 9 (refine Plan.pl_st rfl ?_; go_big_quiet_step (fail); refine wpQuiet_nil ?_)
      refine Plan.pl_end ?_
      go_wp2_with fail
      refine Plan.wp_region_pl [(false, 0, []), (false, 1, []), (false, 2, []), (false, 3, []), (false, 4, []), (false, 5, []), (false, 6, []), (false, 7, []), (false, 8, [])] (by kernel_rfl) (by kernel_rfl) ?_
      iterate 9 (refine Plan.pl_st rfl ?_; go_big_quiet_step (fail); refine wpQuiet_nil ?_)
      refine Plan.pl_end ?_
      go_wp2
      go_roundw
      case rel => exact ⟨k, by omega, by first | rfl | go_num, G.out, HKR.out.drew.drew⟩
      case measure => simp [intOf]
    | zero =>
      have G := hid (cmpN_eq (a := m) (b := n) (by have := HEQ.out; simpa using this))
      go_wp2
      go_ret
      exact ⟨by rw [G.out]; rfl, HK.out.trans HKR.out⟩

set_option maxRecDepth 20000 in
set_option maxHeartbeats 2000000 in
theorem r_good (x : WI) (hx : x.fit) (w : World) : Calls Try.prog 47 #[WV x] w fun r w' => r = .returned (.bool x.form) ∧ Keep (fun _ => False) w w' := by
  obtain ⟨ng, hi, lo⟩ := x
  have hf1 := hx.1
  have hf2 := hx.2
  simp only at hf1 hf2
  have HK := hid ((Keep.refl (fun _ => False) w).alloc (.cells #[.bool ng, .int .u64 (hi : Int), .int .u64 (lo : Int)] 57))
  have hform : WI.form ⟨ng, hi, lo⟩ = (decide (hi < 9223372036854775808) && (!ng || decide (hi * 18446744073709551616 + lo ≠ 0))) := rfl
  rw [hform]
  clear hform hx
  go_enter Try.func47, Try.ntmps47
  by_cases h1 : hi < 9223372036854775808
  · have g1 : decide ((hi : Int) < 9223372036854775808) = true := decide_eq_true (by omega)
    have g1' : decide (hi < 9223372036854775808) = true := decide_eq_true h1
    rw [g1']
    cases ng
    · go_wp2
      go_ret
      exact ⟨rfl, HK.out⟩
    · by_cases h2 : hi = 0
      · by_cases h3 : lo = 0
        · subst h2; subst h3
          go_wp2
          go_ret
          exact ⟨rfl, HK.out⟩
        · subst h2
          have g3 : ((lo : Int) == 0) = false := beq_eq_false_iff_ne.2 (by omega)
          have g4 : (lo == 0) = false := beq_eq_false_iff_ne.2 h3
          have G : Hid (decide (0 * 18446744073709551616 + lo ≠ 0) = true) := hid (decide_eq_true (by omega))
          go_wp2
          go_ret
          exact ⟨by rw [G.out]; rfl, HK.out⟩
      · have g3 : ((hi : Int) == 0) = false := beq_eq_false_iff_ne.2 (by omega)
        have g4 : (hi == 0) = false := beq_eq_false_iff_ne.2 h2
        have G : Hid (decide (hi * 18446744073709551616 + lo ≠ 0) = true) := hid (decide_eq_true (by omega))
        go_wp2
        go_ret
        exact ⟨by rw [G.out]; rfl, HK.out⟩
  · have g1 : decide ((hi : Int) < 9223372036854775808) = false := decide_eq_false (by omega)
    have g1' : decide (hi < 9223372036854775808) = false := decide_eq_false h1
    rw [g1']
    go_wp2
    go_ret
    exact ⟨rfl, HK.out⟩
end Go.Proofs.Ytkgkcnmnfhehfaa

namespace Go.Proofs.Ytkgkcnmnfhehfaa
open Go.RowKit Go.Proofs.Heap Go.Proofs.Wide

theorem mag_small {x : WI} (h : x.fit) : x.mag < 256 ^ 40 := by
  have h1 := h.1
  have h2 := h.2
  unfold WI.mag
  exact Nat.lt_of_lt_of_le (show _ < 256 ^ 16 by omega) (Nat.pow_le_pow_right (by decide) (by decide))
theorem form_neg {x : WI} (h : x.form = true) (hn : x.neg = true) : x.mag ≠ 0 := by
  unfold WI.form at h
  rw [hn] at h
  simp at h
  exact h.2
theorem cmpW_form {x y : WI} (hx : x.form = true) (hy : y.form = true) : cmpW x y = cmpI x.val y.val := by unfold cmpW; rw [if_pos ⟨hx, hy⟩]
theorem val_pos {x : WI} (h : x.neg = false) : x.val = (x.mag : Int) := by unfold WI.val; rw [h]; rfl
theorem val_neg {x : WI} (h : x.neg = true) : x.val = -(x.mag : Int) := by unfold WI.val; rw [if_pos h]
theorem cmpI_nat (a b : Nat) : cmpI (a : Int) (b : Int) = cmpN a b := by
  unfold cmpI cmpN
  by_cases h : b < a
  · rw [if_pos h, if_pos (by omega)]
  · rw [if_neg h, if_neg (by omega)]
    by_cases h2 : a = b
    · rw [if_pos h2, if_pos (by omega)]
    · rw [if_neg h2, if_neg (by omega)]
theorem cmpI_neg (a b : Nat) : cmpI (-(a : Int)) (-(b : Int)) = -cmpN a b := by
  unfold cmpI cmpN
  by_cases h : b < a
  · rw [if_pos h, if_neg (by omega), if_neg (by omega)]
  · rw [if_neg h]
    by_cases h2 : a = b
    · rw [if_pos h2, if_neg (by omega), if_pos (by omega)]; rfl
    · rw [if_neg h2, if_pos (by omega)]; rfl
theorem cmpN_three (a b : Nat) : cmpN a b = 1 ∨ cmpN a b = 0 ∨ cmpN a b = -1 := by
  unfold cmpN
  by_cases h : b < a
  · rw [if_pos h]; exact .inl rfl
  · rw [if_neg h]
    by_cases h2 : a = b
    · rw [if_pos h2]; exact .inr (.inl rfl)
    · rw [if_neg h2]; exact .inr (.inr rfl)

set_option maxRecDepth 20000 in
set_option maxHeartbeats 2000000 in
theorem r_cmp (x y : WI) (hx : x.fit) (hy : y.fit) (hxf : x.form = true) (hyf : y.form = true) (w : World) : Calls Try.prog 49 #[WV x, WV y] w fun r w' => r = .returned (.int .i64 (cmpW x y)) ∧ Keep (fun _ => False) w w' := by
  rw [cmpW_form hxf hyf]
  have HXF := hid hx; have HYF := hid hy
  have HXN := hid (fun h => form_neg hxf h : x.neg = true → x.mag ≠ 0)
  have HYN := hid (fun h => form_neg hyf h : y.neg = true → y.mag ≠ 0)
  have HXM := hid (mag_small hx); have HYM := hid (mag_small hy)
  clear hx hy hxf hyf
  have hb1 := heap_alloc_new w (.cells (WC x) 57)
  have hb2 := heap_alloc_new (w.alloc (.cells (WC x) 57)) (.cells (WC y) 57)
  have e1 : (w.alloc (.cells (WC x) 57)).heap.size = w.heap.size + 1 := by simp
  have hb1' := ((Keep.refl (fun _ => False) (w.alloc (.cells (WC x) 57))).alloc (.cells (WC y) 57)).get hb1 id
  rw [e1] at hb2
  have HK := hid (((Keep.refl (fun _ => False) w).alloc (.cells (WC x) 57)).alloc (.cells (WC y) 57))
  have HA := hid hb1'; have HB := hid hb2
  clear hb1 hb2 hb1' e1
  obtain ⟨xn, xh, xl⟩ := x
  obtain ⟨yn, yh, yl⟩ := y
  go_enter Try.func49, Try.ntmps49
  go_upto_region 1 with fail
  generalize (w.alloc (.cells #[.bool xn, .int .u64 (xh : Int), .int .u64 (xl : Int)] 57)).alloc (.cells #[.bool yn, .int .u64 (yh : Int), .int .u64 (yl : Int)] 57) = w1 at *
  generalize w.heap.size = sb at *
  have HW : Hid (∀ wy, Keep (fun _ => False) w1 wy → wy.cell? ⟨sb, 0, none⟩ = some (.bool xn) ∧ wy.cell? ⟨sb, 1, none⟩ = some (.int .u64 (xh : Int)) ∧ wy.cell? ⟨sb, 2, none⟩ = some (.int .u64 (xl : Int)) ∧ wy.cell? ⟨sb + 1, 0, none⟩ = some (.bool yn) ∧ wy.cell? ⟨sb + 1, 1, none⟩ = some (.int .u64 (yh : Int)) ∧ wy.cell? ⟨sb + 1, 2, none⟩ = some (.int .u64 (yl : Int))) := hid (fun wy hk =>
    ⟨cell_of (hk.get HA.out id) (by rfl), cell_of (hk.get HA.out id) (by rfl), cell_of (hk.get HA.out id) (by rfl), cell_of (hk.get HB.out id) (by rfl), cell_of (hk.get HB.out id) (by rfl), cell_of (hk.get HB.out id) (by rfl)⟩)
  obtain ⟨s0, s1, s2, s3, s4, s5⟩ := HW.out _ (Keep.refl _ _)
  by_cases hd : xn = yn
  rotate_left
  · cases xn <;> cases yn
    · exact absurd rfl hd
    · have G : Hid (cmpI (WI.val ⟨false, xh, xl⟩) (WI.val ⟨true, yh, yl⟩) = 1) := hid (by
        have h := HYN.out rfl
        rw [val_pos rfl, val_neg rfl]; unfold cmpI; rw [if_pos (by omega)])
      go_wp2
      go_ret
      exact ⟨by rw [G.out]; rfl, HK.out⟩
    · have G : Hid (cmpI (WI.val ⟨true, xh, xl⟩) (WI.val ⟨false, yh, yl⟩) = -1) := hid (by
        have h := HXN.out rfl
        rw [val_neg rfl, val_pos rfl]; unfold cmpI; rw [if_neg (by omega), if_neg (by omega)])
      go_wp2
      go_ret
      exact ⟨by rw [G.out]; rfl, HK.out⟩
    · exact absurd rfl hd
  subst hd
  have g1 : (xn != xn) = false := by simp
  clear s0 s1 s2 s3 s4 s5
  obtain ⟨t0, t1, t2, t3, t4, t5⟩ := HW.out _ (Keep.refl (fun _ => False) w1)
  obtain ⟨s0, s1, s2, s3, s4, s5⟩ := HW.out _ (Keep.refl (fun _ => False) w1).drew
  go_wp2_with fail
  clear t0 t1 t2 t3 t4 t5
  refine Plan.wp_region_pl [(false, 0, []), (false, 2, []), (true, 1, [2]), (true, 3, []), (true, 4, []), (false, 5, [])] (by kernel_rfl) (by kernel_rfl) ?_
  iterate 2 (refine Plan.pl_st rfl ?_; go_big_quiet_step (fail); refine wpQuiet_nil ?_)
  refine Plan.pl_ac rfl ?_
  go_wp2_with fail
  refine (r_from ⟨xn, xh, xl⟩ HXF.out _).mono ?_
  rintro r w2 ⟨rfl, hk2⟩
  have HK2 := hid ((Keep.refl (fun _ => False) w1).drew.trans hk2)
  clear hk2 s0 s1 s2 s3 s4 s5
  obtain ⟨s0, s1, s2, s3, s4, s5⟩ := HW.out _ HK2.out
  go_wp2
  refine Plan.plQ_mk ?_ ?_
  · iterate 1 (refine Plan.chk_st rfl ?_ ?_; focus (go_big_quiet_step (fail); exact wpQuiet_nil rfl))
    exact Plan.chk_end
  refine Plan.pl_ac rfl ?_
  go_wp2_with fail
  refine (r_from ⟨xn, yh, yl⟩ HYF.out _).mono ?_
  rintro r w3 ⟨rfl, hk3⟩
  have HK3 := hid (HK2.out.trans hk3)
  clear hk3 s0 s1 s2 s3 s4 s5
  go_wp2
  refine Plan.plQ_mk Plan.chk_end ?_
  refine Plan.pl_ac rfl ?_
  go_wp2_with fail
  refine (r_size _ _ _ _ HXM.out HYM.out _).mono ?_
  rintro r w4 ⟨rfl, hk4⟩
  have HK4 := hid (HK3.out.trans hk4)
  clear hk4
  go_wp2
  refine Plan.plQ_mk Plan.chk_end ?_
  iterate 1 (refine Plan.pl_st rfl ?_; go_big_quiet_step (fail); refine wpQuiet_nil ?_)
  refine Plan.pl_end ?_
  obtain ⟨s0, s1, s2, s3, s4, s5⟩ := HW.out _ HK4.out
  cases xn
  · have G : Hid (cmpI (WI.val ⟨false, xh, xl⟩) (WI.val ⟨false, yh, yl⟩) = cmpN (WI.mag ⟨false, xh, xl⟩) (WI.mag ⟨false, yh, yl⟩)) := hid (by rw [val_pos rfl, val_pos rfl, cmpI_nat])
    generalize cmpN (WI.mag ⟨false, xh, xl⟩) (WI.mag ⟨false, yh, yl⟩) = z at *
    go_wp2
    go_ret
    exact ⟨by rw [G.out]; rfl, HK.out.trans HK4.out⟩
  · have G : Hid (cmpI (WI.val ⟨true, xh, xl⟩) (WI.val ⟨true, yh, yl⟩) = -cmpN (WI.mag ⟨true, xh, xl⟩) (WI.mag ⟨true, yh, yl⟩)) := hid (by rw [val_neg rfl, val_neg rfl, cmpI_neg])
    have h3 := cmpN_three (WI.mag ⟨true, xh, xl⟩) (WI.mag ⟨true, yh, yl⟩)
    generalize cmpN (WI.mag ⟨true, xh, xl⟩) (WI.mag ⟨true, yh, yl⟩) = z at *
    rcases h3 with rfl | rfl | rfl
    · go_wp2
      go_ret
      exact ⟨by rw [G.out]; rfl, HK.out.trans HK4.out⟩
    · go_wp2
      go_ret
      exact ⟨by rw [G.out]; rfl, HK.out.trans HK4.out⟩
    · go_wp2
      go_ret
      exact ⟨by rw [G.out]; rfl, HK.out.trans HK4.out⟩
end Go.Proofs.Ytkgkcnmnfhehfaa

namespace Go.Proofs.Ytkgkcnmnfhehfaa
open Go.RowKit Go.Proofs.Heap Go.Proofs.Wide

theorem sizeK_pos {k : Int} (h1 : 1 ≤ k) (h2 : k ≤ 10) : sizeK k ≠ 0 := by
  unfold sizeK
  by_cases a : k = 1 ∨ k = 2 ∨ k = 6
  · rw [if_pos a]; decide
  · rw [if_neg a]
    by_cases b : k = 3 ∨ k = 7
    · rw [if_pos b]; decide
    · rw [if_neg b]
      by_cases c : k = 4 ∨ k = 8
      · rw [if_pos c]; decide
      · rw [if_neg c, if_pos (by omega)]; decide

set_option maxRecDepth 20000 in
set_option maxHeartbeats 4000000 in
theorem r_fits (k : Int) (x : WI) (hx : x.fit) (w : World) : Calls Try.prog 26 #[.int .i64 k, WV x] w fun r w' => r = .returned (.bool (fitsB k x)) ∧ Keep (fun _ => False) w w' := by
  have HB0 := hid (heap_alloc_new w (.cells (WC x) 57))
  have HK0 := hid ((Keep.refl (fun _ => False) w).alloc (.cells (WC x) 57))
  have HXF := hid hx
  clear hx
  have hfb : fitsB k x = (kindB k && (x.form && (decide (0 ≤ cmpW x (leastW k)) && decide (cmpW x (greatW k) ≤ 0)))) := rfl
  rw [hfb]
  clear hfb
  obtain ⟨xn, xh, xl⟩ := x
  go_enter Try.func26, Try.ntmps26
  go_upto_region 1 with fail
  generalize w.alloc (.cells #[.bool xn, .int .u64 (xh : Int), .int .u64 (xl : Int)] 57) = w0 at *
  generalize w.heap.size = sb at *
  have HW : Hid (∀ wy, Keep (fun _ => False) w0 wy → wy.cell? ⟨sb, 0, none⟩ = some (.bool xn) ∧ wy.cell? ⟨sb, 1, none⟩ = some (.int .u64 (xh : Int)) ∧ wy.cell? ⟨sb, 2, none⟩ = some (.int .u64 (xl : Int))) := hid (fun wy hk =>
    ⟨cell_of (hk.get HB0.out id) (by rfl), cell_of (hk.get HB0.out id) (by rfl), cell_of (hk.get HB0.out id) (by rfl)⟩)
  go_wp2_with fail
  refine (r_bytes k _).mono ?_
  rintro r w1 ⟨rfl, hk1⟩
  have HK1 := hid hk1
  clear hk1
  by_cases hr : 1 ≤ k ∧ k ≤ 10
  rotate_left
  · have G : Hid (kindB k = false) := hid (decide_eq_false hr)
    rw [sizeK_out (show k < 1 ∨ 10 < k by omega)]
    clear hr
    go_wp2
    go_ret
    exact ⟨by rw [G.out]; rfl, HK0.out.trans HK1.out⟩
  have HR := hid hr
  have HKB : Hid (kindB k = true) := hid (decide_eq_true hr)
  have hsz := sizeK_pos hr.1 hr.2
  clear hr
  generalize sizeK k = z at *
  have g1 : (z == 0) = false := beq_eq_false_iff_ne.2 hsz
  clear hsz
  obtain ⟨s0, s1, s2⟩ := HW.out _ HK1.out
  go_wp2_with fail
  refine (r_good ⟨xn, xh, xl⟩ HXF.out _).mono ?_
  rintro r w2 ⟨rfl, hk2⟩
  have HK2 := hid (HK1.out.trans hk2)
  clear hk2 g1 s0 s1 s2
  cases hfm : WI.form ⟨xn, xh, xl⟩
  · have HFM := hid hfm
    clear hfm
    go_wp2
    go_ret
    exact ⟨by rw [HKB.out, HFM.out]; rfl, HK0.out.trans HK2.out⟩
  have HFM := hid hfm
  clear hfm
  go_wp2_with fail
  refine (r_bounds k HR.out.1 HR.out.2 _).mono ?_
  rintro r w3 ⟨rfl, hk3⟩
  have HK3 := hid (HK2.out.trans hk3)
  have HLF := hid (leastW_fit k); have HLO := hid (leastW_form k); have HGF := hid (greatW_fit k); have HGO := hid (greatW_form k)
  clear hk3
  generalize hlw : leastW k = lw at *
  generalize hgw : greatW k = gw at *
  have HLW := hid hlw; have HGW := hid hgw
  clear hlw hgw
  obtain ⟨ln, lh, ll⟩ := lw
  obtain ⟨gn, gh, gl⟩ := gw
  have hb1 := heap_alloc_new w3 (.cells #[.bool ln, .int .u64 (lh : Int), .int .u64 (ll : Int)] 57)
  have hb2 := heap_alloc_new (w3.alloc (.cells #[.bool ln, .int .u64 (lh : Int), .int .u64 (ll : Int)] 57)) (.cells #[.bool gn, .int .u64 (gh : Int), .int .u64 (gl : Int)] 57)
  have e1 : (w3.alloc (.cells #[.bool ln, .int .u64 (lh : Int), .int .u64 (ll : Int)] 57)).heap.size = w3.heap.size + 1 := by simp
  have hb1' := ((Keep.refl (fun _ => False) (w3.alloc (.cells #[.bool ln, .int .u64 (lh : Int), .int .u64 (ll : Int)] 57))).alloc (.cells #[.bool gn, .int .u64 (gh : Int), .int .u64 (gl : Int)] 57)).get hb1 id
  rw [e1] at hb2
  have HB1 := hid hb1'; have HB2 := hid hb2
  have HK4 := hid ((HK3.out.alloc (.cells #[.bool ln, .int .u64 (lh : Int), .int .u64 (ll : Int)] 57)).alloc (.cells #[.bool gn, .int .u64 (gh : Int), .int .u64 (gl : Int)] 57))
  clear hb1 hb2 hb1' e1
  go_upto_region 4 with fail
  generalize (w3.alloc (.cells #[.bool ln, .int .u64 (lh : Int), .int .u64 (ll : Int)] 57)).alloc (.cells #[.bool gn, .int .u64 (gh : Int), .int .u64 (gl : Int)] 57) = w4 at *
  generalize w3.heap.size = bb at *
  have HX : Hid (∀ wy, Keep (fun _ => False) w4 wy → wy.cell? ⟨bb, 0, none⟩ = some (.bool ln) ∧ wy.cell? ⟨bb, 1, none⟩ = some (.int .u64 (lh : Int)) ∧ wy.cell? ⟨bb, 2, none⟩ = some (.int .u64 (ll : Int)) ∧ wy.cell? ⟨bb + 1, 0, none⟩ = some (.bool gn) ∧ wy.cell? ⟨bb + 1, 1, none⟩ = some (.int .u64 (gh : Int)) ∧ wy.cell? ⟨bb + 1, 2, none⟩ = some (.int .u64 (gl : Int))) := hid (fun wy hk =>
    ⟨cell_of (hk.get HB1.out id) (by rfl), cell_of (hk.get HB1.out id) (by rfl), cell_of (hk.get HB1.out id) (by rfl), cell_of (hk.get HB2.out id) (by rfl), cell_of (hk.get HB2.out id) (by rfl), cell_of (hk.get HB2.out id) (by rfl)⟩)
  obtain ⟨s0, s1, s2⟩ := HW.out _ HK4.out
  obtain ⟨t0, t1, t2, t3, t4, t5⟩ := HX.out _ (Keep.refl (fun _ => False) w4)
  go_wp2_with fail
  refine (r_cmp ⟨xn, xh, xl⟩ ⟨ln, lh, ll⟩ HXF.out HLF.out HFM.out HLO.out _).mono ?_
  rintro r w5 ⟨rfl, hk5⟩
  have HK5 := hid hk5
  clear hk5 s0 s1 s2 t0 t1 t2 t3 t4 t5
  by_cases hc1 : 0 ≤ cmpW ⟨xn, xh, xl⟩ ⟨ln, lh, ll⟩
  rotate_left
  · have HQ : Hid ((kindB k && (WI.form ⟨xn, xh, xl⟩ && (decide (0 ≤ cmpW ⟨xn, xh, xl⟩ (leastW k)) && decide (cmpW ⟨xn, xh, xl⟩ (greatW k) ≤ 0)))) = false) := hid (by
      rw [HKB.out, HFM.out, HLW.out, decide_eq_false hc1]; rfl)
    generalize cmpW ⟨xn, xh, xl⟩ ⟨ln, lh, ll⟩ = z1 at *
    have g1 : decide (0 ≤ z1) = false := decide_eq_false hc1
    go_wp2
    go_ret
    exact ⟨by rw [HQ.out]; rfl, HK0.out.trans (HK4.out.trans HK5.out)⟩
  have G := hid (decide_eq_true hc1)
  have HC1 := hid hc1
  generalize hz1 : cmpW ⟨xn, xh, xl⟩ ⟨ln, lh, ll⟩ = z1 at *
  have g1 : decide (0 ≤ z1) = true := decide_eq_true hc1
  have HZ1 := hid hz1
  clear hz1
  obtain ⟨s0, s1, s2⟩ := HW.out _ (HK4.out.trans HK5.out)
  obtain ⟨t0, t1, t2, t3, t4, t5⟩ := HX.out _ HK5.out
  go_wp2_with fail
  refine (r_cmp ⟨xn, xh, xl⟩ ⟨gn, gh, gl⟩ HXF.out HGF.out HFM.out HGO.out _).mono ?_
  rintro r w6 ⟨rfl, hk6⟩
  have HK6 := hid (HK5.out.trans hk6)
  clear hk6 s0 s1 s2 t0 t1 t2 t3 t4 t5
  have HQ : Hid ((kindB k && (WI.form ⟨xn, xh, xl⟩ && (decide (0 ≤ cmpW ⟨xn, xh, xl⟩ (leastW k)) && decide (cmpW ⟨xn, xh, xl⟩ (greatW k) ≤ 0)))) = decide (cmpW ⟨xn, xh, xl⟩ ⟨gn, gh, gl⟩ ≤ 0)) := hid (by
    rw [HKB.out, HFM.out, HLW.out, HGW.out, HZ1.out, G.out]; rfl)
  generalize cmpW ⟨xn, xh, xl⟩ ⟨gn, gh, gl⟩ = z2 at *
  go_wp2
  go_ret
  exact ⟨by rw [HQ.out]; rfl, HK0.out.trans (HK4.out.trans HK6.out)⟩
end Go.Proofs.Ytkgkcnmnfhehfaa
